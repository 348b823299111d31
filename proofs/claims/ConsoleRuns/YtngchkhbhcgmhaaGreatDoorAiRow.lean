/- A part of the proof of ConsoleRuns: AiRow. -/
import Derived.JoinedOf
/- A row's lists out of a table of where each function leads: plain law. -/
namespace Go.Ai
open Go

/-- The closure over a table; what was seen is kept in one number's bits. -/
def viaB (L : Nat → List Nat) : Nat → List Nat → Nat → List Nat → Option (List Nat)
  | _, [], _, acc => some acc.reverse
  | 0, _ :: _, _, _ => none
  | n + 1, f :: todo, m, acc => bif m.testBit f then viaB L n todo m acc else viaB L n (L f ++ todo) (m ||| (1 <<< f)) (f :: acc)

theorem viaB_ok {P : Program} {L : Nat → List Nat} (hL : ∀ f, (P.funcs[f]?).elim [] P.leadsTo = L f) :
    ∀ (n k : Nat) (todo : List Nat) (m : Nat) (acc r : List Nat), (∀ x, m.testBit x = acc.contains x) → viaB L n todo m acc = some r → n < k → P.closureVia k todo acc = r
  | 0, _, _ :: _, _, _, _, _, h, _ => by simp [viaB] at h
  | 0, k + 1, [], _, acc, r, _, h, _ => by simp only [viaB, Option.some.injEq] at h; simp [Program.closureVia, h]
  | n + 1, k + 1, [], _, acc, r, _, h, _ => by simp only [viaB, Option.some.injEq] at h; simp [Program.closureVia, h]
  | n + 1, k + 1, f :: todo, m, acc, r, hm, h, hk => by
    unfold viaB at h
    unfold Program.closureVia
    rw [hm f] at h
    cases hc : acc.contains f with
    | true =>
      rw [hc] at h
      rw [if_pos rfl]
      exact viaB_ok hL n k todo m acc r hm h (by omega)
    | false =>
      rw [hc] at h
      rw [if_neg (by simp), hL f]
      refine viaB_ok hL n k (L f ++ todo) _ (f :: acc) r ?_ h (by omega)
      intro x
      rw [Nat.testBit_or, hm x, Nat.one_shiftLeft, Nat.testBit_two_pow, List.contains_cons, Bool.or_comm]
      congr 1
      by_cases hx : f = x
      · subst hx; simp
      · simp [hx, beq_eq_false_iff_ne.2 (Ne.symm hx)]

theorem closure_of {P : Program} {f : FuncId} (T : List (List Nat)) (C : List Nat) (n : Nat)
    (hT : P.funcs.toList.map P.leadsTo = T) (hC : viaB (fun g => (T[g]?).getD []) n [f] 0 [] = some C) (hn : n < (T.map fun l => l.length + 1).sum + 1) : P.closure f = C := by
  unfold Program.closure
  refine viaB_ok (L := fun g => (T[g]?).getD []) ?_ n _ [f] 0 [] C (fun x => by simp) hC ?_
  · intro g
    rw [← hT, List.getElem?_map]
    simp only [Array.getElem?_toList]
    cases P.funcs[g]? <;> rfl
  · rw [← hT] at hn
    rw [List.map_map] at hn
    have e : ((fun l : List Nat => l.length + 1) ∘ P.leadsTo) = fun g => (P.leadsTo g).length + 1 := rfl
    rw [e] at hn
    omega

theorem map_parts {α β : Type} {f : α → β} {l : List α} {a b : List β} (n : Nat) (h1 : (l.take n).map f = a) (h2 : (l.drop n).map f = b) : l.map f = a ++ b := by
  rw [← h1, ← h2, ← List.map_append, List.take_append_drop]

/-- Each function's own part of 'inPlace'. -/
def ipOf (fn : Func) : Option String := if fn.ours || fn.body.isNone || fn.name == "runtime.NumGoroutine" then some fn.name else none

theorem inPlace_of {P : Program} {f : FuncId} {C : List Nat} {r : List String} (hC : P.closure f = C) (h : C.filterMap (fun g => (P.funcs[g]?).bind ipOf) = r) : P.inPlace f = r := by
  unfold Program.inPlace
  rw [hC]
  exact h

theorem unfollowed_of {P : Program} {f : FuncId} {C : List Nat} (g : Nat) (hC : P.closure f = C) (hg : C.contains g = true) (h : ((P.funcs[g]?).any fun fn => match fn.body with | some c => c.unfollowed | none => entryCalls fn) = true) : P.unfollowed f = true := by
  unfold Program.unfollowed
  rw [hC, List.any_eq_true]
  exact ⟨g, by simpa using hg, h⟩

theorem recurses_of {P : Program} {f : FuncId} (h : P.unfollowed f = true) : P.recurses f = true := by
  unfold Program.recurses
  rw [h]
  rfl

theorem varsNamed_of {P : Program} {f : FuncId} {C G E : List Nat} {n1 n2 r : List String} (hC : P.closure f = C)
    (hG : (C.flatMap fun g => ((P.funcs[g]?).bind (·.body)).elim [] Code.globalsNamed) = G) (hE : G.eraseDups = E)
    (h1 : E.filterMap (fun g => (P.globals[g]?).map (·.name)) = n1)
    (h2 : C.filterMap (fun g => (P.funcs[g]?).bind fun fn => if fn.body.isNone then entryReads.lookup fn.name else none) = n2)
    (hr : (n1 ++ n2).eraseDups = r) : P.varsNamed f = r := by
  unfold Program.varsNamed
  rw [hC, hG, hE, h1, h2, hr]
end Go.Ai
