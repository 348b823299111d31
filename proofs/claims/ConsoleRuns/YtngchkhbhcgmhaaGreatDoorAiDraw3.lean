/- A part of the proof of ConsoleRuns: AiDraw3. -/
import Derived.Test.YtngchkhbhcgmhaaGreatDoorAiDraw2
set_option linter.unusedVariables false
set_option linter.unusedSimpArgs false
set_option linter.unusedSectionVars false
set_option linter.unnecessarySimpa false
/- Steps of a drawn region, told of places in memory and of temporaries alone; which of them commute. -/
namespace Go.Ai
open Classical

/-- an operation, as it stood in the text's own order -/
structure It where
  k : Nat
  i : Item
  v : AV

section
variable (P : Program)

def Foot (x : It) (F : Nat) : Prop := x.i.ran = true ∧ match clsOf P x.i.o.op with
  | .pure => False
  | .load => False
  | .store => addrF P x.i = some F
  | .alloc => F = x.i.h0.nx
  | .hard => F < x.i.h1.nx

noncomputable def over (x : It) (ob : Nat → Option AO) : Nat → Option AO := fun F => if Foot P x F then x.i.h1.obj F else ob F

def updT (t : Nat → Option AV) (d : Option Tmp) (v : AV) : Nat → Option AV := match d with
  | some d => fun e => if e = d then some v else t e
  | none => t

/-- a reading gives what it gave -/
def Rd (x : It) (ob : Nat → Option AO) : Prop := ∃ h : H, (∀ F, addrL P x.i = some F → h.obj F = ob F) ∧ readA P h (ev P x.i.t) x.i.o.op = some x.v

def evF (t : Nat → Option AV) : Env
  | .tmp n => t n
  | y => ev P .lf y

theorem ev_evF (t : Tr AV) (y : Operand) : ev P t y = evF P t.get y := by cases y <;> rfl

def yieldF (ops : List Oper) (t : Nat → Option AV) (j : Nat) : Option (Option Bool) := match ops[j]? with
  | some o => match o.dst with
    | some d => match t d with
      | some (.bool b) => some (some b)
      | some (.tup _) => some none
      | _ => none
    | none => none
  | none => none

def wantedF (ops : List Oper) (t : Nat → Option AV) (o : Oper) : Option Bool := match o.guard with
  | none => some true
  | some (j, b) => match yieldF ops t j with
    | some (some c) => some (c == b)
    | some none => some false
    | none => none

theorem wanted_F (ops : List Oper) (t : Tr AV) (o : Oper) : wantedA ops t o = wantedF ops t.get o := rfl

/-- one step -/
structure Sp (ops : List Oper) (x : It) (t : Nat → Option AV) (ob : Nat → Option AO) (t' : Nat → Option AV) (ob' : Nat → Option AO) : Prop where
  wanted : wantedF ops t x.i.o = some x.i.ran
  opnds : x.i.ran = true → ∀ y ∈ x.i.o.op.operands, evF P t y = ev P x.i.t y
  rd : x.i.ran = true → clsOf P x.i.o.op = .load → Rd P x ob
  foot : ∀ F, Foot P x F → ob F = x.i.h0.obj F
  tmps : t' = updT t x.i.o.dst x.v
  obj : ob' = over P x ob

inductive Chain (ops : List Oper) : List It → (Nat → Option AV) → (Nat → Option AO) → (Nat → Option AV) → (Nat → Option AO) → Prop
  | nil (t ob) : Chain ops [] t ob t ob
  | cons {x l t ob t1 ob1 t2 ob2} (h : Sp P ops x t ob t1 ob1) (hl : Chain ops l t1 ob1 t2 ob2) : Chain ops (x :: l) t ob t2 ob2

/-- two steps, the first ahead of the second in the text, that may be turned -/
structure Turn (ops : List Oper) (j i : It) : Prop where
  dst : ∀ d, j.i.o.dst = some d → i.i.o.dst ≠ some d
  d1 : ∀ d, j.i.o.dst = some d → Operand.tmp d ∉ i.i.o.op.operands
  d2 : ∀ d, i.i.o.dst = some d → Operand.tmp d ∉ j.i.o.op.operands
  g1 : ∀ g b o d, i.i.o.guard = some (g, b) → ops[g]? = some o → o.dst = some d → j.i.o.dst ≠ some d
  g2 : ∀ g b o d, j.i.o.guard = some (g, b) → ops[g]? = some o → o.dst = some d → i.i.o.dst ≠ some d
  feet : ∀ F, Foot P j F → Foot P i F → False
  lw : j.i.ran = true → clsOf P j.i.o.op = .load → ∀ ob, (∀ F, Foot P i F → ob F = i.i.h0.obj F) → Rd P j ob → Rd P j (over P i ob)
  wl : i.i.ran = true → clsOf P i.i.o.op = .load → ∀ ob, (∀ F, Foot P j F → ob F = j.i.h0.obj F) → Rd P i (over P j ob) → Rd P i ob

end

section
variable {P : Program} {ops : List Oper}

theorem updT_comm (t : Nat → Option AV) {a b : Option Tmp} (v w : AV) (h : ∀ d, a = some d → b ≠ some d) : updT (updT t a v) b w = updT (updT t b w) a v := by
  cases a with
  | none => rfl
  | some a =>
    cases b with
    | none => rfl
    | some b =>
      have hne : b ≠ a := fun e => h a rfl (by rw [e])
      funext e
      simp only [updT]
      by_cases h1 : e = b
      · subst h1; simp [hne]
      · by_cases h2 : e = a <;> simp [h1, h2, Ne.symm hne]

theorem updT_ne (t : Nat → Option AV) {a : Option Tmp} (v : AV) {e : Nat} (h : a ≠ some e) : updT t a v e = t e := by
  cases a with
  | none => rfl
  | some a => simp only [updT]; rw [if_neg (fun q => h (by rw [q]))]

theorem evF_upd (t : Nat → Option AV) {a : Option Tmp} (v : AV) {y : Operand} (h : ∀ d, a = some d → y ≠ .tmp d) : evF P (updT t a v) y = evF P t y := by
  cases y with
  | tmp n => exact updT_ne t v (fun q => h n q rfl)
  | _ => rfl

theorem wantedF_upd (t : Nat → Option AV) {a : Option Tmp} (v : AV) {o : Oper} (h : ∀ g b o' d, o.guard = some (g, b) → ops[g]? = some o' → o'.dst = some d → a ≠ some d) : wantedF ops (updT t a v) o = wantedF ops t o := by
  unfold wantedF
  cases hg : o.guard with
  | none => rfl
  | some q =>
    obtain ⟨g, b⟩ := q
    simp only
    have : yieldF ops (updT t a v) g = yieldF ops t g := by
      unfold yieldF
      cases ho : ops[g]? with
      | none => rfl
      | some o' =>
        simp only
        cases hd : o'.dst with
        | none => rfl
        | some d => simp only [updT_ne t v (h g b o' d hg ho hd)]
    rw [this]

theorem Sp.turn {j i : It} {t t1 t2 : Nat → Option AV} {ob ob1 ob2 : Nat → Option AO} (ht : Turn P ops j i) (hj : Sp P ops j t ob t1 ob1) (hi : Sp P ops i t1 ob1 t2 ob2) :
    ∃ t' ob', Sp P ops i t ob t' ob' ∧ Sp P ops j t' ob' t2 ob2 := by
  have e1 := hj.tmps
  have e2 := hj.obj
  have e3 := hi.tmps
  have e4 := hi.obj
  subst e1 e2
  subst e3 e4
  have hfi : ∀ F, Foot P i F → ob F = i.i.h0.obj F := by
    intro F hF
    have h1 := hi.foot F hF
    have h2 : over P j ob F = ob F := by unfold over; rw [if_neg (fun q => ht.feet F q hF)]
    rw [← h1, h2]
  have hr : i.i.ran = true → clsOf P i.i.o.op = .load → Rd P i ob := fun a b => ht.wl a b ob hj.foot (hi.rd a b)
  refine ⟨updT t i.i.o.dst i.v, over P i ob, ⟨?_, ?_, hr, hfi, rfl, rfl⟩, ⟨?_, ?_, ?_, ?_, ?_, ?_⟩⟩
  · rw [← hi.wanted]
    exact (wantedF_upd t j.v (fun g b o d a1 a2 a3 => ht.g1 g b o d a1 a2 a3)).symm
  · intro a y hy
    rw [← hi.opnds a y hy]
    exact (evF_upd t j.v (fun d hd e => ht.d1 d hd (by rw [← e]; exact hy))).symm
  · rw [← hj.wanted]
    exact wantedF_upd t i.v (fun g b o d a1 a2 a3 => ht.g2 g b o d a1 a2 a3)
  · intro a y hy
    rw [← hj.opnds a y hy]
    exact evF_upd t i.v (fun d hd e => ht.d2 d hd (by rw [← e]; exact hy))
  · intro a b
    exact ht.lw a b ob hfi (hj.rd a b)
  · intro F hF
    rw [← hj.foot F hF]
    unfold over
    rw [if_neg (fun q => ht.feet F hF q)]
  · exact updT_comm t j.v i.v (fun d hd => ht.dst d hd)
  · funext F
    unfold over
    by_cases h1 : Foot P i F
    · have h2 : ¬ Foot P j F := fun q => ht.feet F q h1
      simp [h1, h2]
    · simp [h1]

theorem Chain.front {l1 l2 : List It} {x : It} : ∀ {t t2 : Nat → Option AV} {ob ob2 : Nat → Option AO}, (∀ j ∈ l1, Turn P ops j x) → Chain P ops (l1 ++ x :: l2) t ob t2 ob2 →
    ∃ t' ob', Sp P ops x t ob t' ob' ∧ Chain P ops (l1 ++ l2) t' ob' t2 ob2 := by
  induction l1 with
  | nil =>
    intro t t2 ob ob2 _ hc
    cases hc with
    | cons h hl => exact ⟨_, _, h, hl⟩
  | cons j l1 ih =>
    intro t t2 ob ob2 ht hc
    cases hc with
    | cons h hl =>
      obtain ⟨t1, ob1, a, b⟩ := ih (fun j hj => ht j (by simp [hj])) hl
      obtain ⟨t', ob', c, d⟩ := Sp.turn (ht j (by simp)) h a
      exact ⟨t', ob', c, .cons d b⟩

/-- what the text's own run says of a step -/
structure Fact (P : Program) (x : It) : Prop where
  lt0 : ∀ F o, x.i.h0.obj F = some o → F < x.i.h0.nx
  le : x.i.h0.nx ≤ x.i.h1.nx
  one : x.i.ran = true → clsOf P x.i.o.op = .alloc → x.i.h1.nx = x.i.h0.nx + 1
  sto : x.i.ran = true → clsOf P x.i.o.op = .store → ∃ F, addrF P x.i = some F ∧ x.i.h0.obj F ≠ none

theorem Rd.of {x : It} {h : H} {ob : Nat → Option AO} (hh : ∀ F, addrL P x.i = some F → h.obj F = ob F) (hr : readA P h (ev P x.i.t) x.i.o.op = some x.v) : Rd P x ob := ⟨h, hh, hr⟩
theorem Rd.to {x : It} {ob : Nat → Option AO} (hr : Rd P x ob) {h : H} (hh : ∀ F, addrL P x.i = some F → h.obj F = ob F) : readA P h (ev P x.i.t) x.i.o.op = some x.v := by
  obtain ⟨h', a, b⟩ := hr
  rw [← b]
  exact readA_congr (fun F hF => (hh F hF).trans (a F hF).symm)
theorem Rd.congr {x : It} {ob ob' : Nat → Option AO} (hr : Rd P x ob) (hh : ∀ F, addrL P x.i = some F → ob' F = ob F) : Rd P x ob' := by
  obtain ⟨h, a, b⟩ := hr
  exact ⟨h, fun F hF => (a F hF).trans (hh F hF).symm, b⟩
theorem Rd.ne {x : It} {ob : Nat → Option AO} (hr : Rd P x ob) {F : Nat} (hF : addrL P x.i = some F) : ob F ≠ none := by
  obtain ⟨h, a, b⟩ := hr
  rw [← a F hF]
  exact readA_some b hF

theorem sameO_eq {a b : Option AV} (h : sameO a b = true) : ∃ v, a = some v ∧ b = some v := by
  cases a with
  | none => cases h
  | some a =>
    cases b with
    | none => cases h
    | some b => exact ⟨a, rfl, by rw [same_eq 100 a b h]⟩

/-- a reading that is the same on both sides of a step, goes over the step -/
theorem Rd.past {l e : It} {ob : Nat → Option AO} (hs : readsSame P l.i e.i = true) {G : Nat} (hG : addrL P l.i = some G) (hf : Foot P e G) (hob : ob G = e.i.h0.obj G) (hr : Rd P l ob) : Rd P l (over P e ob) := by
  obtain ⟨v, h1, h2⟩ := sameO_eq hs
  have h3 := hr.to (h := e.i.h0) (fun F hF => by rw [hG] at hF; cases hF; exact hob.symm)
  rw [h1] at h3
  cases h3
  exact .of (h := e.i.h1) (fun F hF => by rw [hG] at hF; cases hF; unfold over; rw [if_pos hf]) h2

theorem Rd.back {l e : It} {ob : Nat → Option AO} (hs : readsSame P l.i e.i = true) {G : Nat} (hG : addrL P l.i = some G) (hf : Foot P e G) (hob : ob G = e.i.h0.obj G) (hr : Rd P l (over P e ob)) : Rd P l ob := by
  obtain ⟨v, h1, h2⟩ := sameO_eq hs
  have h3 := hr.to (h := e.i.h1) (fun F hF => by rw [hG] at hF; cases hF; unfold over; rw [if_pos hf])
  rw [h2] at h3
  cases h3
  exact .of (h := e.i.h0) (fun F hF => by rw [hG] at hF; cases hF; exact hob.symm) h1

theorem readsSame_some {l e : Item} (hs : readsSame P l e = true) {G : Nat} (hG : addrL P l = some G) : e.h0.obj G ≠ none := by
  obtain ⟨v, h1, h2⟩ := sameO_eq hs
  exact readA_some h1 hG

theorem over_ne {x : It} {ob : Nat → Option AO} {F : Nat} (h : ¬ Foot P x F) : over P x ob F = ob F := by unfold over; rw [if_neg h]

theorem hasDst_false {o : Oper} {l : List Nat} (h : hasDst o l = false) {d : Nat} (hd : o.dst = some d) : d ∉ l := by
  unfold hasDst at h
  rw [hd] at h
  simpa using h
theorem tmpsOf_mem {l : List Operand} {d : Nat} (h : Operand.tmp d ∈ l) : d ∈ tmpsOf l := by
  unfold tmpsOf
  rw [List.mem_filterMap]
  exact ⟨_, h, rfl⟩

theorem Turn.of {j i : It} (fj : Fact P j) (fi : Fact P i) (hlt : j.i.h1.nx ≤ i.i.h0.nx) (hm : mayTurn P j.i.o i.i.o = true) (hp : dynPair P j.i i.i = true)
    (hdst : ∀ d, j.i.o.dst = some d → i.i.o.dst ≠ some d)
    (g1 : ∀ g b o d, i.i.o.guard = some (g, b) → ops[g]? = some o → o.dst = some d → j.i.o.dst ≠ some d)
    (g2 : ∀ g b o d, j.i.o.guard = some (g, b) → ops[g]? = some o → o.dst = some d → i.i.o.dst ≠ some d) : Turn P ops j i := by
  unfold mayTurn at hm
  simp only [Bool.and_eq_true, Bool.not_eq_true'] at hm
  obtain ⟨⟨m1, m2⟩, m3⟩ := hm
  have hp' : j.i.ran = true → i.i.ran = true → (match clsOf P j.i.o.op, clsOf P i.i.o.op with
    | .load, .hard => hardLoad P i.i j.i
    | .load, .store => storeLoad P i.i j.i
    | .hard, .load => hardLoad P j.i i.i
    | .store, .load => storeLoad P j.i i.i
    | .store, .store => optNe (addrF P j.i) (addrF P i.i)
    | .alloc, .store => optNe (some j.i.h0.nx) (addrF P i.i)
    | .alloc, .load => dfr j.i.h0.nx (addrL P i.i)
    | _, _ => true) = true := by
    intro a b
    unfold dynPair at hp
    rw [a, b] at hp
    simp only [Bool.and_self] at hp
    exact hp
  refine ⟨hdst, fun d hd hq => hasDst_false m1 hd (tmpsOf_mem (by simpa using hq)), fun d hd hq => hasDst_false m2 hd (tmpsOf_mem (by simpa using hq)), g1, g2, ?_, ?_, ?_⟩
  · rintro F ⟨rj, hj⟩ ⟨ri, hi⟩
    have hd := hp' rj ri
    cases cj : clsOf P j.i.o.op <;> cases ci : clsOf P i.i.o.op <;> simp only [cj, ci] at hj hi m3 hd <;> try cases m3
    · rw [hj, hi] at hd
      simp [optNe] at hd
    · obtain ⟨G, q1, q2⟩ := fj.sto rj cj
      rw [q1] at hj
      cases hj
      cases ho : j.i.h0.obj F with
      | none => exact q2 ho
      | some o => have := fj.lt0 F o ho; have := fj.le; omega
    · rw [hi, hj] at hd
      simp [optNe] at hd
    · have := fj.one rj cj
      omega
    · omega
  · intro rj cj ob hf hr
    cases ha : addrL P j.i with
    | none => exact hr.congr (fun F hF => by rw [ha] at hF; cases hF)
    | some G =>
      by_cases hG : Foot P i G
      · have ri := hG.1
        have hd := hp' rj ri
        have hG2 := hG.2
        cases ci : clsOf P i.i.o.op <;> simp only [cj, ci] at hd hG2
        · unfold storeLoad at hd
          rw [hG2, ha] at hd
          simp only [dfr, Nat.beq_refl, Bool.not_true] at hd
          exact hr.past hd ha hG (hf G hG)
        · have := hr.ne ha
          rw [hf G hG, hG2] at this
          cases ho : i.i.h0.obj i.i.h0.nx with
          | none => exact absurd ho this
          | some o => have := fi.lt0 _ o ho; omega
        · unfold hardLoad at hd
          rw [ha] at hd
          exact hr.past hd ha hG (hf G hG)
      · exact hr.congr (fun F hF => by rw [ha] at hF; cases hF; exact over_ne hG)
  · intro ri ci ob hf hr
    cases ha : addrL P i.i with
    | none => exact hr.congr (fun F hF => by rw [ha] at hF; cases hF)
    | some G =>
      by_cases hG : Foot P j G
      · have rj := hG.1
        have hd := hp' rj ri
        have hG2 := hG.2
        cases cj : clsOf P j.i.o.op <;> simp only [cj, ci] at hd hG2
        · unfold storeLoad at hd
          rw [hG2, ha] at hd
          simp only [dfr, Nat.beq_refl, Bool.not_true] at hd
          exact hr.back hd ha hG (hf G hG)
        · rw [ha, hG2] at hd
          simp [dfr] at hd
        · unfold hardLoad at hd
          rw [ha] at hd
          exact hr.back hd ha hG (hf G hG)
      · exact hr.congr (fun F hF => by rw [ha] at hF; cases hF; exact (over_ne hG).symm)
end
end Go.Ai
