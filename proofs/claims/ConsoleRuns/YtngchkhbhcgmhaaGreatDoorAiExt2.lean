/- A part of the proof of ConsoleRuns: AiExt2. -/
import Derived.Test.YtngchkhbhcgmhaaGreatDoorAiExt
set_option linter.unusedVariables false
set_option linter.unusedSimpArgs false
set_option linter.unusedSectionVars false
set_option linter.unnecessarySimpa false
/- slices.overlaps. -/
namespace Go.Ai

section
variable {P : Program}

theorem overlaps_def (ps rs : Array TypeId) (a b : Option Addr) (la lb ca cb : Nat) : Extern.SlicesOverlaps.overlaps ps rs #[.slice a la ca, .slice b lb cb] = (do
    let some t := ps[0]? | stuck "slices.overlaps: no parameter types"
    let .slice elem ← underlying t | stuck "slices.overlaps: slice type expected"
    let size ← sizeOf elem
    match a, b with
    | some a, some b =>
      if la = 0 ∨ lb = 0 ∨ size = 0 then pure (.bool false)
      else if a.block != b.block && (← frozen a) && (← frozen b) then unsupported .addressObserved
      else do
        if a.block != b.block then do
          noView a; noView b
          if ← mayBeOne a b then return .bool ((← choose (.extern "sameAddr.stringBytes" 2)) == 1)
        pure (.bool (a.block == b.block && a.off < b.off + lb * size && b.off < a.off + la * size))
    | _, _ => pure (.bool false)) := rfl

theorem ext_overlaps {ps rs : Array TypeId} {t e : TypeId} {n : Nat} (hr : ps[0]? = some t) (ht : P.underlying t = some (.slice e)) (hsz : tsz P e = some n) : ExtSem P (Extern.SlicesOverlaps.overlaps ps rs) .overlaps := by
  intro h ι w args xs v h' hs he ha
  rcases args with _ | ⟨a0, _ | ⟨a1, _ | ⟨a2, args⟩⟩⟩
  · simp [externA] at he
  · simp [externA] at he
  · obtain ⟨x, y, rfl, hx, hy⟩ := args2 ha
    have fin : ∀ (a b : Option Addr) (la lb ca cb : Nat), (a = none ∨ b = none ∨ la = 0 ∨ lb = 0) → (Extern.SlicesOverlaps.overlaps ps rs #[.slice a la ca, .slice b lb cb]).run P w = .ok (.bool false) w := by
      intro a b la lb ca cb hh
      rw [overlaps_def]
      rcases hh with rfl | rfl | rfl | rfl
      · simp [hr, run_underlying ht, run_sizeOf' hsz]
      · cases a <;> simp [hr, run_underlying ht, run_sizeOf' hsz]
      · cases a <;> cases b <;> simp [hr, run_underlying ht, run_sizeOf' hsz]
      · cases a <;> cases b <;> simp [hr, run_underlying ht, run_sizeOf' hsz]
    simp only [externA] at he
    split at he
    · simp only [Option.some.injEq, Prod.mk.injEq] at he
      obtain ⟨rfl, rfl⟩ := he
      cases hx; cases hy
      exact ⟨_, w, ι, fin _ _ _ _ _ _ (.inl rfl), .bool _, .refl hs⟩
    · simp only [Option.some.injEq, Prod.mk.injEq] at he
      obtain ⟨rfl, rfl⟩ := he
      cases hx; cases hy
      exact ⟨_, w, ι, fin _ _ _ _ _ _ (.inl rfl), .bool _, .refl hs⟩
    · simp only [Option.some.injEq, Prod.mk.injEq] at he
      obtain ⟨rfl, rfl⟩ := he
      cases hx; cases hy
      exact ⟨_, w, ι, fin _ _ _ _ _ _ (.inr (.inl rfl)), .bool _, .refl hs⟩
    · rename_i F g o s1 n1 c1 F' g' o' s2 n2 c2
      split at he
      · rename_i f f' hF hf hf'
        split at he
        · rename_i hc
          simp only [Option.some.injEq, Prod.mk.injEq] at he
          obtain ⟨rfl, rfl⟩ := he
          simp only [Bool.and_eq_true, Bool.not_eq_true'] at hc
          obtain ⟨⟨⟨⟨⟨a1, a2⟩, a3⟩, a4⟩, m1⟩, m2⟩ := hc
          have m1 : 1 ≤ n1 := Nat.le_of_ble_eq_true m1
          have m2 : 1 ≤ n2 := Nat.le_of_ble_eq_true m2
          have a1 : f.frz = 0 := Nat.eq_of_beq_eq_true a1
          have a3 : f'.frz = 0 := Nat.eq_of_beq_eq_true a3
          have hne : F ≠ F' := fun q => by rw [q, Nat.beq_refl] at hF; cases hF
          cases hx with
          | slc hi hs1 hn1 hm1 hN1 hc1 hu1 ha1 =>
          cases hy with
          | slc hi' hs2 hn2 hm2 hN2 hc2 hu2 ha2 =>
          rename_i L a k L' a' k'
          have e1 := ha1 (by omega)
          have e2 := ha2 (by omega)
          subst e1; subst e2
          obtain ⟨_, _, _, hk, _, _, _, hown⟩ := hs.rel.at hf hi
          obtain ⟨_, _, _, hk', _, _, _, hown'⟩ := hs.rel.at hf' hi'
          have hb : L.b ≠ L'.b := fun e => hne (hs.rel.dis F F' L L' hown hown' e)
          obtain ⟨arr, fr, hg, hN, hc, hz1, hz2⟩ := hk.ex
          obtain ⟨arr', fr', hg', hN', hc', hz1', hz2'⟩ := hk'.ex
          have hfz : ∀ off, L.p ≤ off → (decide (fr.1 ≤ off) && decide (off < fr.2)) = false := by
            intro off ho
            have := hz1 off (by rw [a1]; omega) (fun e => by rw [a2] at e; cases e)
            simpa using this
          have hfz' : ∀ off, L'.p ≤ off → (decide (fr'.1 ≤ off) && decide (off < fr'.2)) = false := by
            intro off ho
            have := hz1' off (by rw [a3]; omega) (fun e => by rw [a4] at e; cases e)
            simpa using this
          have e1 : w.frozen? ⟨L.b, L.p + o, none⟩ = false := by
            simp only [World.frozen?, hg]
            exact hfz _ (by omega)
          have s1' : w.shape? L.b = some (f.elem, arr.size) := by simp [World.shape?, hg]
          have s2' : w.shape? L'.b = some (f'.elem, arr'.size) := by simp [World.shape?, hg']
          have e2 : w.frozen? ⟨L.b, arr.size, none⟩ = false := by
            simp only [World.frozen?, hg]
            exact hfz _ (by have := hk.fit; omega)
          have e2' : w.frozen? ⟨L'.b, arr'.size, none⟩ = false := by
            simp only [World.frozen?, hg']
            exact hfz' _ (by have := hk'.fit; omega)
          have e1' : w.frozen? ⟨L'.b, L'.p + o', none⟩ = false := by
            simp only [World.frozen?, hg']
            exact hfz' _ (by omega)
          refine ⟨.bool false, w, ι, ?_, .bool _, .refl hs⟩
          rw [overlaps_def]
          have hbb : (L.b == L'.b) = false := by simpa using hb
          have hn1 : n1 ≠ 0 := by omega
          have hn2 : n2 ≠ 0 := by omega
          by_cases hn0 : n = 0
          · simp [hr, run_underlying ht, run_sizeOf' hsz, hn0]
          · simp [hr, run_underlying ht, run_sizeOf' hsz, hn0, hn1, hn2, hbb, hb, e1, e1', noView, viewAt, s1', s2', mayBeOne, stringish, e2, e2']
        · cases he
      · split at he
        · rename_i hz
          simp only [Option.some.injEq, Prod.mk.injEq] at he
          obtain ⟨rfl, rfl⟩ := he
          simp only [Bool.or_eq_true] at hz
          cases hx; cases hy
          refine ⟨_, w, ι, fin _ _ _ _ _ _ ?_, .bool _, .refl hs⟩
          rcases hz with q | q
          · exact .inr (.inr (.inl (Nat.eq_of_beq_eq_true q)))
          · exact .inr (.inr (.inr (Nat.eq_of_beq_eq_true q)))
        · cases he
    · cases he
  · simp [externA] at he
end
end Go.Ai
