/- A part of the proof of ConsoleRuns: AiOps12. -/
import Derived.Test.YtngchkhbhcgmhaaGreatDoorAiOps11
set_option linter.unusedVariables false
set_option linter.unusedSimpArgs false
set_option linter.unusedSectionVars false
set_option linter.unnecessarySimpa false
/- Methods, calls of builtins: what one operation does. -/
namespace Go.Ai

section
variable {P : Program} {ι κ : Emb} {w w' : World} {h h' : H}

theorem follow_rel : ∀ (path : List FieldStep) (t : TypeId) (v : AV) (y : Value) (u : TypeId) (a : AV), followA P path t v = some (u, a) → VRel P ι v y →
    ∃ x, (∀ w, (follow path t (.val y)).run P w = .ok (u, .val x) w) ∧ VRel P ι a x
  | [], t, v, y, u, a, hf, hv => by
    simp [followA] at hf
    obtain ⟨rfl, rfl⟩ := hf
    exact ⟨y, fun w => by simp [follow], hv⟩
  | s :: rest, t, v, y, u, a, hf, hv => by
    unfold followA at hf
    split at hf
    · rename_i fs cs hu hd
      split at hf
      · rename_i f hff
        split at hf
        · rename_i b hb
          cases hv with
          | agg hl =>
          obtain ⟨x, q1, q2⟩ := part_rel hb hl
          obtain ⟨z, r1, r2⟩ := follow_rel rest f.type b x u a hf q2
          refine ⟨z, fun w => ?_, r2⟩
          have hfe : fs[s.index]? = some f := fieldsAt_arr hff
          simp [follow, run_underlying hu, hfe, hd, q1 w, r1 w]
        · cases hf
      · cases hf
    · cases hf

theorem method_rel {t : TypeId} {v a : AV} {y : Value} {name : String} {f : FuncId} (hm : methodA P t v name = some (f, a)) (hv : VRel P ι v y) (n : Nat) :
    ∃ x, (∀ w, (method (n + 1) t y name).run P w = .ok (f, x) w) ∧ VRel P ι a x := by
  unfold methodA at hm
  split at hm
  · rename_i m hmm
    split at hm
    · rename_i xt b hfo
      obtain ⟨x, q1, q2⟩ := follow_rel _ _ _ _ _ _ hfo hv
      have hi : ∃ i, P.info? t = some i ∧ i.methods.find? (·.name == name) = some m := by
        cases hi : P.info? t with
        | none => simp [hi] at hmm
        | some i => exact ⟨i, rfl, by simpa [hi] using hmm⟩
      obtain ⟨i, hi, hfm⟩ := hi
      split at hm
      · rename_i f' hfu hu
        cases hm
        refine ⟨x, fun w => ?_, q2⟩
        simp [method, run_typeInfo' hi, hfm, q1 w, hfu, receiverAt, run_underlying hu, Place.get]
      · cases hm
      · rename_i f' d hne hfu hu
        cases hm
        refine ⟨x, fun w => ?_, q2⟩
        have hd : ∀ e, d ≠ .pointer e := fun e q => by subst q; exact hne e rfl
        cases d <;> first
          | exact absurd rfl (hd _)
          | simp [method, run_typeInfo' hi, hfm, q1 w, hfu, receiverAt, run_underlying hu, Place.get]
      · cases hm
    · cases hm
  · cases hm
end
end Go.Ai
