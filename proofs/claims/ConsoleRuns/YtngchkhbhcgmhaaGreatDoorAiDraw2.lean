/- A part of the proof of ConsoleRuns: AiDraw2. -/
import Derived.Test.YtngchkhbhcgmhaaGreatDoorAiDraw1
set_option linter.unusedVariables false
set_option linter.unusedSimpArgs false
set_option linter.unusedSectionVars false
set_option linter.unnecessarySimpa false
/- Operations by their classes: what each leaves. -/
namespace Go.Ai

section
variable {P : Program} {X : Cx} {h h' : H}

theorem pure_heap {e : Env} {op : Op} {v : AV} {h1 : H} (hc : clsOf P op = .pure) (ho : opA P X h e op = some (.val v h1)) : h1 = h := by
  cases op <;> simp only [clsOf] at hc <;> try cases hc
  case call c =>
    simp only [opA] at ho
    split at ho
    · rename_i args ha
      obtain ⟨ce, as, ts⟩ := c
      cases ce with
      | value f => cases hc
      | invoke r n => cases hc
      | builtin b =>
        simp only at ho hc
        cases b <;> simp only at hc <;> try cases hc
        all_goals (unfold builtinA at ho; split at ho <;> (first | cases ho | skip))
        all_goals (try (rename_i hb _ _; cases hb))
        all_goals (try (split at ho <;> cases ho; rfl))
        all_goals (try rfl)
        all_goals simp_all
    · cases ho
  case convert s d x =>
    simp only [opA] at ho
    split at ho
    · rename_i a ha
      obtain ⟨v', h2, h3, hq⟩ := ph_some ho
      cases hq
      split at hc
      · rename_i hi
        unfold isIntTy at hi
        split at hi
        · rename_i k hd
          unfold convA at h3
          rw [hd] at h3
          split at h3 <;> simp_all
        · cases hi
      · cases hc
    · cases ho
  all_goals (simp only [opA] at ho)
  all_goals (repeat' (first | (cases ho; done) | (obtain ⟨v', _, hq⟩ := vh_some ho; cases hq; rfl) | split at ho))

theorem store_step {e : Env} {op : Op} {r : AR} (hc : clsOf P op = .store) (ho : opA P X h e op = some r) :
    ∃ F f f', (∃ t a x g o n, op = .store t a x ∧ e a = some (.ptr F g o n)) ∧ h.obj F = some (.cells f) ∧ r = .val .undef (h.put F (.cells f')) ∧
      ∀ h2 : H, h2.obj F = some (.cells f) → opA P X h2 e op = some (.val .undef (h2.put F (.cells f'))) := by
  cases op <;> simp only [clsOf] at hc <;> try cases hc
  case call c =>
    obtain ⟨ce, as, ts⟩ := c
    cases ce <;> simp only at hc <;> try cases hc
    split at hc <;> cases hc
  case convert s d x => split at hc <;> cases hc
  case store t a x =>
    simp only [opA] at ho ⊢
    split at ho
    · rename_i p v hp hv
      obtain ⟨h1, hs, hq⟩ := uh_some ho
      unfold storeVarA at hs
      split at hs
      · rename_i F g o n
        split at hs
        · rename_i sz hsz
          split at hs
          · rename_i c1 c2 c3
            unfold H.store at hs
            split at hs
            · rename_i f hf
              split at hs
              · rename_i d1 d2 d3 d4
                cases hs
                obtain ⟨ho1, ho2, ho3⟩ := H.fam_some hf
                refine ⟨F, f, f.store o v.cells, ⟨t, a, x, g, o, n, rfl, hp⟩, ho1, hq, ?_⟩
                intro h2 hh2
                have hf2 : h2.fam F g = some f := by rw [fam_congr (hh2.trans ho1.symm)]; exact hf
                simp only [hp, hv, storeVarA, hsz, c1, c2, c3, H.store, hf2, d1, d2, d3, d4, uh]
              · cases hs
            · cases hs
          · cases hs
        · cases hs
      · cases hs
    · cases ho

theorem boxA_step {t : TypeId} {v r : AV} {h1 : H} (hb : boxA h t v = some (r, h1)) : ∃ o, h1 = h.new o ∧ ∀ h2 : H, h2.nx = h.nx → boxA h2 t v = some (r, h2.new o) := by
  cases v <;> simp only [boxA, Option.some.injEq, Prod.mk.injEq, reduceCtorEq] at hb
  all_goals (obtain ⟨rfl, rfl⟩ := hb; exact ⟨_, rfl, fun h2 he => by simp [boxA, he]⟩)

theorem alloc_step {e : Env} {op : Op} {r : AR} (hc : clsOf P op = .alloc) (ho : opA P X h e op = some r) :
    ∃ v o, r = .val v (h.new o) ∧ ∀ h2 : H, h2.nx = h.nx → opA P X h2 e op = some (.val v (h2.new o)) := by
  cases op <;> simp only [clsOf] at hc <;> try cases hc
  case call c =>
    obtain ⟨ce, as, ts⟩ := c
    cases ce <;> simp only at hc <;> try cases hc
    split at hc <;> cases hc
  case convert s d x => split at hc <;> cases hc
  case alloc t =>
    simp only [opA] at ho ⊢
    split at ho
    · rename_i z hz
      obtain ⟨v, h1, hb, hq⟩ := ph_some ho
      obtain ⟨o, rfl, h3⟩ := boxA_step hb
      exact ⟨v, o, hq, fun h2 he => by simp only [hz, h3 h2 he, ph]⟩
    · cases ho
  case box t x =>
    simp only [opA] at ho ⊢
    split at ho
    · rename_i z hz
      obtain ⟨v, h1, hb, hq⟩ := ph_some ho
      obtain ⟨o, rfl, h3⟩ := boxA_step hb
      exact ⟨v, o, hq, fun h2 he => by simp only [hz, h3 h2 he, ph]⟩
    · cases ho
  case buildSlice t n ps =>
    simp only [opA] at ho ⊢
    split at ho
    · rename_i l hl
      obtain ⟨v, h1, hb, hq⟩ := ph_some ho
      unfold buildSliceA at hb
      split at hb
      · rename_i el hu
        split at hb
        · rename_i s z hs hz
          split at hb
          · rename_i cs c1 c2
            cases hb
            refine ⟨_, _, hq, fun h2 he => ?_⟩
            simp only [hl, buildSliceA, hu, hs, hz, c1, c2, ph, he]
          · cases hb
        · cases hb
      · cases hb
    · cases ho
  case makeMap t rs =>
    cases rs with
    | none =>
      simp only [opA, ph, Option.some.injEq] at ho ⊢
      exact ⟨_, _, ho.symm, fun h2 he => by rw [he]⟩
    | some x => simp [opA] at ho
  case makeSlice t l c =>
    simp only [opA] at ho ⊢
    split at ho
    · rename_i a b ha hb'
      obtain ⟨v, h1, hb, hq⟩ := ph_some ho
      unfold makeSliceA at hb
      split at hb
      · rename_i el hu
        split at hb
        · rename_i l' c' s by_ z q1 q2 q3 q4 q5
          split at hb
          · rename_i c1
            cases hb
            refine ⟨_, _, hq, fun h2 he => ?_⟩
            simp only [ha, hb', makeSliceA, hu, q1, q2, q3, q4, q5, c1, ph, he]
          · cases hb
        · cases hb
      · cases hb
    · cases ho
end
end Go.Ai
