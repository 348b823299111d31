/- A part of the proof of ConsoleRuns: AiOps14. -/
import Derived.Test.YtngchkhbhcgmhaaGreatDoorAiOps13
set_option linter.unusedVariables false
set_option linter.unusedSimpArgs false
set_option linter.unusedSectionVars false
set_option linter.unnecessarySimpa false
/- One operation: all of them. -/
namespace Go.Ai

section
variable {P : Program} {X : Cx} {ι κ : Emb} {w w' : World} {h h' : H}

theorem optRel_of {e : Env} {ρ : Operand → Value} (he : ∀ x v, e x = some v → VRel P ι v (ρ x)) {o : Option Operand} {r : Option AV} (h : evO e o = some r) : OptRel P ι r (o.map ρ) := evO_rel he h

theorem opA_sim (hx : ExtOk P X) (hs : St P h ι w) {e : Env} {ρ : Operand → Value} (he : ∀ x v, e x = some v → VRel P ι v (ρ x)) (o : Oper) {r : AR} (ho : opA P X h e o.op = some r) :
    OpSim P h ι w ((execOp ρ o).run P w) r := by
  obtain ⟨dst, op, type, guard, after⟩ := o
  simp only at ho
  cases op <;> simp only [opA] at ho <;> simp only [execOp]
  case move x =>
    obtain ⟨v, h1, rfl⟩ := vh_some ho
    exact ⟨_, w, ι, .inl rfl, he _ _ h1, .refl hs⟩
  case assign x =>
    obtain ⟨v, h1, rfl⟩ := vh_some ho
    exact ⟨_, w, ι, .inl rfl, he _ _ h1, .refl hs⟩
  case pick c a b =>
    split at ho
    · rename_i hc
      obtain ⟨v, h1, rfl⟩ := vh_some ho
      have hcr := he _ _ hc
      generalize ρ c = cv at hcr
      cases hcr
      exact ⟨ρ a, w, ι, .inl (by simp [asBool]), he _ _ h1, .refl hs⟩
    · rename_i hc
      obtain ⟨v, h1, rfl⟩ := vh_some ho
      have hcr := he _ _ hc
      generalize ρ c = cv at hcr
      cases hcr
      exact ⟨ρ b, w, ι, .inl (by simp [asBool]), he _ _ h1, .refl hs⟩
    · cases ho
  case alloc t =>
    split at ho
    · rename_i z hz
      obtain ⟨v, h1, h2, rfl⟩ := ph_some ho
      obtain ⟨zx, hzx, hzr⟩ := run_zero hz
      obtain ⟨w', κ, r1, r2, r3⟩ := box_rel hs h2 (hzr ι)
      exact Does.sim ⟨_, w', κ, by simp [Instr.alloc, hzx, r1], r2, r3⟩
    · cases ho
  case box t x =>
    split at ho
    · rename_i v hv
      obtain ⟨v, h1, h2, rfl⟩ := ph_some ho
      obtain ⟨w', κ, r1, r2, r3⟩ := box_rel hs h2 (he _ _ hv)
      exact Does.sim ⟨_, w', κ, by simp [Instr.box, r1], r2, r3⟩
    · cases ho
  case build t ps =>
    split at ho
    · rename_i l hl
      split at ho
      · rename_i hj
        obtain ⟨v, h1, rfl⟩ := vh_some ho
        exact (build_rel he hl hj h1).sim hs
      · cases ho
    · cases ho
  case buildSlice t n ps =>
    split at ho
    · rename_i l hl
      obtain ⟨v, h1, h2, rfl⟩ := ph_some ho
      exact (buildSlice_rel hs he hl h2).sim
    · cases ho
  case load t x =>
    split at ho
    · rename_i p hp
      obtain ⟨v, h1, rfl⟩ := vh_some ho
      exact (load_rel hs.rel h1 (he _ _ hp)).sim hs
    · cases ho
  case store t a x =>
    split at ho
    · rename_i p v hp hv
      obtain ⟨h1, h2, rfl⟩ := uh_some ho
      exact (storeVar_rel hs h2 (he _ _ hp) (he _ _ hv)).sim
    · cases ho
  case nilCheck x =>
    split at ho
    · rename_i v hv
      obtain ⟨v', h1, rfl⟩ := vh_some ho
      have hr := he _ _ hv
      unfold nilCheckA at h1
      split at h1
      · cases h1
        generalize ρ x = xv at hr
        have hr' := hr
        cases hr
        exact ⟨_, w, ι, .inl rfl, hr', .refl hs⟩
      · cases h1
        generalize ρ x = xv at hr
        have hr' := hr
        cases hr
        exact ⟨_, w, ι, .inl rfl, hr', .refl hs⟩
      · cases h1
        generalize ρ x = xv at hr
        have hr' := hr
        cases hr
        exact ⟨_, w, ι, .inl rfl, hr', .refl hs⟩
      · cases h1
    · cases ho
  case binOp op t x y c =>
    split at ho
    · rename_i a b ha hb
      split at ho
      · rename_i hg
        obtain ⟨v, h1, rfl⟩ := vh_some ho
        obtain ⟨j1, j2⟩ := bin_nojunk h1
        have hgr := guard_rel (w := w) hg (he _ _ ha) (he _ _ hb) j1 j2
        obtain ⟨z, q1, q2⟩ := bin_rel hs.rel h1 (he _ _ ha) (he _ _ hb)
        exact Gives.sim hs ⟨z, by simp [hgr, q1], q2⟩
      · cases ho
    · cases ho
  case unOp op t x =>
    split at ho
    · rename_i a ha
      obtain ⟨v, h1, rfl⟩ := vh_some ho
      exact (un_rel h1 (he _ _ ha)).sim hs
    · cases ho
  case convert s d x =>
    split at ho
    · rename_i a ha
      obtain ⟨v, h1, h2, rfl⟩ := ph_some ho
      exact (conv_rel hs h2 (he _ _ ha)).sim
    · cases ho
  case makeInterface t x =>
    split at ho
    · cases ho
    · rename_i a d hne ha hu
      obtain ⟨v, h1, rfl⟩ := vh_some ho
      cases h1
      refine Gives.sim hs (Gives.of (.ifc (he _ _ ha)) ?_)
      have hd : ∀ e, d ≠ .interface e := fun e q => by subst q; exact hne _ rfl
      cases d <;> first
        | exact absurd rfl (hd _)
        | simp [Instr.makeInterface, run_underlying hu]
    · cases ho
  case makeFunc fn first captured =>
    split at ho
    · rename_i a b ha hb
      obtain ⟨v, h1, rfl⟩ := vh_some ho
      cases h1
      have q1 := evL_rel he _ _ ha
      have q2 := evL_rel he _ _ hb
      exact Gives.sim hs (Gives.of (.fn (by simpa using q1) (by simpa using q2)) rfl)
    · cases ho
  case makeMap t r =>
    cases r with
    | none =>
      simp only at ho
      obtain ⟨v, h1, h2, rfl⟩ := ph_some ho
      cases h2
      exact (makeMap_rel hs t).sim
    | some _ => simp at ho
  case makeSlice t l c =>
    split at ho
    · rename_i a b ha hb
      obtain ⟨v, h1, h2, rfl⟩ := ph_some ho
      exact (makeSlice_rel hs h2 (he _ _ ha) (he _ _ hb)).sim
    · cases ho
  case slice t x l hi m =>
    split at ho
    · rename_i a b c d ha hb hc hd
      split at ho
      · rename_i v h1
        obtain ⟨v', h2, rfl⟩ := vh_some ho
        cases h2
        exact (slice_rel hs.rel h1 (he _ _ ha) (optRel_of he hb) (optRel_of he hc) (optRel_of he hd)).sim hs
      · obtain ⟨v', h2, rfl⟩ := vh_some ho
        exact (slice3_rel hs.rel hs.fit h2 (he _ _ ha) (optRel_of he hb) (optRel_of he hc) (optRel_of he hd)).sim hs
    · cases ho
  case fieldAddr t x i =>
    split at ho
    · rename_i a ha
      obtain ⟨v, h1, rfl⟩ := vh_some ho
      exact (fieldAddr_rel h1 (he _ _ ha)).sim hs
    · cases ho
  case field t x i =>
    split at ho
    · rename_i cs fs ha hu
      split at ho
      · rename_i f hf
        obtain ⟨v, h1, rfl⟩ := vh_some ho
        have hr := he _ _ ha
        generalize ρ x = xv at hr
        cases hr with
        | agg hl =>
        obtain ⟨y, q1, q2⟩ := part_rel h1 hl
        exact Gives.sim hs (Gives.of q2 (by simp [Instr.field, run_underlying hu, fieldsAt_arr hf, asAgg, q1 w]))
      · cases ho
    · cases ho
  case indexAddr t x i =>
    split at ho
    · rename_i a b ha hb
      obtain ⟨v, h1, rfl⟩ := vh_some ho
      exact (indexAddr_rel h1 (he _ _ ha) (he _ _ hb)).sim hs
    · cases ho
  case index t x i =>
    split at ho
    · rename_i a b ha hb
      obtain ⟨v, h1, rfl⟩ := vh_some ho
      exact (index_rel h1 (he _ _ ha) (he _ _ hb)).sim hs
    · cases ho
  case lookup t x i ok =>
    split at ho
    · rename_i a b ha hb
      obtain ⟨v, h1, rfl⟩ := vh_some ho
      exact (lookup_rel hs.rel h1 (he _ _ ha) (he _ _ hb)).sim hs
    · cases ho
  case mapUpdate t m k x =>
    split at ho
    · rename_i a b c ha hb hc
      obtain ⟨h1, h2, rfl⟩ := uh_some ho
      exact (mapUpdate_rel hs h2 (he _ _ ha) (he _ _ hb) (he _ _ hc)).sim
    · cases ho
  case insert t m k x =>
    split at ho
    · rename_i a b c ha hb hc
      obtain ⟨h1, h2, rfl⟩ := uh_some ho
      exact (mapUpdate_rel hs h2 (he _ _ ha) (he _ _ hb) (he _ _ hc)).sim
    · cases ho
  case mapEntry t m k =>
    split at ho
    · rename_i a b ha hb
      obtain ⟨v, h1, h2, rfl⟩ := ph_some ho
      exact (mapEntry_rel hs h2 (he _ _ ha) (he _ _ hb)).sim
    · cases ho
  case entryStore t m s x =>
    split at ho
    · rename_i a b c ha hb hc
      obtain ⟨h1, h2, rfl⟩ := uh_some ho
      exact (entryStore_rel hs h2 (he _ _ ha) (he _ _ hb) (he _ _ hc)).sim
    · cases ho
  case typeAssert x t asserted ok =>
    split at ho
    · rename_i a ha
      obtain ⟨v, h1, rfl⟩ := vh_some ho
      exact (assert_rel h1 (he _ _ ha)).sim hs
    · cases ho
  case extract x i =>
    split at ho
    · rename_i l ha
      obtain ⟨v, h1, rfl⟩ := vh_some ho
      have hr := he _ _ ha
      generalize ρ x = xv at hr
      cases hr with
      | tup hl =>
      obtain ⟨y, q1, q2⟩ := hl.get _ _ h1
      have q1' := q1
      rw [Array.getElem?_toList] at q1'
      exact Gives.sim hs (Gives.of q2 (by simp [Instr.extract, q1']))
    · cases ho
  case call c =>
    split at ho
    · rename_i args ha
      have har := evL_rel he _ _ ha
      have har' : VRelL P ι args (c.args.map ρ).toList := by simpa using har
      split at ho
      · rename_i f hcal
        split at ho
        · rename_i fv hf
          unfold callA at ho
          split at ho
          · rename_i k l ht
            obtain ⟨first, captured, q1, q2⟩ := target_rel ht (he _ _ hf) har'
            have := callF_sim hx hs ho q2
            simpa [resolve, hcal, q1, Deferred.ofValue, invoke] using this
          · cases ho
        · cases ho
      · rename_i b hcal
        simp only [resolve, hcal, Sem.run_bind, Sem.run_pure, Result.andThen_ok, invoke]
        exact builtin_sim hs ho har'
      · rename_i r' name hcal
        split at ho
        · rename_i t v hr
          split at ho
          · rename_i f x hm
            have hrr := he _ _ hr
            generalize hrv : ρ r' = rv at hrr
            cases hrr with
            | ifc hv =>
            rename_i y
            have hmd : 0 < Made.depth := by decide
            obtain ⟨n, hn⟩ : ∃ n, P.types.size + Made.depth = n + 1 := ⟨P.types.size + (Made.depth - 1), by omega⟩
            obtain ⟨z, q1, q2⟩ := method_rel hm hv n
            have := callF_sim hx hs ho (xs := #[z] ++ c.args.map ρ) (by rw [Array.toList_append]; exact .cons q2 har')
            have hex : (#[Value.iface t y] ++ c.args.map ρ).extract 1 (#[Value.iface t y] ++ c.args.map ρ).size = c.args.map ρ := by
              apply Array.ext'
              simp
              exact List.take_of_length_le (by simp)
            have hz0 : (#[Value.iface t y] ++ c.args.map ρ)[0]? = some (Value.iface t y) := by
              rw [Array.getElem?_append]
              simp
            simp only [resolve, hcal, hrv, Sem.run_bind, Sem.run_pure, Result.andThen_ok, invoke, hz0, hex, callMethod, run_program, hn, q1 w]
            exact this
          · cases ho
        · cases ho
    · cases ho
  case range t x =>
    split at ho
    · rename_i a ha
      obtain ⟨v, h1, h2, rfl⟩ := ph_some ho
      exact (range_rel hs h2 (he _ _ ha)).sim
    · cases ho
  case next x isS =>
    cases isS with
    | false => simp at ho
    | true =>
    simp only at ho
    split at ho
    · rename_i a ha
      obtain ⟨v, h1, h2, rfl⟩ := ph_some ho
      exact (next_rel hs h2 (he _ _ ha) type).sim
    · cases ho
  case defer c =>
    split at ho
    · rename_i args ha
      have har := evL_rel he _ _ ha
      have har' : VRelL P ι args (c.args.map ρ).toList := by simpa using har
      split at ho
      · rename_i f hcal
        split at ho
        · rename_i fv hf
          split at ho
          · rename_i k l ht
            cases ho
            obtain ⟨first, captured, q1, q2⟩ := target_rel ht (he _ _ hf) har'
            refine ⟨rfl, first ++ c.args.map ρ, captured, q2, ?_⟩
            simp [resolve, hcal, q1, Deferred.ofValue]
          · cases ho
        · cases ho
      · cases ho
    · cases ho
  case panic x =>
    split at ho
    · rename_i t v ha
      cases ho
      have hr := he _ _ ha
      have hr' := hr
      generalize ρ x = xv at hr hr'
      cases hr
      exact ⟨rfl, _, hr', by simp [Instr.panic]⟩
    · cases ho
  all_goals cases ho
end
end Go.Ai
