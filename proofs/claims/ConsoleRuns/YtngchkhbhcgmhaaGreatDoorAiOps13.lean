/- A part of the proof of ConsoleRuns: AiOps13. -/
import Derived.Test.YtngchkhbhcgmhaaGreatDoorAiOps12
set_option linter.unusedVariables false
set_option linter.unusedSimpArgs false
set_option linter.unusedSectionVars false
set_option linter.unnecessarySimpa false
/- One operation. -/
namespace Go.Ai

section
variable {P : Program} {X : Cx} {ι κ : Emb} {w w' : World} {h h' : H}

/-- an extern's row of the model does what the table says -/
def ExtSem (P : Program) (e : Array Value → Sem Value) (x : Ext) : Prop :=
  ∀ (h : H) (ι : Emb) (w : World) (args : List AV) (xs : Array Value) (v : AV) (h' : H), St P h ι w → externA P x args h = some (v, h') → VRelL P ι args xs.toList → Does P h ι w (e xs) v h'

structure ExtOk (P : Program) (X : Cx) : Prop where
  row : ∀ k x, X.ext k = some x → ∃ fn e, P.funcs[k]? = some fn ∧ fn.body.isNone = true ∧ Extern.findNext fn = none ∧ Extern.find fn = some e ∧ ExtSem P e x
  noGo : ∀ (k : Nat) fn, P.funcs[k]? = some fn → (fn.name == "runtime.NumGoroutine") = false

/-- what an operation's run is to be -/
def OpSim (P : Program) (h : H) (ι : Emb) (w : World) (r : Result Next) : AR → Prop
  | .val v h' => ∃ x w' κ, (r = .ok (.value x) w' ∨ (r = .ok .skip w' ∧ x = undef)) ∧ VRel P κ v x ∧ Done P h ι w h' κ w'
  | .enter f args h' => h' = h ∧ ∃ xs : Array Value, VRelL P ι args xs.toList ∧ ∀ fn, P.funcs[f]? = some fn → fn.body.isNone = false → r = .ok (.enter f xs) w
  | .defer f args h' => h' = h ∧ ∃ xs ys : Array Value, VRelL P ι args (xs ++ ys).toList ∧ r = .ok (.defer { target := .fn (.func f) ys, args := xs }) w
  | .panic v h' => h' = h ∧ ∃ x, VRel P ι v x ∧ r = .halt (.panic x) w
  | .recover h' => h' = h ∧ r = .ok .recover w

theorem Does.sim {s : Sem Value} {v : AV} (hd : Does P h ι w s v h') : OpSim P h ι w ((do pure (.value (← s)) : Sem Next).run P w) (.val v h') := by
  obtain ⟨x, w', κ, a, b, c⟩ := hd
  exact ⟨x, w', κ, .inl (by simp [a]), b, c⟩
theorem DoesU.sim {s : Sem Unit} (hd : DoesU P h ι w s h') : OpSim P h ι w ((do s; pure .skip : Sem Next).run P w) (.val .undef h') := by
  obtain ⟨w', κ, a, c⟩ := hd
  exact ⟨undef, w', κ, .inr ⟨by simp [a], rfl⟩, .tup .nil, c⟩
theorem Gives.sim (hs : St P h ι w) {s : Sem Value} {v : AV} (hd : Gives P ι w s v) : OpSim P h ι w ((do pure (.value (← s)) : Sem Next).run P w) (.val v h) := (hd.does hs).sim

theorem vh_some {h : H} {o : Option AV} {r : AR} (hv : vh h o = some r) : ∃ v, o = some v ∧ r = .val v h := by
  cases o with
  | none => cases hv
  | some v => cases hv; exact ⟨v, rfl, rfl⟩
theorem uh_some {o : Option H} {r : AR} (hv : uh o = some r) : ∃ h, o = some h ∧ r = .val .undef h := by
  cases o with
  | none => cases hv
  | some v => cases hv; exact ⟨v, rfl, rfl⟩
theorem ph_some {o : Option (AV × H)} {r : AR} (hv : ph o = some r) : ∃ v h, o = some (v, h) ∧ r = .val v h := by
  cases o with
  | none => cases hv
  | some v => obtain ⟨v, h⟩ := v; cases hv; exact ⟨v, h, rfl, rfl⟩

theorem bin_nojunk {op : BinOp} {t : TypeId} {a b v : AV} (hv : binA P h op t a b = some v) : a ≠ .junk ∧ b ≠ .junk := by
  constructor
  · rintro rfl; simp [binA] at hv
  · rintro rfl
    cases a <;> simp [binA] at hv

theorem callF_sim (hx : ExtOk P X) (hs : St P h ι w) {k : FuncId} {args : List AV} {xs : Array Value} {r : AR} (hc : callF P X h k args = some r) (ha : VRelL P ι args xs.toList) : OpSim P h ι w ((callFunc k xs).run P w) r := by
  unfold callF at hc
  split at hc
  · rename_i x hk
    split at hc
    · rename_i v h1 he
      cases hc
      obtain ⟨fn, e, q1, q2, q3, q4, q5⟩ := hx.row k x hk
      obtain ⟨y, w', κ, r1, r2, r3⟩ := q5 h ι w args xs v h1 hs he ha
      refine ⟨y, w', κ, .inl ?_, r2, r3⟩
      have hn : ¬ (fn.name = "runtime.NumGoroutine") := by simpa using hx.noGo k fn q1
      have q2' : fn.body = none := by simpa using q2
      simp [callFunc, q1, hn, q2', q3, q4, r1]
    · cases hc
  · cases hc
    refine ⟨rfl, xs, ha, fun fn q1 q2 => ?_⟩
    have hn : ¬ (fn.name = "runtime.NumGoroutine") := by simpa using hx.noGo k fn q1
    simp [callFunc, q1, hn]
    intro q
    simp [q] at q2

theorem target_rel {f : AV} {args l : List AV} {k : FuncId} {y : Value} {xs : Array Value} (ht : target f args = some (k, l)) (hf : VRel P ι f y) (ha : VRelL P ι args xs.toList) :
    ∃ first captured : Array Value, y = .func (.func k) first captured ∧ VRelL P ι l ((first ++ xs) ++ captured).toList := by
  unfold target at ht
  split at ht
  · cases ht
    cases hf with
    | fn h1 h2 =>
      refine ⟨_, _, rfl, ?_⟩
      rw [Array.toList_append, Array.toList_append, List.append_assoc]
      exact h1.append (ha.append h2)
  · cases ht

theorem builtin_sim (hs : St P h ι w) {b : Builtin} {ts : Array TypeId} {ty : TypeId} {cs : Array Bool} {args : List AV} {xs : Array Value} {r : AR} (hv : builtinA P h b ts.toList args = some r) (ha : VRelL P ι args xs.toList) :
    OpSim P h ι w ((builtin b ts ty cs xs).run P w) r := by
  have arr1 : ∀ {a : Value}, xs.toList = [a] → xs = #[a] := fun q => by rw [← q]
  have arr2 : ∀ {a b : Value}, xs.toList = [a, b] → xs = #[a, b] := fun q => by rw [← q]
  unfold builtinA at hv
  split at hv
  · rename_i t u s x hts
    split at hv
    · rename_i d hu
      split at hv
      · rename_i v h1 happ
        cases hv
        generalize hl : xs.toList = l at ha
        cases ha with
        | cons h1 ha =>
        cases ha with
        | cons h2 ha =>
        cases ha
        have := arr2 hl
        subst this
        have hts' : ts = #[t, u] := by rw [← hts]
        subst hts'
        exact (appendA_rel hs (ty := ty) hu happ h1 h2).sim
      · cases hv
    · cases hv
  · rename_i t x hts
    split at hv
    · rename_i v hl2
      cases hv
      generalize hl : xs.toList = l at ha
      cases ha with
      | cons h1 ha =>
      cases ha
      have := arr1 hl
      subst this
      have hts' : ts = #[t] := by rw [← hts]
      subst hts'
      exact (len_rel hs.rel hl2 h1 #[t] rfl ty).sim hs
    · cases hv
  · rename_i t x hts
    split at hv
    · rename_i e c hu hc
      cases hv
      generalize hl : xs.toList = l at ha
      cases ha with
      | cons h1 ha =>
      cases ha
      have := arr1 hl
      subst this
      have hts' : ts = #[t] := by rw [← hts]
      subst hts'
      exact (cap_rel (ts := #[t]) (ty := ty) rfl hu hc h1).sim hs
    · cases hv
  · rename_i t tl d x hts
    split at hv
    · rename_i e hu
      split at hv
      · rename_i sz hsz
        split at hv
        · rename_i v h1 hb hcp
          cases hv
          generalize hl : xs.toList = l at ha
          cases ha with
          | cons h1 ha =>
          cases ha with
          | cons h2 ha =>
          cases ha
          have := arr2 hl
          subst this
          have h0 : ts[0]? = some t := by rw [← Array.getElem?_toList, hts]; rfl
          exact (copy_rel hs h0 hu hsz hcp h1 h2).sim
        · cases hv
      · cases hv
    · cases hv
  · rename_i k a k' b hts
    cases hv
    generalize hl : xs.toList = l at ha
    cases ha with
    | cons h1 ha =>
    cases ha with
    | cons h2 ha =>
    cases ha
    have := arr2 hl
    subst this
    cases h1; cases h2
    exact (min_rel (ts := ts) (ty := ty)).sim hs
  · rename_i k a k' b hts
    cases hv
    generalize hl : xs.toList = l at ha
    cases ha with
    | cons h1 ha =>
    cases ha with
    | cons h2 ha =>
    cases ha
    have := arr2 hl
    subst this
    cases h1; cases h2
    exact (max_rel (ts := ts) (ty := ty)).sim hs
  · rename_i t x hts
    generalize hl : xs.toList = l at ha
    cases ha with
    | cons h1 ha =>
    cases ha
    have := arr1 hl
    subst this
    have h0 : ts[0]? = some t := by rw [← Array.getElem?_toList, hts]; rfl
    split at hv
    · rename_i e hu
      cases hv
      cases h1
      refine Gives.sim hs (Gives.of (.tup .nil) ?_)
      simp [Builtin.clear_, h0, run_underlying hu]
    · rename_i e F g o s n c hu
      split at hv
      · rename_i s' z hsz hz
        split at hv
        · rename_i hc
          cases hv
          cases h1
          refine Gives.sim hs (Gives.of (.tup .nil) ?_)
          simp [Builtin.clear_, h0, run_underlying hu]
        · rename_i _ hc hne
          split at hv
          · rename_i h2 hst
            cases hv
            simp only [Bool.and_eq_true] at hc
            have e2 : z.cells.length = s := Nat.eq_of_beq_eq_true hc.1.2
            exact (clear_rel hs h0 hu hz h1 e2 hc.2 hne hst).sim
          · cases hv
        · cases hv
      · cases hv
    · cases hv
  · cases hv
    exact ⟨rfl, rfl⟩
  · rename_i x
    generalize hl : xs.toList = l at ha
    cases ha with
    | cons h1 ha =>
    cases ha
    have := arr1 hl
    subst this
    split at hv
    · cases hv
      cases h1
      exact Gives.sim hs (Gives.of .nilp rfl)
    · rename_i F g o s n c
      split at hv
      · cases hv
      · rename_i hn
        cases hv
        exact (sliceData_rel (ts := ts) (ty := ty) hn h1).sim hs
    · cases hv
  · rename_i t tl p n hts
    split at hv
    · rename_i v h1 hus
      cases hv
      generalize hl : xs.toList = l at ha
      cases ha with
      | cons h1 ha =>
      cases ha with
      | cons h2 ha =>
      cases ha
      have := arr2 hl
      subst this
      have h0 : ts[0]? = some t := by rw [← Array.getElem?_toList, hts]; rfl
      exact (ustr_rel hs h0 hus h1 h2).sim
    · cases hv
  · cases hv
end
end Go.Ai
