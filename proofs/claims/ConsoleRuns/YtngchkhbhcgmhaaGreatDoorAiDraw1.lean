/- A part of the proof of ConsoleRuns: AiDraw1. -/
import Derived.Test.YtngchkhbhcgmhaaGreatDoorAiFrame
import Derived.Test.YtngchkhbhcgmhaaGreatDoorAiSame
import Derived.Test.YtngchkhbhcgmhaaGreatDoorAiExec
set_option linter.unusedVariables false
set_option linter.unusedSimpArgs false
set_option linter.unusedSectionVars false
set_option linter.unnecessarySimpa false
/- Operations by their classes: what each looks at, and what each leaves. -/
namespace Go.Ai

section
variable {P : Program} {X : Cx} {h h' : H}

theorem evL_congr {e e' : Env} : ∀ (l : List Operand), (∀ y ∈ l, e y = e' y) → evL e l = evL e' l
  | [], _ => rfl
  | x :: l, hh => by
    unfold evL
    rw [hh x (by simp), evL_congr l (fun y hy => hh y (by simp [hy]))]
theorem evP_congr {e e' : Env} : ∀ (l : List (Nat × Operand)), (∀ y ∈ l.map (·.2), e y = e' y) → evP e l = evP e' l
  | [], _ => rfl
  | (i, x) :: l, hh => by
    unfold evP
    rw [hh x (by simp), evP_congr l (fun y hy => hh y (List.mem_cons_of_mem _ hy))]
theorem evO_congr {e e' : Env} : ∀ (o : Option Operand), (∀ y, o = some y → e y = e' y) → evO e o = evO e' o
  | none, _ => rfl
  | some x, hh => by unfold evO; simp only [hh x rfl]

theorem opA_congr {e e' : Env} (op : Op) (hh : ∀ y ∈ op.operands, e y = e' y) : opA P X h e op = opA P X h e' op := by
  cases op <;> simp only [Op.operands] at hh <;> simp only [opA]
  case build t ps => rw [evP_congr ps.toList (fun y hy => hh y (by simpa using hy))]
  case buildSlice t n ps => rw [evP_congr ps.toList (fun y hy => hh y (by simpa using hy))]
  case makeFunc fn a b => rw [evL_congr a.toList (fun y hy => hh y (by simp at hy ⊢; exact .inl hy)), evL_congr b.toList (fun y hy => hh y (by simp at hy ⊢; exact .inr hy))]
  case makeMap t r => cases r <;> rfl
  case slice t x l hi m =>
    rw [hh x (by simp), evO_congr l (fun y hy => hh y (by subst hy; simp)), evO_congr hi (fun y hy => hh y (by subst hy; simp)), evO_congr m (fun y hy => hh y (by subst hy; simp))]
  case call c =>
    rw [evL_congr c.args.toList (fun y hy => hh y (by simp [Call.operands]; exact .inr (by simpa using hy)))]
    cases hc : c.callee with
    | value f => simp only [hh f (by simp [Call.operands, hc])]
    | invoke r n => simp only [hh r (by simp [Call.operands, hc])]
    | builtin b => rfl
  case defer c =>
    rw [evL_congr c.args.toList (fun y hy => hh y (by simp [Call.operands]; exact .inr (by simpa using hy)))]
    cases hc : c.callee with
    | value f => simp only [hh f (by simp [Call.operands, hc])]
    | invoke r n => rfl
    | builtin b => rfl
  case next x b => cases b <;> simp_all
  all_goals (first | rfl | simp_all)

/-! Readings. -/
def rdAddr (e : Env) (op : Op) : Option Nat := match op with
  | .load _ a => match e a with
    | some (.ptr F _ _ _) => some F
    | _ => none
  | .lookup _ a _ _ => match e a with
    | some (.map F) => some F
    | _ => none
  | _ => none

theorem addrL_eq (i : Item) : addrL P i = rdAddr (ev P i.t) i.o.op := rfl

theorem readA_congr {e : Env} {op : Op} (hh : ∀ F, rdAddr e op = some F → h.obj F = h'.obj F) : readA P h e op = readA P h' e op := by
  unfold readA
  unfold rdAddr at hh
  cases op with
  | load t x =>
    simp only at hh ⊢
    cases hx : e x with
    | none => rfl
    | some p =>
      rw [hx] at hh
      cases p with
      | ptr F g o n => exact loadVarA_congr (hh F rfl) t g o n
      | _ => rfl
  | lookup t x i ok =>
    simp only at hh ⊢
    cases hx : e x with
    | none => rfl
    | some p =>
      cases hi : e i with
      | none => rfl
      | some k =>
        rw [hx] at hh
        simp only
        unfold lookupA
        cases p with
        | map F =>
          have := hh F rfl
          simp only [mapOf_congr this]
        | _ => rfl
  | _ => rfl

theorem readA_some {e : Env} {op : Op} {v : AV} (hr : readA P h e op = some v) {F : Nat} (ha : rdAddr e op = some F) : h.obj F ≠ none := by
  intro hn
  unfold readA at hr
  unfold rdAddr at ha
  cases op with
  | load t x =>
    simp only at hr ha
    split at hr
    · rename_i p hp
      rw [hp] at ha
      cases p with
      | ptr F' g o n =>
        cases ha
        have hf : ∀ g, h.fam F g = none := by intro g; unfold H.fam; rw [hn]
        unfold loadVarA at hr
        simp only [H.load, hf] at hr
        split at hr
        · split at hr <;> cases hr
        · split at hr <;> cases hr
        · cases hr
      | _ => cases ha
    · cases hr
  | lookup t x i ok =>
    simp only at hr ha
    split at hr
    · rename_i a b hp hi
      rw [hp] at ha
      cases a with
      | map F' =>
        cases ha
        unfold lookupA at hr
        simp only [mapOf, hn] at hr
        split at hr
        · split at hr <;> cases hr
        · cases hr
      | _ => cases ha
    · cases hr
  | _ => cases hr

theorem H0_fam (F g : Nat) : H0.fam F g = none := rfl

theorem eqStruct_mono {q q' : TypeId → AV → AV → Option Bool} (hq : ∀ t x y b, q t x y = some b → q' t x y = some b) (xs ys : List AV) : ∀ (fs : List Field) (b : Bool), eqStruct P q xs ys fs = some b → eqStruct P q' xs ys fs = some b
  | [], b, hb => hb
  | f :: fs, b, hb => by
    unfold eqStruct at hb ⊢
    split at hb
    · exact eqStruct_mono hq xs ys fs b hb
    · split at hb
      · split at hb
        · rename_i hq1
          rw [hq _ _ _ _ hq1]
          exact eqStruct_mono hq xs ys fs b hb
        · rename_i hq1
          rw [hq _ _ _ _ hq1]
          exact hb
        · cases hb
      · cases hb

theorem eqArray_mono {q q' : TypeId → AV → AV → Option Bool} (hq : ∀ t x y b, q t x y = some b → q' t x y = some b) (e n : Nat) (xs ys : List AV) : ∀ (l : List Nat) (b : Bool), eqArray P q e n xs ys l = some b → eqArray P q' e n xs ys l = some b
  | [], b, hb => hb
  | i :: l, b, hb => by
    unfold eqArray at hb ⊢
    split at hb
    · split at hb
      · rename_i hq1
        rw [hq _ _ _ _ hq1]
        exact eqArray_mono hq e n xs ys l b hb
      · rename_i hq1
        rw [hq _ _ _ _ hq1]
        exact hb
      · cases hb
    · cases hb

theorem eqA_mono : ∀ (d : Nat) (t : TypeId) (x y : AV) (b : Bool), eqA P H0 d t x y = some b → eqA P h d t x y = some b
  | 0, _, _, _, _, hb => by simp [eqA] at hb
  | d + 1, t, x, y, b, hb => by
    unfold eqA at hb ⊢
    split at hb <;> try exact hb
    · simp only [H0_fam] at hb
      split at hb
      · exact hb
      · split at hb
        · exact hb
        · cases hb
      · cases hb
    · split at hb
      · exact hb
      · split at hb
        · exact eqA_mono d _ _ _ _ hb
        · cases hb
    · split at hb
      · cases hb
      · exact eqStruct_mono (fun t x y b => eqA_mono d t x y b) _ _ _ _ hb
    · split at hb
      · exact eqArray_mono (fun t x y b => eqA_mono d t x y b) _ _ _ _ _ _ hb
      · cases hb

theorem findA_mono {kt : TypeId} {k : AV} : ∀ (es : List Ent) (i : Nat) (r : Option (Nat × Ent)), findA P H0 kt k es i = some r → findA P h kt k es i = some r
  | [], _, _, hr => hr
  | e :: es, i, r, hr => by
    unfold findA at hr ⊢
    split at hr
    · rename_i hq
      rw [eqA_mono _ _ _ _ _ hq]
      exact hr
    · rename_i hq
      rw [eqA_mono _ _ _ _ _ hq]
      exact findA_mono es _ r hr
    · cases hr

theorem lookupA_mono {hm : H} {t : TypeId} {x k v : AV} {ok : Bool} (hv : lookupA P hm H0 t x k ok = some v) : lookupA P hm h t x k ok = some v := by
  unfold lookupA at hv ⊢
  split at hv
  · split at hv
    · split at hv
      · split at hv
        · rename_i hf
          simp only [findA_mono _ _ _ hf]
          exact hv
        · rename_i hf
          simp only [findA_mono _ _ _ hf]
          exact hv
        · cases hv
      · cases hv
    · cases hv
  · cases hv

theorem load_step {e : Env} {op : Op} {v : AV} (hc : clsOf P op = .load) (hr : readA P h e op = some v) : opA P X h e op = some (.val v h) := by
  cases op with
  | load t x =>
    unfold readA at hr
    unfold opA
    simp only at hr ⊢
    split at hr
    · rw [hr]; rfl
    · cases hr
  | lookup t x i ok =>
    unfold readA at hr
    unfold opA
    simp only at hr ⊢
    split at hr
    · rw [lookupA_mono hr]; rfl
    · cases hr
  | _ => unfold readA at hr; cases hr
end
end Go.Ai
