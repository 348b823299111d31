/- A part of the proof of ConsoleRuns: AiRun. -/
import Derived.Test.YtngchkhbhcgmhaaGreatDoorAiOps14
import Derived.Defers
import Derived.LoopN
import Derived.Tactics
set_option linter.unusedVariables false
set_option linter.unusedSimpArgs false
set_option linter.unusedSectionVars false
set_option linter.unnecessarySimpa false
/- Regions and bodies: what the interpreter's run says of the model's. -/
namespace Go.Ai

section
variable {P : Program} {X : Cx} {K : CallK} {ι κ : Emb} {w w' : World} {h h' : H} {nt : Nat} {Q : Exit → Act → World → Prop}

/-- deferred calls -/
inductive DsRel (P : Program) (ι : Emb) : List (FuncId × List AV) → List Deferred → Prop
  | nil : DsRel P ι [] []
  | cons {f : FuncId} {l : List AV} {xs ys : Array Value} {ds : List (FuncId × List AV)} {dl : List Deferred} (h : VRelL P ι l (xs ++ ys).toList) (hl : DsRel P ι ds dl) :
      DsRel P ι ((f, l) :: ds) ({ target := .fn (.func f) ys, args := xs } :: dl)

theorem DsRel.mono (hk : Emb.le ι κ) : ∀ {ds : List (FuncId × List AV)} {dl : List Deferred}, DsRel P ι ds dl → DsRel P κ ds dl
  | _, _, .nil => .nil
  | _, _, .cons h hl => .cons (h.mono hk) (hl.mono hk)

structure ARel (P : Program) (h : H) (ι : Emb) (w : World) (nt : Nat) (a : AAct) (b : Act) : Prop where
  st : St P h ι w
  tr : TRel P ι a.t b.tmps
  sz : nt ≤ b.tmps.size
  ds : DsRel P ι a.ds b.defers

inductive ExitRel (P : Program) (κ : Emb) : AExit → Exit → Prop
  | normal : ExitRel P κ .normal .normal
  | exit (i : Nat) : ExitRel P κ (.exit i) (.exit i)
  | ret : ExitRel P κ .ret .ret
  | panic {v : AV} {x : Value} (h : VRel P κ v x) : ExitRel P κ (.panic v) (.panic [{ v := x, recovered := false }])

/-- what is to follow -/
def Post (P : Program) (h : H) (ι : Emb) (w : World) (nt : Nat) (e : AExit) (a' : AAct) (h' : H) (Q : Exit → Act → World → Prop) : Prop :=
  ∀ κ b' w' E, Done P h ι w h' κ w' → ARel P h' κ w' nt a' b' → ExitRel P κ e E → Q E b' w'

inductive EndRel (P : Program) (κ : Emb) : ARes → Ending → Prop
  | ret {v : AV} {x : Value} (h : VRel P κ v x) : EndRel P κ (.ret v) (.returned x)
  | panic {v : AV} {x : Value} (h : VRel P κ v x) : EndRel P κ (.panic v) (.panicked [{ v := x, recovered := false }])

/-- a call's promise -/
structure KOk (P : Program) (K : CallK) : Prop where
  body : ∀ f args h r, K f args h = some r → ∃ fn, P.funcs[f]? = some fn ∧ fn.body.isNone = false
  calls : ∀ f args h r h' ι w (xs : Array Value), K f args h = some (r, h') → St P h ι w → VRelL P ι args xs.toList → Calls P f xs w fun en w' => ∃ κ, Done P h ι w h' κ w' ∧ EndRel P κ r en

theorem Done.post {h1 : H} {ι1 : Emb} {w1 : World} (hd : Done P h ι w h1 ι1 w1) {e : AExit} {a' : AAct} (hp : Post P h ι w nt e a' h' Q) : Post P h1 ι1 w1 nt e a' h' Q :=
  fun κ b' w' E hd' ha he => hp κ b' w' E (hd.trans hd') ha he

theorem ARel.put {a : AAct} {b : Act} (hr : ARel P h ι w nt a b) {h1 : H} {ι1 : Emb} {w1 : World} (hd : Done P h ι w h1 ι1 w1) {d : Option Tmp} {v : AV} {x : Value} (hv : VRel P ι1 v x) (hdd : ∀ e, d = some e → e < nt) :
    ARel P h1 ι1 w1 nt { a with t := putT a.t d v } (b.put d x) where
  st := hd.st hr.st
  tr := (hr.tr.mono hd.grow.le).put hv (fun e he => Nat.lt_of_lt_of_le (hdd e he) hr.sz)
  sz := by
    cases d with
    | none => exact hr.sz
    | some d => simpa [Act.put] using hr.sz
  ds := by
    have : (b.put d x).defers = b.defers := by cases d <;> rfl
    rw [this]
    exact hr.ds.mono hd.grow.le

theorem ARel.step {a : AAct} {b : Act} (hr : ARel P h ι w nt a b) {h1 : H} {ι1 : Emb} {w1 : World} (hd : Done P h ι w h1 ι1 w1) : ARel P h1 ι1 w1 nt a b where
  st := hd.st hr.st
  tr := hr.tr.mono hd.grow.le
  sz := hr.sz
  ds := hr.ds.mono hd.grow.le

theorem wanted_rel {ops : Array Oper} {t : Tr AV} {m : Array Value} {o : Oper} {b : Bool} (ht : TRel P ι t m) (hw : wantedA ops.toList t o = some b) : Region.wanted o (yielded ops m) = b := by
  unfold wantedA at hw
  unfold Region.wanted
  split at hw
  · rename_i hg
    cases hw
    rw [hg]
  · rename_i j want hg
    rw [hg]
    simp only
    have key : ∀ r, yieldA ops.toList t j = some r → yielded ops m j = r := by
      intro r hy
      unfold yieldA at hy
      split at hy
      · rename_i o' ho
        have ho' : ops[j]? = some o' := by simpa using ho
        split at hy
        · rename_i d hd
          split at hy
          · rename_i c hc
            cases hy
            obtain ⟨x, a, hx⟩ := ht d _ hc
            cases hx
            simp [yielded, ho', hd, a]
          · rename_i l hc
            cases hy
            obtain ⟨x, a, hx⟩ := ht d _ hc
            cases hx
            simp [yielded, ho', hd, a]
          · cases hy
        · cases hy
      · cases hy
    split at hw
    · rename_i c hy
      cases hw
      rw [key _ hy]
      cases c <;> cases want <;> rfl
    · rename_i hy
      cases hw
      rw [key _ hy]
      rfl
    · cases hw

theorem runOps_sound (hx : ExtOk P X) (hK : KOk P K) {ops : Array Oper} : ∀ (l : List Oper) (a : AAct) (h : H) (e : AExit) (a' : AAct) (h' : H), runOps P X K ops.toList l a h = some (e, a', h') →
    ∀ (ι : Emb) (b : Act) (w : World), ARel P h ι w nt a b → (∀ o ∈ l, ∀ d, o.dst = some d → d < nt) → Post P h ι w nt e a' h' Q → wpList P ops Q l b w
  | [], a, h, e, a', h', hr, ι, b, w, ha, _, hp => by
    simp only [runOps, Option.some.injEq, Prod.mk.injEq] at hr
    obtain ⟨rfl, rfl, rfl⟩ := hr
    exact hp ι b w .normal (.refl ha.st) ha .normal
  | o :: l, a, h, e, a', h', hr, ι, b, w, ha, hd, hp => by
    have hd' : ∀ o ∈ l, ∀ d, o.dst = some d → d < nt := fun o ho => hd o (by simp [ho])
    have hdo : ∀ d, o.dst = some d → d < nt := hd o (by simp)
    unfold runOps at hr
    unfold wpList
    split at hr
    · rename_i hw
      rw [wanted_rel ha.tr hw]
      simp only [Bool.false_eq_true, if_false]
      exact runOps_sound hx hK l _ h e a' h' hr ι _ w (ha.put (.refl ha.st) (.tup .nil) hdo) hd' hp
    · rename_i hw
      rw [wanted_rel ha.tr hw]
      simp only [if_true]
      left
      unfold Oper.wp
      split at hr
      · rename_i v h1 ho
        obtain ⟨x, w1, κ, q1, q2, q3⟩ := opA_sim hx ha.st (fun x v hxv => ev_rel ha.tr ha.st.glob hxv) o ho
        have hnext := runOps_sound hx hK l _ h1 e a' h' hr κ _ w1 (ha.put q3 q2 hdo) hd' (q3.post hp)
        rcases q1 with q1 | ⟨q1, rfl⟩
        · rw [q1]; exact hnext
        · rw [q1]; exact hnext
      · rename_i f args h1 ho
        obtain ⟨rfl, xs, q1, q2⟩ := opA_sim hx ha.st (fun x v hxv => ev_rel ha.tr ha.st.glob hxv) o ho
        split at hr
        · rename_i v h2 hk
          obtain ⟨fn, b1, b2⟩ := hK.body _ _ _ _ hk
          rw [q2 fn b1 b2]
          refine (hK.calls _ _ _ _ _ ι w xs hk ha.st q1).mono ?_
          rintro en w2 ⟨κ, r1, r2⟩
          cases r2 with
          | ret hv => exact runOps_sound hx hK l _ h2 e a' h' hr κ _ w2 (ha.put r1 hv hdo) hd' (r1.post hp)
        · rename_i v h2 hk
          obtain ⟨fn, b1, b2⟩ := hK.body _ _ _ _ hk
          rw [q2 fn b1 b2]
          cases hr
          refine (hK.calls _ _ _ _ _ ι w xs hk ha.st q1).mono ?_
          rintro en w2 ⟨κ, r1, r2⟩
          cases r2 with
          | panic hv => exact hp κ b w2 _ r1 (ha.step r1) (.panic hv)
        · cases hr
      · rename_i f args h1 ho
        obtain ⟨rfl, xs, ys, q1, q2⟩ := opA_sim hx ha.st (fun x v hxv => ev_rel ha.tr ha.st.glob hxv) o ho
        rw [q2]
        have hb : ARel P h1 ι w nt { a with ds := (f, args) :: a.ds } { b with defers := { target := .fn (.func f) ys, args := xs } :: b.defers } := ⟨ha.st, ha.tr, ha.sz, .cons q1 ha.ds⟩
        exact runOps_sound hx hK l _ h1 e a' h' hr ι _ w (hb.put (.refl ha.st) (.tup .nil) hdo) hd' hp
      · rename_i v h1 ho
        obtain ⟨rfl, x, q1, q2⟩ := opA_sim hx ha.st (fun x v hxv => ev_rel ha.tr ha.st.glob hxv) o ho
        rw [q2]
        cases hr
        exact hp ι b w _ (.refl ha.st) ha (.panic q1)
      · cases hr
    · cases hr
end
end Go.Ai
