/- A part of the proof of ConsoleRuns: AiCall. -/
import Derived.Test.YtngchkhbhcgmhaaGreatDoorAiExec
import Derived.Recover
set_option linter.unusedVariables false
set_option linter.unusedSimpArgs false
set_option linter.unusedSectionVars false
set_option linter.unnecessarySimpa false
/- Calls: deferred functions, leaving, whole calls. -/
namespace Go.Ai

section
variable {P : Program} {X : Cx} {K : CallK} {ι κ : Emb} {w w' : World} {h h' : H} {nt N : Nat}

/-- the mode of the function that is being left -/
inductive MRel (P : Program) (κ : Emb) : Option AV → Bool → FrameMode → Prop
  | ret (rc : Bool) : MRel P κ none rc .returning
  | pan {v : AV} {x : Value} (rc : Bool) (h : VRel P κ v x) : MRel P κ (some v) rc (.panicking [{ v := x, recovered := rc }])

theorem MRel.mono (hk : Emb.le ι κ) {pn : Option AV} {rc : Bool} {u : FrameMode} (hm : MRel P ι pn rc u) : MRel P κ pn rc u := by
  cases hm with
  | ret rc => exact .ret rc
  | pan rc h => exact .pan rc (h.mono hk)

def PostS (P : Program) (h : H) (ι : Emb) (w : World) (nt : Nat) (pn : Option AV) (e : AExit) (a' : AAct) (rc' : Bool) (h' : H) (c₀ : Frame) (cs : List Frame) (Q : Exit → Act → List Frame → World → Prop) : Prop :=
  ∀ κ b' w' u' E, Done P h ι w h' κ w' → ARel P h' κ w' nt a' b' → MRel P κ pn rc' u' → ExitRel P κ e E → Q E b' ({ c₀ with mode := u' } :: cs) w'

theorem Done.postS {h1 : H} {ι1 : Emb} {w1 : World} (hd : Done P h ι w h1 ι1 w1) {pn : Option AV} {e : AExit} {a' : AAct} {rc' : Bool} {c₀ : Frame} {cs : List Frame} {Q : Exit → Act → List Frame → World → Prop}
    (hp : PostS P h ι w nt pn e a' rc' h' c₀ cs Q) : PostS P h1 ι1 w1 nt pn e a' rc' h' c₀ cs Q :=
  fun κ b' w' u' E hd' ha hm he => hp κ b' w' u' E (hd.trans hd') ha hm he

theorem runOpsS_sound (hx : ExtOk P X) (hK : KOk P K) {ops : Array Oper} {pn : Option AV} {c₀ : Frame} {cs : List Frame} {Q : Exit → Act → List Frame → World → Prop} :
    ∀ (l : List Oper) (k : Nat) (a : AAct) (rc : Bool) (h : H) (e : AExit) (a' : AAct) (rc' : Bool) (h' : H), (∀ j, l[j]? = ops[k + j]?) → runOpsS P X K pn ops.toList l a rc h = some (e, a', rc', h') →
    ∀ (ι : Emb) (b : Act) (w : World) (u : FrameMode), ARel P h ι w nt a b → MRel P ι pn rc u → (∀ o ∈ l, ∀ d, o.dst = some d → d < nt) → PostS P h ι w nt pn e a' rc' h' c₀ cs Q →
      wpOpsS P ops Q (List.range' k l.length) b ({ c₀ with mode := u } :: cs) w
  | [], k, a, rc, h, e, a', rc', h', _, hr, ι, b, w, u, ha, hm, _, hp => by
    simp only [runOpsS, Option.some.injEq, Prod.mk.injEq] at hr
    obtain ⟨rfl, rfl, rfl, rfl⟩ := hr
    exact hp ι b w u .normal (.refl ha.st) ha hm .normal
  | o :: l, k, a, rc, h, e, a', rc', h', hl, hr, ι, b, w, u, ha, hm, hd, hp => by
    have hd' : ∀ o ∈ l, ∀ d, o.dst = some d → d < nt := fun o ho => hd o (by simp [ho])
    have hdo : ∀ d, o.dst = some d → d < nt := hd o (by simp)
    have hl' : ∀ j, l[j]? = ops[k + 1 + j]? := fun j => by
      have := hl (j + 1)
      rw [show k + (j + 1) = k + 1 + j by omega] at this
      simpa using this
    have ho0 : ops[k]? = some o := by
      have := hl 0
      simpa using this.symm
    rw [List.length_cons, List.range'_succ]
    unfold runOpsS at hr
    unfold wpOpsS
    simp only [ho0]
    split at hr
    · rename_i hw
      rw [wanted_rel ha.tr hw]
      simp only [Bool.false_eq_true, if_false]
      exact runOpsS_sound hx hK l (k + 1) _ rc h e a' rc' h' hl' hr ι _ w u (ha.put (.refl ha.st) (.tup .nil) hdo) hm hd' hp
    · rename_i hw
      rw [wanted_rel ha.tr hw]
      simp only [if_true]
      split at hr
      · rename_i v h1 ho
        obtain ⟨x, w1, κ, q1, q2, q3⟩ := opA_sim hx ha.st (fun x v hxv => ev_rel ha.tr ha.st.glob hxv) o ho
        have hnext := runOpsS_sound hx hK l (k + 1) _ rc h1 e a' rc' h' hl' hr κ _ w1 u (ha.put q3 q2 hdo) (hm.mono q3.grow.le) hd' (q3.postS hp)
        rcases q1 with q1 | ⟨q1, rfl⟩
        · rw [q1]; exact hnext
        · rw [q1]; exact hnext
      · rename_i h1 ho
        obtain ⟨rfl, q1⟩ := opA_sim hx ha.st (fun x v hxv => ev_rel ha.tr ha.st.glob hxv) o ho
        rw [q1]
        simp only
        split at hr
        · rename_i v
          cases hm with
          | pan _ hv =>
            rename_i x
            exact runOpsS_sound hx hK l (k + 1) _ true h1 e a' rc' h' hl' hr ι _ w (.panicking [{ v := x, recovered := true }]) (ha.put (.refl ha.st) hv hdo) (.pan true hv) hd' hp
        · rename_i hne
          have hrec : recoverD ({ c₀ with mode := u } :: cs) = none := by
            cases hm with
            | ret rc => rfl
            | pan rc hv =>
              cases rc with
              | true => rfl
              | false => exact absurd rfl (hne _ rfl)
          rw [hrec]
          exact runOpsS_sound hx hK l (k + 1) _ rc h1 e a' rc' h' hl' hr ι _ w u (ha.put (.refl ha.st) .nili hdo) hm hd' hp
      · rename_i f args h1 ho
        obtain ⟨rfl, xs, q1, q2⟩ := opA_sim hx ha.st (fun x v hxv => ev_rel ha.tr ha.st.glob hxv) o ho
        split at hr
        · rename_i v h2 hk
          obtain ⟨fn, b1, b2⟩ := hK.body _ _ _ _ hk
          rw [q2 fn b1 b2]
          refine (hK.calls _ _ _ _ _ ι w xs hk ha.st q1).mono ?_
          rintro en w2 ⟨κ, r1, r2⟩
          cases r2 with
          | ret hv => exact runOpsS_sound hx hK l (k + 1) _ rc h2 e a' rc' h' hl' hr κ _ w2 u (ha.put r1 hv hdo) (hm.mono r1.grow.le) hd' (r1.postS hp)
        · cases hr
      · cases hr
    · cases hr

theorem execS_sound (hx : ExtOk P X) (hK : KOk P K) (hD : DrawSound P X K nt) {pn : Option AV} {c₀ : Frame} {cs : List Frame} : ∀ (c : Code) (a : AAct) (rc : Bool) (h : H) (e : AExit) (a' : AAct) (rc' : Bool) (h' : H), execS P X K N pn c a rc h = some (e, a', rc', h') →
    ∀ (ι : Emb) (b : Act) (w : World) (u : FrameMode) (Q : Exit → Act → List Frame → World → Prop), ARel P h ι w nt a b → MRel P ι pn rc u → dstOk nt c = true → PostS P h ι w nt pn e a' rc' h' c₀ cs Q →
      c.wpS P Q b ({ c₀ with mode := u } :: cs) w := by
  have plain : ∀ (c : Code) (a : AAct) (rc : Bool) (h : H) (e : AExit) (a' : AAct) (rc' : Bool) (h' : H), (match exec P X K N c a h with | some (e, a, h) => some (e, a, rc, h) | none => none) = some (e, a', rc', h') →
    ∀ (ι : Emb) (b : Act) (w : World) (u : FrameMode) (Q : Exit → Act → List Frame → World → Prop), ARel P h ι w nt a b → MRel P ι pn rc u → dstOk nt c = true → PostS P h ι w nt pn e a' rc' h' c₀ cs Q →
      c.wpS P Q b ({ c₀ with mode := u } :: cs) w := by
    intro c a rc h e a' rc' h' hr ι b w u Q ha hm hd hp
    split at hr
    · rename_i e1 a1 h1 he
      cases hr
      exact wpS_of_wp (exec_sound hx hK hD c a h e a' h' he ι b w _ ha hd (fun κ b' w' E q1 q2 q3 => hp κ b' w' u E q1 q2 (hm.mono q1.grow.le) q3))
    · cases hr
  intro c
  induction c with
  | seq x y ihx ihy =>
    intro a rc h e a' rc' h' hr ι b w u Q ha hm hd hp
    simp only [dstOk, Bool.and_eq_true] at hd
    simp only [execS] at hr
    apply wpS_seq
    split at hr
    · rename_i a1 rc1 h1 h1e
      refine ihx a rc h _ _ _ _ h1e ι b w u _ ha hm hd.1 ?_
      intro κ b1 w1 u1 E hd1 ha1 hm1 hE
      cases hE
      exact ihy a1 rc1 h1 e a' rc' h' hr κ b1 w1 u1 Q ha1 hm1 hd.2 (hd1.postS hp)
    · rename_i hne
      refine ihx a rc h _ _ _ _ hr ι b w u _ ha hm hd.1 ?_
      intro κ b1 w1 u1 E hd1 ha1 hm1 hE
      have hq := hp κ b1 w1 u1 E hd1 ha1 hm1 hE
      cases hE with
      | normal => exact absurd hr (hne _ _ _)
      | _ => exact hq
  | region id ops draw =>
    intro a rc h e a' rc' h' hr ι b w u Q ha hm hd hp
    simp only [execS] at hr
    split at hr
    · rename_i hh
      have hdd := dst_all (nt := nt) (ops := ops.toList) hd
      apply wpS_region
      rw [List.range_eq_range']
      have hs : ops.size = ops.toList.length := by simp
      rw [hs]
      exact runOpsS_sound hx hK ops.toList 0 a rc h e a' rc' h' (fun j => by simp) hr ι b w u ha hm hdd hp
    · exact plain _ a rc h e a' rc' h' hr ι b w u Q ha hm hd hp
  | _ =>
    intro a rc h e a' rc' h' hr ι b w u Q ha hm hd hp
    simp only [execS] at hr
    exact plain _ a rc h e a' rc' h' hr ι b w u Q ha hm hd hp

theorem argsT_rel : ∀ (l : List AV) (n : Nat) (t : Tr AV) (d : Nat), (argsT l n t).get d = if n ≤ d ∧ d < n + l.length then l[d - n]? else t.get d
  | [], n, t, d => by simp [argsT]; intro h1 h2; omega
  | v :: l, n, t, d => by
    rw [argsT, argsT_rel l]
    show (if n + 1 ≤ d ∧ d < n + 1 + l.length then l[d - (n + 1)]? else (t.set n v).get d) = _
    rw [Tr.get_set]
    by_cases h1 : d = n
    · subst h1
      rw [if_neg (by omega), if_pos rfl, if_pos (by simp), Nat.sub_self]
      rfl
    · by_cases h2 : n + 1 ≤ d ∧ d < n + 1 + l.length
      · rw [if_pos h2, if_pos (by simp; omega)]
        obtain ⟨m, hm⟩ : ∃ m, d - n = m + 1 := ⟨d - n - 1, by omega⟩
        rw [hm, List.getElem?_cons_succ]
        congr 1
        omega
      · rw [if_neg h2, if_neg h1, if_neg (by simp; omega)]

theorem start_rel (hs : St P h ι w) {args : List AV} {xs : Array Value} (ha : VRelL P ι args xs.toList) {n : Nat} (hn : args.length ≤ n) :
    ARel P h ι w n { t := argsT args 0 .lf, ds := [] } { tmps := xs ++ Array.replicate (n - xs.size) undef, defers := [] } where
  st := hs
  tr := by
    intro d v hd
    rw [argsT_rel] at hd
    split at hd
    · rename_i hlt
      obtain ⟨x, a, b⟩ := ha.get _ _ hd
      have a' : xs[d]? = some x := by simpa using a
      refine ⟨x, ?_, b⟩
      rw [Array.getElem?_append, if_pos (Array.getElem?_eq_some_iff.1 a').1]
      exact a'
    · simp [Tr.get] at hd
  sz := by
    have := ha.length
    simp
    simp at this
    omega
  ds := .nil

def resV (m : Array Value) : ResultVar → Sem Value
  | .tmp t => pure (m.getD t undef)
  | .cell a t => do loadVar t (← asAddr (m.getD a undef))

theorem results_def (fn : Func) (m : Array Value) : results fn m = (do
    let vs ← fn.results.mapM (resV m)
    pure (if h : vs.size = 1 then vs[0] else .tuple vs)) := rfl

theorem res_rel (ha : St P h ι w) {t : Tr AV} {m : Array Value} (ht : TRel P ι t m) : ∀ (l : List ResultVar) (r : List AV), resA P h t l = some r →
    ∃ vs : List Value, (l.mapM (resV m)).run P w = .ok vs w ∧ VRelL P ι r vs
  | [], r, hr => by
    simp [resA] at hr
    subst hr
    exact ⟨[], by simp, .nil⟩
  | .tmp d :: l, r, hr => by
    unfold resA at hr
    split at hr
    · rename_i v hv
      split at hr
      · rename_i r' hr'
        cases hr
        obtain ⟨x, a, b⟩ := ht d v hv
        obtain ⟨vs, q1, q2⟩ := res_rel ha ht l r' hr'
        refine ⟨x :: vs, ?_, .cons b q2⟩
        have hv : (resV m (.tmp d)).run P w = .ok x w := by simp [resV, a]
        simp only [List.mapM_cons, Sem.run_bind, Sem.run_pure, Result.andThen_ok, q1, hv]
      · cases hr
    · cases hr
  | .cell d ty :: l, r, hr => by
    unfold resA at hr
    split at hr
    · rename_i p hp
      split at hr
      · rename_i v hv
        split at hr
        · rename_i r' hr'
          cases hr
          obtain ⟨x, a, b⟩ := ht d p hp
          have hpp : ∃ F g o e, p = .ptr F g o e := by
            cases p <;> first
              | exact ⟨_, _, _, _, rfl⟩
              | simp [loadVarA] at hv
          obtain ⟨F, g, o, e, rfl⟩ := hpp
          cases b with
          | ptr hi he =>
          obtain ⟨y, q1, q2⟩ := loadVar_rel ha.rel hv hi he
          obtain ⟨vs, r1, r2⟩ := res_rel ha ht l r' hr'
          refine ⟨y :: vs, ?_, .cons q2 r2⟩
          have hv : (resV m (.cell d ty)).run P w = .ok y w := by simp [resV, a, asAddr, q1]
          simp only [List.mapM_cons, Sem.run_bind, Sem.run_pure, Result.andThen_ok, r1, hv]
        · cases hr
      · cases hr
    · cases hr

theorem results_rel (ha : St P h ι w) {t : Tr AV} {m : Array Value} (ht : TRel P ι t m) {fn : Func} {r : List AV} (hr : resA P h t fn.results.toList = some r) :
    ∃ x, (results fn m).run P w = .ok x w ∧ VRel P ι (results1 r) x := by
  obtain ⟨vs, q1, q2⟩ := res_rel ha ht fn.results.toList r hr
  have hm : (fn.results.mapM (resV m)).run P w = .ok vs.toArray w := by
    rw [Array.mapM_eq_mapM_toList]
    simp [q1]
  refine ⟨if h : vs.toArray.size = 1 then vs.toArray[0] else .tuple vs.toArray, ?_, ?_⟩
  · simp only [results_def, Sem.run_bind, hm, Result.andThen_ok, Sem.run_pure]
  · cases q2 with
    | nil => exact .tup .nil
    | cons h1 h2 =>
      cases h2 with
      | nil => exact h1
      | cons h2 h3 =>
        rw [dif_neg (by simp)]
        exact .tup (.cons h1 (.cons h2 h3))

/-- a deferred call -/
theorem callD_sound (hx : ExtOk P X) (hK : KOk P K) (hD : ∀ nt, DrawSound P X K nt) {pn : Option AV} {f : FuncId} {args : List AV} {rc : Bool} (hc : callD P X K N pn f args h = some (rc, h')) (hs : St P h ι w) {xs : Array Value}
    (ha : VRelL P ι args xs.toList) {u : FrameMode} (hm : MRel P ι pn false u) :
    (∃ fn, P.funcs[f]? = some fn ∧ fn.body.isNone = false) ∧ CallsD P f xs u w fun en u' w' => ∃ v κ, en = .returned v ∧ Done P h ι w h' κ w' ∧ MRel P κ pn rc u' := by
  unfold callD at hc
  split at hc
  · rename_i fn hf
    split at hc
    · rename_i c hb
      refine ⟨⟨fn, hf, by rw [hb]; rfl⟩, ?_⟩
      have go : ∀ (ok : Bool) (e : AExit) (a : AAct) (h1 : H), (Nat.ble args.length fn.ntmps && dstOk fn.ntmps c && Nat.beq fn.results.size 0) = true → execS P X K N pn c { t := argsT args 0 .lf, ds := [] } false h = some (e, a, rc, h') → (e = .normal ∨ e = .ret) → a.ds = [] →
          CallsD P f xs u w fun en u' w' => ∃ v κ, en = .returned v ∧ Done P h ι w h' κ w' ∧ MRel P κ pn rc u' := by
        intro ok e a h1 hok he hee hds
        simp only [Bool.and_eq_true] at hok
        have q1 := Nat.le_of_ble_eq_true hok.1.1
        have q3 : fn.results.size = 0 := Nat.eq_of_beq_eq_true hok.2
        refine callsD_of_wpS hf hb fun c₀ cs hu => ?_
        subst hu
        have hst := start_rel hs ha q1
        refine execS_sound (c₀ := c₀) (cs := cs) hx hK (hD fn.ntmps) c _ false h e a rc h' he ι _ w c₀.mode _ hst hm hok.1.2 ?_
        intro κ b' w' u' E d1 d2 d3 d4
        have hbd : b'.defers = [] := by
          have := d2.ds
          rw [hds] at this
          generalize b'.defers = q at this ⊢
          cases this
          rfl
        have hres : (results fn b'.tmps).run P w' = .ok (.tuple #[]) w' := by
          have hr0 : fn.results = #[] := Array.eq_empty_of_size_eq_zero q3
          rw [results_def, hr0]
          simp
        rcases hee with rfl | rfl
        · cases d4
          exact ⟨hbd, u', rfl, _, hres, _, κ, rfl, d1, d3⟩
        · cases d4
          exact ⟨hbd, u', rfl, _, hres, _, κ, rfl, d1, d3⟩
      split at hc
      · rename_i a rc' h1 hok he
        split at hc
        · rename_i hds
          cases hc
          exact go true _ a h hok he (.inl rfl) hds
        · cases hc
      · rename_i a rc' h1 hok he
        split at hc
        · rename_i hds
          cases hc
          exact go true _ a h hok he (.inr rfl) hds
        · cases hc
      · cases hc
    · cases hc
  · cases hc

theorem leave_sound (hx : ExtOk P X) (hK : KOk P K) (hD : ∀ nt, DrawSound P X K nt) {fn : Func} {t : Tr AV} {m : Array Value} : ∀ (ds : List (FuncId × List AV)) (dl : List Deferred) (pn : Option AV) (h : H) (r : ARes) (h' : H) (ι : Emb) (w : World) (u : FrameMode) (R : Ending → World → Prop),
    leave P (callD P X K N) fn t ds pn h = some (r, h') → St P h ι w → TRel P ι t m → DsRel P ι ds dl → MRel P ι pn false u →
    (∀ κ w' E, Done P h ι w h' κ w' → EndRel P κ r E → R E w') → Leaves P fn m R dl u w
  | [], dl, pn, h, r, h', ι, w, u, R, hl, hs, ht, hd, hm, hR => by
    cases hd
    cases hm with
    | ret =>
      simp only [leave] at hl
      split at hl
      · rename_i l hres
        cases hl
        obtain ⟨x, q1, q2⟩ := results_rel hs ht hres
        exact ⟨x, q1, hR ι w _ (.refl hs) (.ret q2)⟩
      · cases hl
    | pan _ hv =>
      simp only [leave] at hl
      cases hl
      exact hR ι w _ (.refl hs) (.panic hv)
  | (f, args) :: ds, dl, pn, h, r, h', ι, w, u, R, hl, hs, ht, hd, hm, hR => by
    cases hd with
    | cons hv hd =>
    rename_i xs ys dl
    have hne : u ≠ .run := by cases hm <;> simp
    simp only [leave] at hl
    split at hl
    · rename_i h1 hc
      obtain ⟨⟨fn', b1, b2⟩, q⟩ := callD_sound hx hK hD hc hs hv hm
      have hn : ¬ (fn'.name = "runtime.NumGoroutine") := by simpa using hx.noGo f fn' b1
      refine ⟨hne, .func f, ys, f, xs ++ ys, rfl, ?_, ?_⟩
      · simp [invoke, callFunc, b1, hn]
        intro q; simp [q] at b2
      · intro c cs hcu
        obtain ⟨e, u', w', fr, ⟨v, κ, rfl, d1, d2⟩, z1, z2, z3⟩ := q c cs hcu
        refine ⟨_, u', w', fr, ?_, z1, z2, z3⟩
        simp only
        have hset : MRel P κ none false (settle u') := by
          cases d2 with
          | ret => exact .ret _
          | pan _ hv => exact .ret _
        exact leave_sound hx hK hD ds dl none h1 r h' κ w' (settle u') R hl (d1.st hs) (ht.mono d1.grow.le) (hd.mono d1.grow.le) hset (fun κ' w2 E a b => hR κ' w2 E (d1.trans a) b)
    · rename_i h1 hc
      obtain ⟨⟨fn', b1, b2⟩, q⟩ := callD_sound hx hK hD hc hs hv hm
      have hn : ¬ (fn'.name = "runtime.NumGoroutine") := by simpa using hx.noGo f fn' b1
      refine ⟨hne, .func f, ys, f, xs ++ ys, rfl, ?_, ?_⟩
      · simp [invoke, callFunc, b1, hn]
        intro q; simp [q] at b2
      · intro c cs hcu
        obtain ⟨e, u', w', fr, ⟨v, κ, rfl, d1, d2⟩, z1, z2, z3⟩ := q c cs hcu
        refine ⟨_, u', w', fr, ?_, z1, z2, z3⟩
        simp only
        have hset : MRel P κ pn false (settle u') := by
          cases d2 with
          | ret => exact .ret _
          | pan _ hv => exact .pan false hv
        exact leave_sound hx hK hD ds dl pn h1 r h' κ w' (settle u') R hl (d1.st hs) (ht.mono d1.grow.le) (hd.mono d1.grow.le) hset (fun κ' w2 E a b => hR κ' w2 E (d1.trans a) b)
    · cases hl

/-- functions with a law of their own -/
def PrimOk (P : Program) (X : Cx) : Prop := ∀ f p, X.prim f = some p → KOk P (fun g args h => if g = f then p args h else none)

theorem callN_sound (hx : ExtOk P X) (hp : PrimOk P X) (hD : ∀ K nt, KOk P K → DrawSound P X K nt) : ∀ n, KOk P (callN P X N n)
  | 0 => ⟨fun f args h r hr => by simp [callN] at hr, fun f args h r h' ι w xs hr => by simp [callN] at hr⟩
  | n + 1 => by
    have ih := callN_sound hx hp hD n
    refine ⟨fun f args h r hr => ?_, fun f args h r h' ι w xs hr hs ha => ?_⟩
    · unfold callN at hr
      split at hr
      · rename_i p hpf
        exact (hp f p hpf).body f args h r (by simp [hr])
      · split at hr
        · rename_i fn hf
          split at hr
          · rename_i c hb
            exact ⟨fn, hf, by rw [hb]; rfl⟩
          · cases hr
        · cases hr
    · unfold callN at hr
      split at hr
      · rename_i p hpf
        exact (hp f p hpf).calls f args h r h' ι w xs (by simp [hr]) hs ha
      · split at hr
        · rename_i fn hf
          split at hr
          · rename_i c hb
            split at hr
            · rename_i hok
              simp only [Bool.and_eq_true] at hok
              have q1 := Nat.le_of_ble_eq_true hok.1
              have hst := start_rel hs ha q1
              refine calls_of_wp_defers hf hb ?_
              have go : ∀ (e : AExit) (a : AAct) (h1 : H) (pn : Option AV), exec P X (callN P X N n) N c { t := argsT args 0 .lf, ds := [] } h = some (e, a, h1) → leave P (callD P X (callN P X N n) N) fn a.t a.ds pn h1 = some (r, h') →
                  ((e = .normal ∧ pn = none) ∨ (e = .ret ∧ pn = none) ∨ ∃ v, e = .panic v ∧ pn = some v) →
                  c.wp P (bodyPostD P fn fun en w' => ∃ κ, Done P h ι w h' κ w' ∧ EndRel P κ r en) { tmps := xs ++ Array.replicate (fn.ntmps - xs.size) undef, defers := [] } w := by
                intro e a h1 pn he hl hcase
                refine exec_sound hx ih (hD _ fn.ntmps ih) c _ h e a h1 he ι _ w _ hst hok.2 ?_
                intro κ b' w' E d1 d2 d3
                have lv := fun (u : FrameMode) (hm : MRel P κ pn false u) => leave_sound hx ih (fun nt => hD _ nt ih) (m := b'.tmps) a.ds b'.defers pn h1 r h' κ w' u (fun en w' => ∃ κ, Done P h ι w h' κ w' ∧ EndRel P κ r en) hl d2.st d2.tr d2.ds hm
                  (fun κ2 w2 E2 z1 z2 => ⟨κ2, d1.trans z1, z2⟩)
                rcases hcase with ⟨rfl, rfl⟩ | ⟨rfl, rfl⟩ | ⟨v, rfl, rfl⟩
                · cases d3; exact lv _ (.ret _)
                · cases d3; exact lv _ (.ret _)
                · cases d3 with
                  | panic hv => exact lv _ (.pan false hv)
              split at hr
              · rename_i a h1 he
                exact go _ a h1 none he hr (.inl ⟨rfl, rfl⟩)
              · rename_i a h1 he
                exact go _ a h1 none he hr (.inr (.inl ⟨rfl, rfl⟩))
              · rename_i v a h1 he
                exact go _ a h1 (some v) he hr (.inr (.inr ⟨v, rfl, rfl⟩))
              · cases hr
            · cases hr
          · cases hr
        · cases hr
end
end Go.Ai
