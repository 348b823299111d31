/- A part of the proof of ConsoleRuns: AiFok4. -/
import Derived.Test.YtngchkhbhcgmhaaGreatDoorAiFok3
set_option linter.unusedVariables false
set_option linter.unusedSimpArgs false
set_option linter.unusedSectionVars false
set_option linter.unnecessarySimpa false
/- What the fast run says is what the interpreter says: regions, bodies, calls. -/
namespace Go.Ai

/-- regions that draw their order, looked at ahead -/
def regOk (P : Program) : Code → Bool
  | .region _ ops draw => match draw with
    | true => staticOk P ops.toList
    | false => true
  | .seq x y => regOk P x && regOk P y
  | .cond _ x y => regOk P x && regOk P y
  | .block _ x => regOk P x
  | .loop x => regOk P x
  | _ => true

def AllOk (P : Program) : Prop := ∀ (f : Nat) (fn : Func) (c : Code), P.funcs[f]? = some fn → fn.body = some c → dstOk fn.ntmps c = true ∧ regOk P c = true

def KR (K : CallK) (KF : CK) : Prop := ∀ f args h k, KF f args h k = .yes → ∃ r h', K f args h = some (r, h') ∧ k r h' = .yes

def fin (kN : KN) (kX : KX) : AExit × AAct × H → Ans
  | (.normal, a, h) => kN a.t a.ds h
  | (e, a, h) => kX e a.t a.ds h

section
variable {E : Ev} {K : CallK} {KF : CK} {all : List Oper}

theorem dstK_eq (d : Option Tmp) (v : AV) (t : Tr AV) (k : Tr AV → Ans) : dstK d v t k = k (putT t d v) := by
  cases d with
  | none => rfl
  | some d => exact setP_eq d v t k

theorem wantK_yes {o : Oper} {t : Tr AV} {y n : Ans} (hh : wantK all o.guard t y n = .yes) : (wantedA all t o = some true ∧ y = .yes) ∨ (wantedA all t o = some false ∧ n = .yes) := by
  unfold wantedA
  cases hg : o.guard with
  | none => rw [hg] at hh; exact .inl ⟨rfl, hh⟩
  | some q =>
    obtain ⟨j, b⟩ := q
    rw [hg] at hh
    obtain ⟨d, h1, hh⟩ := oK_yes (x := gdT all j) hh
    obtain ⟨v, h2, hh⟩ := getP_yes hh
    have hy : yieldA all t j = match v with | .bool c => some (some c) | .tup _ => some none | _ => none := by
      unfold gdT at h1
      unfold yieldA
      split at h1
      · rename_i o' ho
        rw [ho]
        simp only [h1, h2]
        cases v <;> rfl
      · cases h1
    cases v with
    | bool c =>
      simp only at hy
      simp only [hy]
      cases c <;> cases b <;> first | (refine .inl ⟨?_, hh⟩; simp; done) | (refine .inr ⟨?_, hh⟩; simp; done)
    | tup l =>
      simp only at hy
      simp only [hy]
      exact .inr ⟨by simp, hh⟩
    | _ => cases hh

theorem opsK_yes (hK : KR K KF) : ∀ {l : List Oper} {kN : KN} {kX : KX} {t : Tr AV} {ds : Ds} {h : H}, opsK E KF all l kN kX t ds h = .yes → ∃ res, runOps E.P E.X K all l ⟨t, ds⟩ h = some res ∧ fin kN kX res = .yes
  | [], kN, kX, t, ds, h, hh => ⟨_, rfl, hh⟩
  | o :: l, kN, kX, t, ds, h, hh => by
    have hs : step1K E KF all o t ds h (opsK E KF all l kN kX) kX = .yes := hh
    have run : opK o.op E t h (valK o.dst t ds (opsK E KF all l kN kX)) (upon KF o.dst t ds (opsK E KF all l kN kX) kX) = .yes → wantedA all t o = some true → ∃ res, runOps E.P E.X K all (o :: l) ⟨t, ds⟩ h = some res ∧ fin kN kX res = .yes := by
      intro hr hw
      obtain ⟨r, h1, h2⟩ := opK_ok hr
      unfold runOps
      simp only [hw, h1]
      cases r with
      | val v h' =>
        have h3 : dstK o.dst v t (fun t => opsK E KF all l kN kX t ds h') = .yes := h2
        rw [dstK_eq] at h3
        exact opsK_yes hK h3
      | enter f args h' =>
        obtain ⟨r, h4, h5, h6⟩ := hK _ _ _ _ h2
        simp only [h5]
        cases r with
        | ret v =>
          have h7 : dstK o.dst v t (fun t => opsK E KF all l kN kX t ds h4) = .yes := h6
          rw [dstK_eq] at h7
          exact opsK_yes hK h7
        | panic v => exact ⟨_, rfl, h6⟩
      | defer f args h' =>
        have h3 : dstK o.dst .undef t (fun t => opsK E KF all l kN kX t ((f, args) :: ds) h') = .yes := h2
        rw [dstK_eq] at h3
        exact opsK_yes hK h3
      | panic v h' => exact ⟨_, rfl, h2⟩
      | recover h' => cases h2
    rcases wantK_yes (o := o) hs with ⟨h1, h2⟩ | ⟨h1, h2⟩
    · exact run h2 h1
    · have h3 : dstK o.dst .undef t (fun t => opsK E KF all l kN kX t ds h) = .yes := h2
      rw [dstK_eq] at h3
      unfold runOps
      simp only [h1]
      exact opsK_yes hK h3

/-! Drawn regions. -/
theorem rdK_yes {op : Op} {t : Tr AV} {h : H} {k : AV → Ans} (hh : rdK op E t h k = .yes) : ∃ v, readA E.P h (ev E.P t) op = some v ∧ k v = .yes := by
  cases op with
  | load ty x =>
    obtain ⟨p, h1, h2⟩ := evK_yes (x := x) (k := fun p => loadVarK E h ty p k) hh
    obtain ⟨v, h3, h4⟩ := loadVarK_yes h2
    exact ⟨v, by simp only [readA, h1, h3], h4⟩
  | _ => exact oK_yes hh

theorem drStepK_yes (hK : KR K KF) {o : Oper} {t : Tr AV} {h : H} {k : AV → H → Ans} (hh : drStepK E KF o.op t h k = .yes) : ∃ v h', drawStep E.P E.X K h t o = some (.ret v, h') ∧ k v h' = .yes := by
  unfold drStepK at hh
  have hard : opK o.op E t h k (uponD KF k) = .yes → ∃ v h', (match opA E.P E.X h (ev E.P t) o.op with
      | some (.val v h) => some (ARes.ret v, h)
      | some (.enter f args h) => K f args h
      | _ => none) = some (.ret v, h') ∧ k v h' = .yes := by
    intro hh
    obtain ⟨r, h1, h2⟩ := opK_ok hh
    rw [h1]
    cases r with
    | val v h' => exact ⟨v, h', rfl, h2⟩
    | enter f args h' =>
      obtain ⟨r, h4, h5, h6⟩ := hK _ _ _ _ h2
      cases r with
      | ret v => exact ⟨v, h4, h5, h6⟩
      | panic v => cases h6
    | _ => cases h2
  unfold drawStep
  cases hc : clsOf E.P o.op with
  | pure =>
    rw [hc] at hh
    have hq : @H.rec (fun _ => H) (fun nx _ => ⟨nx, .lf⟩) h = (⟨h.nx, .lf⟩ : H) := by cases h; rfl
    simp only [hq] at hh
    obtain ⟨r, h1, h2⟩ := opK_ok hh
    simp only
    cases r with
    | val v h' => exact ⟨v, h, by rw [h1], h2⟩
    | _ => cases h2
  | load =>
    rw [hc] at hh
    have hr : ∃ v, readA E.P h (ev E.P t) o.op = some v ∧ k v h = .yes := by
      exact rdK_yes hh
    obtain ⟨v, h1, h2⟩ := hr
    exact ⟨v, h, by simp only [h1], h2⟩
  | store => rw [hc] at hh; exact hard hh
  | alloc => rw [hc] at hh; exact hard hh
  | hard => rw [hc] at hh; exact hard hh

theorem notPure_mem {P : Program} : ∀ {l : List (Oper × Nat)} {o : Oper} {i : Nat}, (o, i) ∈ l → clsOf P o.op ≠ .pure → (o, i, clsOf P o.op) ∈ notPure P l
  | [], _, _, h, _ => by cases h
  | (o', i') :: l, o, i, h, hc => by
    unfold notPure
    rcases List.mem_cons.1 h with h | h
    · cases h
      split
      · rename_i q; exact absurd q hc
      · exact List.mem_cons_self
    · split
      · exact notPure_mem h hc
      · exact List.mem_cons_of_mem _ (notPure_mem h hc)

theorem pairsK_yes {P : Program} {acc : List Item} {k : Ans} : ∀ {ps : List (Nat × Nat)}, pairsK P acc k ps = .yes → (∀ q ∈ ps, pairOk P acc.reverse q.1 q.2 = true) ∧ k = .yes
  | [], hh => ⟨fun q hq => (by cases hq), hh⟩
  | p :: ps, hh => by
    obtain ⟨h1, h2⟩ := bK_yes (b := pairOk P acc.reverse p.1 p.2) (k := pairsK P acc k ps) hh
    obtain ⟨h3, h4⟩ := pairsK_yes h2
    refine ⟨fun q hq => ?_, h4⟩
    rcases List.mem_cons.1 hq with rfl | hq
    · exact h1
    · exact h3 q hq

theorem dynOk_of {P : Program} {ops : List Oper} {items : List Item} (ho : items.map (·.o) = ops) (hp : ∀ q ∈ pairsT P ops, pairOk P items q.1 q.2 = true) : dynOk P (befores ops) items = true := by
  unfold dynOk
  rw [List.all_eq_true]
  rintro ⟨q, k⟩ hq
  rw [List.all_eq_true]
  rintro ⟨p, i⟩ hpm
  simp only [Bool.or_eq_true, Bool.not_eq_true']
  obtain ⟨hk⟩ : items[k]? = some q ∧ True := by
    have := List.mem_iff_getElem?.1 hq
    obtain ⟨j, hj⟩ := this
    rw [List.getElem?_zipIdx] at hj
    cases hv : items[j]? with
    | none => rw [hv] at hj; cases hj
    | some v => rw [hv] at hj; simp at hj; obtain ⟨rfl, rfl⟩ := hj; exact ⟨hv, trivial⟩
  obtain ⟨hi⟩ : items[i]? = some p ∧ True := by
    have := List.mem_iff_getElem?.1 hpm
    obtain ⟨j, hj⟩ := this
    rw [List.getElem?_zipIdx] at hj
    cases hv : items[j]? with
    | none => rw [hv] at hj; cases hj
    | some v => rw [hv] at hj; simp at hj; obtain ⟨rfl, rfl⟩ := hj; exact ⟨hv, trivial⟩
  by_cases hlt : Nat.blt i k = true
  · by_cases hb : Nat.testBit ((befores ops).getD k 0) i = true
    · exact .inl (.inr hb)
    · right
      cases hd : dynCls (clsOf P p.o.op) (clsOf P q.o.op) with
      | true =>
        have hk' : (q.o, k) ∈ ops.zipIdx := by
          rw [List.mem_iff_getElem?]
          exact ⟨k, by rw [List.getElem?_zipIdx, ← ho, List.getElem?_map, hk]; simp⟩
        have hi' : (p.o, i) ∈ ops.zipIdx := by
          rw [List.mem_iff_getElem?]
          exact ⟨i, by rw [List.getElem?_zipIdx, ← ho, List.getElem?_map, hi]; simp⟩
        have np : clsOf P p.o.op ≠ .pure := by intro e; rw [e] at hd; cases hq2 : clsOf P q.o.op <;> rw [hq2] at hd <;> cases hd
        have nq : clsOf P q.o.op ≠ .pure := by intro e; rw [e] at hd; cases hq2 : clsOf P p.o.op <;> rw [hq2] at hd <;> cases hd
        have hmem : (i, k) ∈ pairsT P ops := by
          unfold pairsT dynL
          simp only [List.mem_flatMap, List.mem_map, List.mem_filter]
          refine ⟨_, notPure_mem hk' nq, _, ⟨notPure_mem hi' np, ?_⟩, rfl⟩
          simp only [hlt, hd, Bool.true_and]
          simpa using hb
        have := hp _ hmem
        unfold pairOk at this
        simp only [hi, hk] at this
        exact this
      | false =>
        unfold dynPair
        split
        · rfl
        · split <;> simp_all [dynCls]
  · left; left
    cases hq2 : Nat.blt i k with
    | false => rfl
    | true => exact absurd hq2 hlt

theorem drawK_yes (hK : KR K KF) {a0 : AAct} {kN : KN} : ∀ {l : List Oper} {acc : List Item} {t : Tr AV} {h : H}, (acc.reverse.map (·.o)) ++ l = all → drawK E KF all (pairsT E.P all) kN a0.ds l acc t h = .yes →
    ∃ t' h', drawOps E.P E.X K all a0 l acc t h = some (.normal, { a0 with t := t' }, h') ∧ kN t' a0.ds h' = .yes
  | [], acc, t, h, ho, hh => by
    obtain ⟨h1, h2⟩ := pairsK_yes (acc := acc) (k := kN t a0.ds h) hh
    rw [List.append_nil] at ho
    refine ⟨t, h, ?_, h2⟩
    unfold drawOps
    rw [dynOk_of ho h1]
  | o :: l, acc, t, h, ho, hh => by
    unfold drawOps
    rcases wantK_yes (o := o) hh with ⟨h1, h2⟩ | ⟨h1, h2⟩ <;> simp only [h1]
    · obtain ⟨v, h', h3, h4⟩ := drStepK_yes hK h2
      have h5 : dstK o.dst v t (fun t' => drawK E KF all (pairsT E.P all) kN a0.ds l (⟨o, t, h, h', true⟩ :: acc) t' h') = .yes := h4
      rw [dstK_eq] at h5
      simp only [h3]
      exact drawK_yes hK (by simpa using ho) h5
    · have h5 : dstK o.dst .undef t (fun t' => drawK E KF all (pairsT E.P all) kN a0.ds l (⟨o, t, h, h, false⟩ :: acc) t' h) = .yes := h2
      rw [dstK_eq] at h5
      exact drawK_yes hK (by simpa using ho) h5

/-! Bodies. -/
theorem codeK_yes (hK : KR K KF) : ∀ (c : Code) {kN : KN} {kX : KX} {t : Tr AV} {ds : Ds} {h : H}, regOk E.P c = true → codeK c E KF kN kX t ds h = .yes → ∃ res, exec E.P E.X K E.N c ⟨t, ds⟩ h = some res ∧ fin kN kX res = .yes := by
  intro c
  induction c with
  | skip => intro kN kX t ds h _ hh; exact ⟨_, rfl, hh⟩
  | region id ops draw =>
    intro kN kX t ds h hok hh
    cases draw with
    | false => exact opsK_yes hK hh
    | true =>
      have hst : staticOk E.P ops.toList = true := hok
      obtain ⟨t', h', h1, h2⟩ := drawK_yes (a0 := ⟨t, ds⟩) hK (by simp) hh
      refine ⟨(.normal, { t := t', ds := ds }, h'), ?_, h2⟩
      unfold exec
      simp only [hst]
      exact h1
  | seq x y ihx ihy =>
    intro kN kX t ds h hok hh
    simp only [regOk, Bool.and_eq_true] at hok
    obtain ⟨⟨e, a, h1⟩, h2, h3⟩ := ihx (kN := fun t ds h => codeK y E KF kN kX t ds h) (kX := kX) hok.1 hh
    unfold exec
    rw [h2]
    cases e with
    | normal =>
      obtain ⟨res, h4, h5⟩ := ihy hok.2 h3
      exact ⟨res, h4, h5⟩
    | _ => exact ⟨_, rfl, h3⟩
  | cond c x y ihx ihy =>
    intro kN kX t ds h hok hh
    simp only [regOk, Bool.and_eq_true] at hok
    obtain ⟨v, h1, h2⟩ := evK_yes (x := c) hh
    unfold exec
    rcases boolD_yes h2 with ⟨rfl, h2⟩ | ⟨rfl, h2⟩
    · simp only [h1]
      exact ihx hok.1 h2
    · simp only [h1]
      exact ihy hok.2 h2
  | block id x ih =>
    intro kN kX t ds h hok hh
    obtain ⟨⟨e, a, h1⟩, h2, h3⟩ := ih (kN := kN) (kX := fun e t ds h => @AExit.rec (fun _ => Ans) .no (fun i => bE (Nat.beq i id) (kN t ds h) (kX e t ds h)) (kX e t ds h) (fun _ => kX e t ds h) e) hok hh
    unfold exec
    rw [h2]
    cases e with
    | normal => exact ⟨_, rfl, h3⟩
    | exit i =>
      rcases bE_yes h3 with ⟨h4, h3⟩ | ⟨h4, h3⟩
      · simp only [h4]
        exact ⟨_, rfl, h3⟩
      · simp only [h4]
        exact ⟨_, rfl, h3⟩
    | ret => exact ⟨_, rfl, h3⟩
    | panic v => exact ⟨_, rfl, h3⟩
  | loop x ih =>
    intro kN kX t ds h hok hh
    have key : ∀ (n : Nat) (t : Tr AV) (ds : Ds) (h : H), @Nat.rec (fun _ => KN) (fun _ _ _ => .no) (fun _ rec t ds h => codeK x E KF rec kX t ds h) n t ds h = .yes → ∃ res, iter (exec E.P E.X K E.N x) n ⟨t, ds⟩ h = some res ∧ fin kN kX res = .yes := by
      intro n
      induction n with
      | zero => intro t ds h hh; cases hh
      | succ n ihn =>
        intro t ds h hh
        obtain ⟨⟨e, a, h1⟩, h2, h3⟩ := ih hok hh
        unfold iter
        rw [h2]
        cases e with
        | normal =>
          obtain ⟨res, h4, h5⟩ := ihn _ _ _ h3
          exact ⟨res, h4, h5⟩
        | _ => exact ⟨_, rfl, h3⟩
    exact key E.N t ds h hh
  | exit i => intro kN kX t ds h _ hh; exact ⟨_, rfl, hh⟩
  | ret => intro kN kX t ds h _ hh; exact ⟨_, rfl, hh⟩
  | _ => intro kN kX t ds h _ hh; cases hh

/-! Deferred functions' bodies. -/
def finS (kN : SN) (kX : SX) : AExit × AAct × Bool × H → Ans
  | (.normal, a, rc, h) => kN rc a.t a.ds h
  | (e, a, rc, h) => kX e rc a.t a.ds h

theorem opsSK_yes (hK : KR K KF) {pn : Option AV} {kX : SX} : ∀ {l : List Oper} {kN : SN} {rc : Bool} {t : Tr AV} {ds : Ds} {h : H}, opsSK E KF pn all l kN rc t ds h = .yes →
    ∃ res, runOpsS E.P E.X K pn all l ⟨t, ds⟩ rc h = some res ∧ finS kN kX res = .yes
  | [], kN, rc, t, ds, h, hh => ⟨_, rfl, hh⟩
  | o :: l, kN, rc, t, ds, h, hh => by
    obtain ⟨b, h1, h2⟩ := oK_yes (x := wantedA all t o) hh
    unfold runOpsS
    simp only [h1]
    rcases bE_yes h2 with ⟨rfl, h2⟩ | ⟨rfl, h2⟩
    · obtain ⟨dst, op, type, pos, after, guard⟩ := o
      obtain ⟨r, h3, h4⟩ := opK_ok (op := op) h2
      simp only [h3]
      cases r with
      | val v h' =>
        have h5 : dstK dst v t (fun t => opsSK E KF pn all l kN rc t ds h') = .yes := h4
        rw [dstK_eq] at h5
        exact opsSK_yes hK h5
      | enter f args h' =>
        obtain ⟨r, h6, h7, h8⟩ := hK _ _ _ _ h4
        simp only [h7]
        cases r with
        | ret v =>
          have h9 : dstK dst v t (fun t => opsSK E KF pn all l kN rc t ds h6) = .yes := h8
          rw [dstK_eq] at h9
          exact opsSK_yes hK h9
        | panic v => cases h8
      | recover h' =>
        cases pn with
        | none =>
          have h5 : dstK dst .nili t (fun t => opsSK E KF none all l kN rc t ds h') = .yes := h4
          rw [dstK_eq] at h5
          exact opsSK_yes hK h5
        | some v =>
          rcases bE_yes h4 with ⟨hrc, h4⟩ | ⟨hrc, h4⟩
          · have h5 : dstK dst .nili t (fun t => opsSK E KF (some v) all l kN rc t ds h') = .yes := h4
            rw [dstK_eq] at h5
            subst hrc
            exact opsSK_yes hK h5
          · have h5 : dstK dst v t (fun t => opsSK E KF (some v) all l kN true t ds h') = .yes := h4
            rw [dstK_eq] at h5
            subst hrc
            exact opsSK_yes hK h5
      | _ => cases h4
    · have h5 : dstK o.dst .undef t (fun t => opsSK E KF pn all l kN rc t ds h) = .yes := h2
      rw [dstK_eq] at h5
      exact opsSK_yes hK h5

theorem plainS_yes (hK : KR K KF) {pn : Option AV} {c : Code} {kN : SN} {kX : SX} {rc : Bool} {t : Tr AV} {ds : Ds} {h : H} (hok : regOk E.P c = true) (hh : plainS c E KF pn kN kX rc t ds h = .yes) :
    ∃ e a h', exec E.P E.X K E.N c ⟨t, ds⟩ h = some (e, a, h') ∧ finS kN kX (e, a, rc, h') = .yes := by
  obtain ⟨⟨e, a, h'⟩, h1, h2⟩ := codeK_yes hK c hok hh
  refine ⟨e, a, h', h1, ?_⟩
  cases e <;> exact h2

theorem codeSK_yes (hK : KR K KF) {pn : Option AV} : ∀ (c : Code) {kN : SN} {kX : SX} {rc : Bool} {t : Tr AV} {ds : Ds} {h : H}, regOk E.P c = true → codeSK c E KF pn kN kX rc t ds h = .yes →
    ∃ res, execS E.P E.X K E.N pn c ⟨t, ds⟩ rc h = some res ∧ finS kN kX res = .yes := by
  intro c
  have pl : ∀ (c : Code) {kN : SN} {kX : SX} {rc : Bool} {t : Tr AV} {ds : Ds} {h : H}, regOk E.P c = true → plainS c E KF pn kN kX rc t ds h = .yes →
      ∃ res, (match exec E.P E.X K E.N c ⟨t, ds⟩ h with | some (e, a, h) => some (e, a, rc, h) | none => none) = some res ∧ finS kN kX res = .yes := by
    intro c kN kX rc t ds h hok hh
    obtain ⟨e, a, h', h1, h2⟩ := plainS_yes hK hok hh
    exact ⟨_, by rw [h1], h2⟩
  induction c with
  | seq x y ihx ihy =>
    intro kN kX rc t ds h hok hh
    simp only [regOk, Bool.and_eq_true] at hok
    obtain ⟨⟨e, a, rc', h1⟩, h2, h3⟩ := ihx (kN := fun rc t ds h => codeSK y E KF pn kN kX rc t ds h) (kX := kX) hok.1 hh
    unfold execS
    rw [h2]
    cases e with
    | normal =>
      obtain ⟨res, h4, h5⟩ := ihy hok.2 h3
      exact ⟨res, h4, h5⟩
    | _ => exact ⟨_, rfl, h3⟩
  | region id ops draw =>
    intro kN kX rc t ds h hok hh
    unfold execS
    cases draw with
    | true =>
      obtain ⟨res, h1, h2⟩ := pl (.region id ops true) hok hh
      cases hr : hasRec ops.toList <;> exact ⟨res, h1, h2⟩
    | false =>
      rcases bE_yes hh with ⟨hr, hh⟩ | ⟨hr, hh⟩
      · obtain ⟨res, h1, h2⟩ := opsSK_yes (kX := kX) hK hh
        simp only [hr]
        exact ⟨res, h1, h2⟩
      · obtain ⟨res, h1, h2⟩ := pl (.region id ops false) hok hh
        simp only [hr]
        exact ⟨res, h1, h2⟩
  | _ =>
    intro kN kX rc t ds h hok hh
    exact pl _ hok hh

/-! Calls. -/
theorem argsK_eq : ∀ (l : List AV) (n : Nat) (t : Tr AV) (k : Tr AV → Ans), argsK l n t k = k (argsT l n t)
  | [], n, t, k => rfl
  | v :: l, n, t, k => by
    show setP (pa n) v t (fun t => argsK l (Nat.succ n) t k) = _
    rw [setP_eq, argsK_eq l]
    rfl
theorem resK_yes {h : H} {t : Tr AV} : ∀ {l : List ResultVar} {k : List AV → Ans}, resK E h t l k = .yes → ∃ r, resA E.P h t l = some r ∧ k r = .yes
  | [], k, hh => ⟨[], rfl, hh⟩
  | .tmp d :: l, k, hh => by
    obtain ⟨v, h1, h2⟩ := getP_yes (n := d) (t := t) (k := fun v => resK E h t l (fun l => k (v :: l))) hh
    obtain ⟨r, h3, h4⟩ := resK_yes h2
    exact ⟨v :: r, by simp only [resA, h1, h3], h4⟩
  | .cell d ty :: l, k, hh => by
    obtain ⟨p, h1, h2⟩ := getP_yes (n := d) (t := t) (k := fun p => loadVarK E h ty p (fun v => resK E h t l (fun l => k (v :: l)))) hh
    obtain ⟨v, h3, h4⟩ := loadVarK_yes h2
    obtain ⟨r, h5, h6⟩ := resK_yes h4
    exact ⟨v :: r, by simp only [resA, h1, h3, h5], h6⟩
theorem res1K_eq (l : List AV) (k : AV → Ans) : res1K l k = k (results1 l) := by
  cases l with
  | nil => rfl
  | cons v l => cases l <;> rfl

theorem nilDs_yes {ds : Ds} {k : Ans} (h : nilDs ds k = .yes) : ds = [] ∧ k = .yes := by
  cases ds with
  | nil => exact ⟨rfl, h⟩
  | cons _ _ => cases h

theorem callDK_yes (hA : AllOk E.P) (hK : KR K KF) {pn : Option AV} {f : FuncId} {args : List AV} {h : H} {k : Bool → H → Ans} (hh : callDK E KF pn f args h k = .yes) :
    ∃ rc h', callD E.P E.X K E.N pn f args h = some (rc, h') ∧ k rc h' = .yes := by
  unfold callDK at hh
  obtain ⟨c, h1, hh⟩ := oK_yes hh
  unfold fnAtD at h1
  split at h1
  · rename_i fn hf
    have hf := E.hf _ _ hf
    split at h1
    · rename_i c' hb
      split at h1
      · rename_i hc
        cases h1
        obtain ⟨a1, a2⟩ := hA f fn c hf hb
        rw [argsK_eq] at hh
        obtain ⟨⟨e, a, rc, h'⟩, h2, h3⟩ := codeSK_yes hK c a2 hh
        rw [lenL_eq] at hc
        simp only [Bool.and_eq_true] at hc
        have hc' : (Nat.ble args.length fn.ntmps && dstOk fn.ntmps c && Nat.beq fn.results.size 0) = true := by rw [hc.1, a1, hc.2]; rfl
        unfold callD
        simp only [hf, hb, hc', h2]
        cases e with
        | normal =>
          obtain ⟨h4, h5⟩ := nilDs_yes h3
          simp only [h4]
          exact ⟨rc, h', rfl, h5⟩
        | ret =>
          obtain ⟨h4, h5⟩ := nilDs_yes h3
          simp only [h4]
          exact ⟨rc, h', rfl, h5⟩
        | exit i => cases h3
        | panic v => cases h3
      · cases h1
    · cases h1
  · cases h1

theorem leaveK_yes (hA : AllOk E.P) (hK : KR K KF) {fn : Func} {kr : ARes → H → Ans} {t : Tr AV} : ∀ {ds : Ds} {pn : Option AV} {h : H}, leaveK E KF fn.results.toList kr t ds pn h = .yes →
    ∃ r h', leave E.P (callD E.P E.X K E.N) fn t ds pn h = some (r, h') ∧ kr r h' = .yes
  | [], none, h, hh => by
    obtain ⟨l, h1, h2⟩ := resK_yes (k := fun l => res1K l (fun v => kr (.ret v) h)) hh
    rw [res1K_eq] at h2
    exact ⟨_, h, by unfold leave; rw [h1], h2⟩
  | [], some v, h, hh => ⟨_, h, rfl, hh⟩
  | (f, args) :: ds, pn, h, hh => by
    obtain ⟨rc, h', h1, h2⟩ := callDK_yes (k := fun rc h => bE rc (leaveK E KF fn.results.toList kr t ds none h) (leaveK E KF fn.results.toList kr t ds pn h)) hA hK hh
    unfold leave
    rw [h1]
    rcases bE_yes h2 with ⟨rfl, h2⟩ | ⟨rfl, h2⟩
    · exact leaveK_yes hA hK h2
    · exact leaveK_yes hA hK h2

theorem callNK_yes (hA : AllOk E.P) : ∀ (n : Nat), KR (callN E.P E.X E.N n) (callNK E n) := by
  intro n
  induction n with
  | zero => intro f args h k hh; cases hh
  | succ n ih =>
    intro f args h k hh
    have hq : callNK E (n + 1) f args h k = @Option.rec (List AV → H → Option (ARes × H)) (fun _ => Ans)
      (oK (fnAt E.ft f (lenL args)) (fun q => @Prod.rec Code (List ResultVar) (fun _ => Ans) (fun c rs => argsK args 0 .lf (fun t =>
        codeK c E (callNK E n) (fun t ds h => leaveK E (callNK E n) rs k t ds none h)
          (fun e t ds h => @AExit.rec (fun _ => Ans) .no (fun _ => .no) (leaveK E (callNK E n) rs k t ds none h) (fun v => leaveK E (callNK E n) rs k t ds (some v) h) e) t [] h)) q))
      (fun p => oK (p args h) (fun q => @Prod.rec ARes H (fun _ => Ans) k q)) (E.X.prim f) := rfl
    rw [hq] at hh
    unfold callN
    cases hp : E.X.prim f with
    | some p =>
      rw [hp] at hh
      obtain ⟨⟨r, h'⟩, h1, h2⟩ := oK_yes hh
      exact ⟨r, h', h1, h2⟩
    | none =>
      rw [hp] at hh
      obtain ⟨⟨c, rs⟩, h1, h2⟩ := oK_yes hh
      unfold fnAt at h1
      split at h1
      · rename_i fn hf
        have hf := E.hf _ _ hf
        unfold fnOk at h1
        split at h1
        · rename_i c' hb
          split at h1
          · rename_i hc
            cases h1
            obtain ⟨a1, a2⟩ := hA f fn c hf hb
            have h3 := h2
            simp only at h3
            rw [argsK_eq] at h3
            obtain ⟨⟨e, a, h'⟩, h4, h5⟩ := codeK_yes ih c a2 h3
            rw [lenL_eq] at hc
            have hc' : (Nat.ble args.length fn.ntmps && dstOk fn.ntmps c) = true := by rw [hc, a1]; rfl
            simp only [hf, hb, hc', h4]
            cases e with
            | normal => exact leaveK_yes hA ih h5
            | ret => exact leaveK_yes hA ih h5
            | exit i => cases h5
            | panic v => exact leaveK_yes hA ih h5
          · cases h1
        · cases h1
      · cases h1
end
end Go.Ai
