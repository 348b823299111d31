/- A part of the proof of ConsoleRuns: AiDraw5. -/
import Derived.Test.YtngchkhbhcgmhaaGreatDoorAiDraw4
set_option linter.unusedVariables false
set_option linter.unusedSimpArgs false
set_option linter.unusedSectionVars false
set_option linter.unnecessarySimpa false
/- The text's own run of a drawn region, and what the static checks say. -/
namespace Go.Ai
open Classical

section
variable {P : Program} {X : Cx} {K : CallK} {ι κ : Emb} {w w' : World}

/-- the text's own run -/
inductive Txt (P : Program) (X : Cx) (K : CallK) (all : List Oper) : Nat → List Oper → Tr AV → H → List It → Tr AV → H → Prop
  | nil (k t h) : Txt P X K all k [] t h [] t h
  | skip {k o l t h its t' h'} (hw : wantedA all t o = some false) (hl : Txt P X K all (k + 1) l (putT t o.dst .undef) h its t' h') :
      Txt P X K all k (o :: l) t h (⟨k, ⟨o, t, h, h, false⟩, .undef⟩ :: its) t' h'
  | run {k o l t h h1 v its t' h'} (hw : wantedA all t o = some true) (hs : drawStep P X K h t o = some (.ret v, h1)) (hl : Txt P X K all (k + 1) l (putT t o.dst v) h1 its t' h') :
      Txt P X K all k (o :: l) t h (⟨k, ⟨o, t, h, h1, true⟩, v⟩ :: its) t' h'

theorem drawOps_txt {all : List Oper} {a0 : AAct} : ∀ (l : List Oper) (acc : List Item) (t : Tr AV) (h : H) (e : AExit) (a' : AAct) (h' : H), drawOps P X K all a0 l acc t h = some (e, a', h') →
    (∃ its t', e = .normal ∧ Txt P X K all acc.length l t h its t' h' ∧ a' = { a0 with t := t' } ∧ dynOk P (befores all) (acc.reverse ++ its.map (·.i)) = true) ∨
    (∃ l1 o l2 its t1 h1 v, l = l1 ++ o :: l2 ∧ Txt P X K all acc.length l1 t h its t1 h1 ∧ wantedA all t1 o = some true ∧ drawStep P X K h1 t1 o = some (.panic v, h') ∧ clsOf P o.op = .hard ∧
      aloneOk P (befores all) all (acc.length + l1.length) = true ∧ dynOk P (befores all) (acc.reverse ++ its.map (·.i)) = true ∧ e = .panic v ∧ a' = { a0 with t := junkAll a0.t all })
  | [], acc, t, h, e, a', h', hr => by
    unfold drawOps at hr
    split at hr
    · rename_i hd
      simp only [Option.some.injEq, Prod.mk.injEq] at hr
      obtain ⟨rfl, rfl, rfl⟩ := hr
      exact .inl ⟨[], t, rfl, .nil _ _ _, rfl, by simpa using hd⟩
    · cases hr
  | o :: l, acc, t, h, e, a', h', hr => by
    unfold drawOps at hr
    split at hr
    · rename_i hw
      rcases drawOps_txt l _ _ _ _ _ _ hr with ⟨its, t', h1, h2, h3, h4⟩ | ⟨l1, o', l2, its, t1, h1, v, q1, q2, q3, q4, q5, q6, q7, q8⟩
      · refine .inl ⟨_, t', h1, .skip hw h2, h3, ?_⟩
        rw [List.reverse_cons, List.append_assoc] at h4
        exact h4
      · refine .inr ⟨o :: l1, o', l2, _, t1, h1, v, by rw [q1]; rfl, .skip hw q2, q3, q4, q5, ?_, ?_, q8⟩
        · rw [List.length_cons] at q6 ⊢
          rw [show acc.length + (l1.length + 1) = acc.length + 1 + l1.length by omega]
          exact q6
        · rw [List.reverse_cons, List.append_assoc] at q7
          exact q7
    · rename_i hw
      split at hr
      · rename_i v h2 hs
        rcases drawOps_txt l _ _ _ _ _ _ hr with ⟨its, t', h1, h2, h3, h4⟩ | ⟨l1, o', l2, its, t1, h1, v, q1, q2, q3, q4, q5, q6, q7, q8⟩
        · refine .inl ⟨_, t', h1, .run hw hs h2, h3, ?_⟩
          rw [List.reverse_cons, List.append_assoc] at h4
          exact h4
        · refine .inr ⟨o :: l1, o', l2, _, t1, h1, v, by rw [q1]; rfl, .run hw hs q2, q3, q4, q5, ?_, ?_, q8⟩
          · rw [List.length_cons] at q6 ⊢
            rw [show acc.length + (l1.length + 1) = acc.length + 1 + l1.length by omega]
            exact q6
          · rw [List.reverse_cons, List.append_assoc] at q7
            exact q7
      · rename_i v h2 hs
        split at hr
        · rename_i hc hok
          simp only [Option.some.injEq, Prod.mk.injEq] at hr
          obtain ⟨rfl, rfl, rfl⟩ := hr
          simp only [Bool.and_eq_true] at hok
          exact .inr ⟨[], o, l, [], t, h, v, rfl, .nil _ _ _, hw, hs, hc, by simpa using hok.1, by simpa using hok.2, rfl, rfl⟩
        · cases hr
      · cases hr
    · cases hr

/-- what stands of an operation of the text's run -/
structure Good (P : Program) (X : Cx) (K : CallK) (x : It) : Prop where
  fact : Fact P x
  eb : ∀ y v, ev P x.i.t y = some v → AVb x.i.h0.nx v
  b0 : OBd x.i.h0.nx x.i.h0.obj
  step : x.i.ran = true → drawStep P X K x.i.h0 x.i.t x.i.o = some (.ret x.v, x.i.h1)
  undef : x.i.ran = false → x.v = .undef ∧ x.i.h1 = x.i.h0

theorem putT_get (t : Tr AV) (d : Option Tmp) (v : AV) : (putT t d v).get = updT t.get d v := by
  cases d with
  | none => rfl
  | some d => funext e; exact Tr.get_set t d e v

theorem fact_step {x : It} {h0 h1 : H} {t : Tr AV} {o : Oper} {r : ARes} (hs : drawStep P X K h0 t o = some (r, h1)) :
    (clsOf P o.op = .alloc → h1.nx = h0.nx + 1) ∧ (clsOf P o.op = .store → ∃ F, addrF P ⟨o, t, h0, h1, true⟩ = some F ∧ h0.obj F ≠ none) := by
  constructor
  · intro hc
    unfold drawStep at hs
    rw [hc] at hs
    simp only at hs
    split at hs
    · rename_i v h2 ho
      obtain ⟨v', o', hq, _⟩ := alloc_step hc ho
      cases hq
      simp only [Option.some.injEq, Prod.mk.injEq] at hs
      rw [← hs.2]
      rfl
    · rename_i f args h2 ho
      obtain ⟨v', o', hq, _⟩ := alloc_step hc ho
      cases hq
    · cases hs
  · intro hc
    unfold drawStep at hs
    rw [hc] at hs
    simp only at hs
    have key : ∀ r, opA P X h0 (ev P t) o.op = some r → ∃ F, addrF P ⟨o, t, h0, h1, true⟩ = some F ∧ h0.obj F ≠ none := by
      intro r ho
      obtain ⟨F, f, f', ⟨tt, aa, xx, gg, oo, nn, hop, hea⟩, hF, hq, hall⟩ := store_step hc ho
      exact ⟨F, by unfold addrF; simp only [hop, hea], by rw [hF]; simp⟩
    split at hs
    · rename_i ho; exact key _ ho
    · rename_i ho; exact key _ ho
    · cases hs

theorem read_of_step {h0 h1 : H} {t : Tr AV} {o : Oper} {v : AV} (hc : clsOf P o.op = .load) (hs : drawStep P X K h0 t o = some (.ret v, h1)) : readA P h0 (ev P t) o.op = some v := by
  unfold drawStep at hs
  rw [hc] at hs
  simp only at hs
  split at hs
  · rename_i v' ho
    simp only [Option.some.injEq, Prod.mk.injEq, ARes.ret.injEq] at hs
    rw [ho, hs.1]
  · cases hs

theorem virt (hx : ExtOk P X) (hK : KOk P K) {all : List Oper} {k : Nat} {l : List Oper} {t : Tr AV} {h : H} {its : List It} {t' : Tr AV} {h' : H} (ht : Txt P X K all k l t h its t' h') :
    ∀ (ι : Emb) (w : World) (b : Act), St P h ι w → TRel P ι t b.tmps → (∀ o ∈ l, ∀ d, o.dst = some d → d < b.tmps.size) →
    (∀ x ∈ its, Good P X K x ∧ h.nx ≤ x.i.h0.nx ∧ x.i.h1.nx ≤ h'.nx) ∧ h.nx ≤ h'.nx ∧ its.Pairwise (fun a b => a.i.h1.nx ≤ b.i.h0.nx) ∧ Chain P all its t.get h.obj t'.get h'.obj ∧
      ∃ (ι' : Emb) (w' : World) (b' : Act), St P h' ι' w' ∧ TRel P ι' t' b'.tmps := by
  induction ht with
  | nil k t h => exact fun ι w b hs htr _ => ⟨fun x hx => (by cases hx), Nat.le_refl _, .nil, .nil _ _, ι, w, b, hs, htr⟩
  | @skip k o l t h its t' h' hw hl ih =>
    intro ι w b hs htr hd
    obtain ⟨q1, q2, q3, q4, q5⟩ := ih ι w (b.put o.dst undef) hs (htr.put (.tup .nil) (hd o (by simp))) (by
      intro o' ho' d hod
      have := hd o' (by simp [ho']) d hod
      cases hod' : o.dst with
      | none => exact this
      | some e => simpa [Act.put] using this)
    have hlt : ∀ F o, h.obj F = some o → F < h.nx := by
      intro F o' ho
      apply Nat.lt_of_not_le
      intro hh
      exact hs.rel.emb F o' ho (hs.bd F 0 hh)
    have hbnd : ∀ F g L, ι F g = some L → F < h.nx := by
      intro F g L hh
      exact hs.bd.lt hh
    refine ⟨?_, q2, List.pairwise_cons.2 ⟨fun y hy => (q1 y hy).2.1, q3⟩, ?_, q5⟩
    · intro x hx'
      rcases List.mem_cons.1 hx' with rfl | hx'
      · refine ⟨⟨⟨hlt, Nat.le_refl _, fun hh => by (cases hh), fun hh => by (cases hh)⟩, ?_, hs.rel.bounds hbnd, fun hh => by (cases hh), fun _ => ⟨rfl, rfl⟩⟩, Nat.le_refl _, q2⟩
        intro y v hy
        exact (ev_rel htr hs.glob hy).bound hbnd
      · exact q1 x hx'
    · refine .cons (t1 := (putT t o.dst .undef).get) (ob1 := h.obj) ⟨hw, fun hh => by (cases hh), fun hh => by (cases hh), fun F hF => by (cases hF.1), putT_get t o.dst .undef, ?_⟩ q4
      funext F
      exact (over_ne (fun q => by cases q.1)).symm
  | @run k o l t h h1 v its t' h' hw hst hl ih =>
    intro ι w b hs htr hd
    have hlt : ∀ F o, h.obj F = some o → F < h.nx := by
      intro F o' ho
      apply Nat.lt_of_not_le
      intro hh
      exact hs.rel.emb F o' ho (hs.bd F 0 hh)
    have hbnd : ∀ F g L, ι F g = some L → F < h.nx := by
      intro F g L hh
      exact hs.bd.lt hh
    let x : It := ⟨k, ⟨o, t, h, h1, true⟩, v⟩
    have heb : ∀ y v, ev P t y = some v → AVb h.nx v := fun y v hy => (ev_rel htr hs.glob hy).bound hbnd
    have hb0 : OBd h.nx h.obj := hs.rel.bounds hbnd
    have hrd : clsOf P o.op = .load → Rd P x h.obj := fun hc => ⟨h, fun _ _ => rfl, read_of_step hc hst⟩
    have hgl : ∀ (g : Nat) (y : Global) (n : Nat), P.globals[g]? = some y → tsz P y.type = some n → g < h.nx := by
      intro g y n h1 h2
      obtain ⟨L, a, _⟩ := hs.glob g y n h1 h2
      exact hbnd g 0 L a
    have hcore := step_core (ob := h.obj) (x := x) (t := t.get) (b := b) (r := .ret v) (m := h.nx) (M := h.nx) hx hK (fun y _ => (ev_evF P t y).symm) hrd (fun _ _ => rfl) rfl (fun _ _ _ => rfl) hst (fun _ => rfl)
      heb hb0 hlt hs.rel htr hs.glob hgl hs.fit (fun F g hh => hs.bd F g hh) (fun F h2 _ => ⟨by
        cases hF : h.obj F with
        | none => rfl
        | some o' => have := hlt F o' hF; exact absurd this (by have : h.nx ≤ F := h2; omega), fun g => hs.bd F g h2⟩) (Nat.le_refl _) (Nat.le_refl _)
    obtain ⟨en, w1, κ, hwent, hend, hown⟩ := hcore.ex
    have hle : h.nx ≤ h1.nx := hown.le
    have heq : over P x h.obj = h1.obj := hown.eq
    cases hend with
    | ret hv =>
      rename_i z
      have hst1 : St P h1 κ w1 := by
        refine ⟨by rw [← heq]; exact hwent.rel, ?_, hwent.fit, hs.glob.mono hwent.grow.le⟩
        intro F g hF
        cases hk : κ F g with
        | none => rfl
        | some L =>
          rcases hwent.new F g (by rw [hk]; simp) with h5 | h5
          · exact absurd (hs.bd F 0 (by omega)) h5
          · have : F < h1.nx := h5.2
            omega
      have htr1 : TRel P κ (putT t o.dst v) (b.put o.dst z).tmps := (htr.mono hwent.grow.le).put hv (hd o (by simp))
      obtain ⟨q1, q2, q3, q4, q5⟩ := ih κ w1 (b.put o.dst z) hst1 htr1 (by
        intro o' ho' d hod
        have := hd o' (by simp [ho']) d hod
        cases hod' : o.dst with
        | none => exact this
        | some e => simpa [Act.put] using this)
      obtain ⟨f1, f2⟩ := fact_step (x := x) hst
      refine ⟨?_, Nat.le_trans hle q2, List.pairwise_cons.2 ⟨fun y hy => (q1 y hy).2.1, q3⟩, ?_, q5⟩
      · intro y hy
        rcases List.mem_cons.1 hy with rfl | hy
        · exact ⟨⟨⟨hlt, hle, fun _ => f1, fun _ => f2⟩, heb, hb0, fun _ => hst, fun hh => (by cases hh)⟩, Nat.le_refl _, q2⟩
        · obtain ⟨a1, a2, a3⟩ := q1 y hy
          exact ⟨a1, Nat.le_trans hle a2, a3⟩
      · exact .cons (t1 := (putT t o.dst v).get) (ob1 := h1.obj) ⟨hw, fun _ y _ => (ev_evF P t y).symm, fun _ => hrd, fun _ _ => rfl, putT_get t o.dst v, heq.symm⟩ q4

/-! What the static checks say. -/
def bfStep (acc : List Nat) (o : Oper) : Nat := o.after.toList.foldl (fun s e => match Region.binds .any e with
    | true => s ||| 2 ^ e.on ||| acc.getD e.on 0
    | false => s) 0

theorem befores_eq (ops : List Oper) : befores ops = ops.foldl (fun acc o => acc ++ [bfStep acc o]) [] := rfl

theorem foldl_app (f : List Nat → Oper → Nat) : ∀ (l : List Oper) (acc : List Nat), let r := l.foldl (fun acc o => acc ++ [f acc o]) acc
    r.take acc.length = acc ∧ ∀ k o, l[k]? = some o → r[acc.length + k]? = some (f (r.take (acc.length + k)) o)
  | [], acc => by simp
  | o :: l, acc => by
    obtain ⟨h1, h2⟩ := foldl_app f l (acc ++ [f acc o])
    simp only [List.foldl_cons]
    simp only [List.length_append, List.length_cons, List.length_nil] at h1 h2
    generalize l.foldl (fun acc o => acc ++ [f acc o]) (acc ++ [f acc o]) = r at h1 h2 ⊢
    have h3 : r.take acc.length = acc := by
      have : (r.take (acc.length + (0 + 1))).take acc.length = (acc ++ [f acc o]).take acc.length := by rw [h1]
      rw [List.take_take, Nat.min_eq_left (by omega)] at this
      simpa using this
    refine ⟨h3, fun k o' hk => ?_⟩
    cases k with
    | zero =>
      simp at hk
      subst hk
      simp only [Nat.add_zero]
      rw [h3]
      have : (r.take (acc.length + (0 + 1)))[acc.length]? = (acc ++ [f acc o])[acc.length]? := by rw [h1]
      rw [List.getElem?_take_of_lt (by omega)] at this
      rw [this]
      simp
    | succ k =>
      have := h2 k o' (by simpa using hk)
      rw [show acc.length + (0 + 1) + k = acc.length + (k + 1) by omega] at this
      exact this

theorem befores_at {ops : List Oper} {k : Nat} {o : Oper} (hk : ops[k]? = some o) : (befores ops).getD k 0 = bfStep ((befores ops).take k) o := by
  have := (foldl_app bfStep ops []).2 k o hk
  simp only [List.length_nil, Nat.zero_add] at this
  rw [befores_eq, List.getD_eq_getElem?_getD, this]
  rfl

theorem bfStep_bit (acc : List Nat) (o : Oper) (i : Nat) (h : Nat.testBit (bfStep acc o) i = true) : ∃ e ∈ o.after.toList, Region.binds .any e = true ∧ (i = e.on ∨ Nat.testBit (acc.getD e.on 0) i = true) := by
  have key : ∀ (l : List Edge) (s : Nat), Nat.testBit (l.foldl (fun s e => match Region.binds .any e with | true => s ||| 2 ^ e.on ||| acc.getD e.on 0 | false => s) s) i = true →
      Nat.testBit s i = true ∨ ∃ e ∈ l, Region.binds .any e = true ∧ (i = e.on ∨ Nat.testBit (acc.getD e.on 0) i = true) := by
    intro l
    induction l with
    | nil => intro s hs; exact .inl hs
    | cons e l ih =>
      intro s hs
      rw [List.foldl_cons] at hs
      rcases ih _ hs with h1 | ⟨e', h1, h2⟩
      · cases hb : Region.binds .any e with
        | false => rw [hb] at h1; exact .inl h1
        | true =>
          rw [hb] at h1
          simp only [Nat.testBit_or, Bool.or_eq_true, Nat.testBit_two_pow, decide_eq_true_eq] at h1
          rcases h1 with (h1 | h1) | h1
          · exact .inl h1
          · exact .inr ⟨e, by simp, hb, .inl h1.symm⟩
          · exact .inr ⟨e, by simp, hb, .inr h1⟩
      · exact .inr ⟨e', by simp [h1], h2⟩
  rcases key o.after.toList 0 h with h1 | h1
  · simp at h1
  · exact h1

/-- what is bound to stand ahead, does -/
theorem befores_closed {ops : List Oper} {L : Nat → Prop} (hc : ∀ k o, L k → ops[k]? = some o → ∀ e ∈ o.after.toList, Region.binds .any e = true → L e.on) : ∀ (k : Nat) (o : Oper), ops[k]? = some o →
    (∀ e ∈ o.after.toList, Region.binds .any e = true → L e.on) → ∀ i, Nat.testBit ((befores ops).getD k 0) i = true → L i := by
  intro k
  induction k using Nat.strongRecOn with
  | _ k ih =>
    intro o hk he i hi
    rw [befores_at hk] at hi
    obtain ⟨e, h1, h2, h3⟩ := bfStep_bit _ _ _ hi
    rcases h3 with rfl | h3
    · exact he e h1 h2
    · by_cases hlt : e.on < k
      · rw [List.getD_eq_getElem?_getD, List.getElem?_take_of_lt hlt, ← List.getD_eq_getElem?_getD] at h3
        cases ho : ops[e.on]? with
        | none =>
          have hlen : (befores ops)[e.on]? = none := by
            have : ∀ (l : List Oper) (acc : List Nat), (l.foldl (fun acc o => acc ++ [bfStep acc o]) acc).length = acc.length + l.length := by
              intro l
              induction l with
              | nil => intro acc; rfl
              | cons o l ih => intro acc; rw [List.foldl_cons, ih]; simp; omega
            have h5 := this ops []
            rw [List.getElem?_eq_none_iff] at ho ⊢
            rw [befores_eq, h5]
            simpa using ho
          rw [List.getD_eq_getElem?_getD, hlen] at h3
          simp at h3
        | some o' => exact ih e.on hlt o' ho (hc e.on o' (he e h1 h2) ho) i h3
      · rw [List.getD_eq_getElem?_getD, List.getElem?_eq_none (by rw [List.length_take]; omega)] at h3
        simp at h3

theorem nodupD_ne : ∀ {l : List (Option Tmp)}, nodupD l = true → ∀ (i j : Nat) (d : Tmp), i < j → l[i]? = some (some d) → l[j]? ≠ some (some d)
  | [], _, i, j, d, _, h => by simp at h
  | none :: l, hn, i, j, d, hij, h => by
    unfold nodupD at hn
    cases j with
    | zero => omega
    | succ j =>
      cases i with
      | zero => simp at h
      | succ i => simpa using nodupD_ne hn i j d (by omega) (by simpa using h)
  | some c :: l, hn, i, j, d, hij, h => by
    unfold nodupD at hn
    simp only [Bool.and_eq_true, Bool.not_eq_true', List.contains_iff_mem, ← Bool.not_eq_true] at hn
    cases j with
    | zero => omega
    | succ j =>
      cases i with
      | zero =>
        simp at h
        subst h
        intro hj
        exact hn.1 (List.mem_of_getElem? (by simpa using hj))
      | succ i => simpa using nodupD_ne hn.2 i j d (by omega) (by simpa using h)

structure Stat (P : Program) (ops : List Oper) : Prop where
  dst : ∀ (i j : Nat) (p q : Oper) (d : Tmp), i ≠ j → ops[i]? = some p → ops[j]? = some q → p.dst = some d → q.dst ≠ some d
  guard : ∀ k o g b, ops[k]? = some o → o.guard = some (g, b) → g < k ∧ Nat.testBit ((befores ops).getD k 0) g = true
  edge : ∀ k o, ops[k]? = some o → ∀ e ∈ o.after.toList, Region.binds .any e = true → e.on < k
  pair : ∀ i k p q, i < k → ops[i]? = some p → ops[k]? = some q → Nat.testBit ((befores ops).getD k 0) i = true ∨ mayTurn P p q = true

theorem zipIdx_all {α : Type} {l : List α} {f : α × Nat → Bool} (h : l.zipIdx.all f = true) {k : Nat} {a : α} (hk : l[k]? = some a) : f (a, k) = true := by
  refine List.all_eq_true.1 h (a, k) ?_
  rw [List.mem_iff_getElem?]
  exact ⟨k, by rw [List.getElem?_zipIdx, hk]; simp⟩

theorem stat_of {ops : List Oper} (h : staticOk P ops = true) : Stat P ops := by
  unfold staticOk at h
  simp only [Bool.and_eq_true] at h
  obtain ⟨⟨h1, h2⟩, h3⟩ := h
  refine ⟨?_, ?_, ?_, ?_⟩
  · intro i j p q d hij hi hj hp hq
    have a : (ops.map (·.dst))[i]? = some (some d) := by rw [List.getElem?_map, hi]; simp [hp]
    have b : (ops.map (·.dst))[j]? = some (some d) := by rw [List.getElem?_map, hj]; simp [hq]
    rcases Nat.lt_or_gt_of_ne hij with hlt | hlt
    · exact nodupD_ne h1 i j d hlt a b
    · exact nodupD_ne h1 j i d hlt b a
  · intro k o g b hk hg
    have := zipIdx_all h2 hk
    simp only [Bool.and_eq_true] at this
    have h4 := this.1
    rw [hg] at h4
    simp only [Bool.and_eq_true, Nat.blt_eq] at h4
    exact h4
  · intro k o hk e he hb
    have := zipIdx_all h2 hk
    simp only [Bool.and_eq_true] at this
    have h4 := List.all_eq_true.1 this.2 e he
    rw [hb] at h4
    simpa [Nat.blt_eq] using h4
  · intro i k p q hik hi hk
    have h4 := zipIdx_all (zipIdx_all h3 hk) hi
    simp only [Bool.or_eq_true, Bool.not_eq_true'] at h4
    rcases h4 with (h4 | h4) | h4
    · have : Nat.blt i k = true := by rw [Nat.blt_eq]; exact hik
      rw [this] at h4
      cases h4
    · exact .inl h4
    · exact .inr h4

theorem dyn_of {bm : List Nat} {items : List Item} (h : dynOk P bm items = true) {i k : Nat} {p q : Item} (hik : i < k) (hi : items[i]? = some p) (hk : items[k]? = some q) :
    Nat.testBit (bm.getD k 0) i = true ∨ dynPair P p q = true := by
  unfold dynOk at h
  have h4 := zipIdx_all (zipIdx_all h hk) hi
  simp only [Bool.or_eq_true, Bool.not_eq_true'] at h4
  rcases h4 with (h4 | h4) | h4
  · have : Nat.blt i k = true := by rw [Nat.blt_eq]; exact hik
    rw [this] at h4
    cases h4
  · exact .inl h4
  · exact .inr h4
end
end Go.Ai
