/- A part of the proof of ConsoleRuns: AiFok1. -/
import Derived.Test.YtngchkhbhcgmhaaGreatDoorAiFast
import Derived.Test.YtngchkhbhcgmhaaGreatDoorAiRel
set_option linter.unusedVariables false
set_option linter.unusedSimpArgs false
set_option linter.unusedSectionVars false
set_option linter.unnecessarySimpa false
/- What the fast run says is what the interpreter says: places, values, operations. -/
namespace Go.Ai

theorem oK_yes {α : Type} {x : Option α} {k : α → Ans} (h : oK x k = .yes) : ∃ v, x = some v ∧ k v = .yes := by
  cases x with
  | none => cases h
  | some v => exact ⟨v, rfl, h⟩
theorem bK_yes {b : Bool} {k : Ans} (h : bK b k = .yes) : b = true ∧ k = .yes := by
  cases b with
  | false => cases h
  | true => exact ⟨rfl, h⟩
theorem bE_yes {b : Bool} {t f : Ans} (h : bE b t f = .yes) : (b = true ∧ t = .yes) ∨ (b = false ∧ f = .yes) := by
  cases b with
  | false => exact .inr ⟨rfl, h⟩
  | true => exact .inl ⟨rfl, h⟩
theorem frc_eq (n : Nat) (k : Nat → Ans) : frc n k = k n := by cases n <;> rfl

theorem paF_zero (m : Nat) : paF (m + 1) 0 = .z := rfl
theorem paF_succ (m n : Nat) : paF (m + 1) (n + 1) = match Nat.beq (Nat.mod n 2) 0 with | true => .l (paF m (Nat.div n 2)) | false => .r (paF m (Nat.div n 2)) := by
  show @Bool.rec (fun _ => Pa) (.r (paF m (Nat.div n 2))) (.l (paF m (Nat.div n 2))) (Nat.beq (Nat.mod n 2) 0) = _
  cases Nat.beq (Nat.mod n 2) 0 <;> rfl

theorem getP_z {α : Type} (t : Tr α) (k : α → Ans) : getP .z t k = oK (t.get 0) k := by cases t <;> rfl
theorem getP_l {α : Type} (p : Pa) (t : Tr α) (k : α → Ans) : getP (.l p) t k = match t with | .lf => .no | .nd l _ _ => getP p l k := by cases t <;> rfl
theorem getP_r {α : Type} (p : Pa) (t : Tr α) (k : α → Ans) : getP (.r p) t k = match t with | .lf => .no | .nd _ _ r => getP p r k := by cases t <;> rfl

theorem getP_paF {α : Type} : ∀ (m n : Nat) (t : Tr α) (k : α → Ans), n < m → getP (paF m n) t k = oK (t.get n) k
  | 0, _, _, _, h => by omega
  | m + 1, 0, t, k, _ => by rw [paF_zero, getP_z]
  | m + 1, n + 1, t, k, h => by
    have hd : n / 2 < m := by omega
    rw [paF_succ]
    cases hb : Nat.beq (Nat.mod n 2) 0 with
    | true =>
      simp only
      rw [getP_l]
      cases t with
      | lf => rfl
      | nd l x r =>
        simp only
        rw [getP_paF m (Nat.div n 2) l k hd]
        show oK (l.get (n / 2)) k = oK ((Tr.nd l x r).get (n + 1)) k
        simp only [Tr.get, hb]
        rfl
    | false =>
      simp only
      rw [getP_r]
      cases t with
      | lf => rfl
      | nd l x r =>
        simp only
        rw [getP_paF m (Nat.div n 2) r k hd]
        show oK (r.get (n / 2)) k = oK ((Tr.nd l x r).get (n + 1)) k
        simp only [Tr.get, hb]
        rfl

theorem getP_eq {α : Type} (n : Nat) (t : Tr α) (k : α → Ans) : getP (pa n) t k = oK (t.get n) k := getP_paF (n + 1) n t k (Nat.lt_succ_self n)
theorem getP_yes {α : Type} {n : Nat} {t : Tr α} {k : α → Ans} (h : getP (pa n) t k = .yes) : ∃ v, t.get n = some v ∧ k v = .yes := by
  rw [getP_eq] at h
  exact oK_yes h

theorem setP_z {α : Type} (v : α) (t : Tr α) (k : Tr α → Ans) : setP .z v t k = match t with | .lf => k (.nd .lf (some v) .lf) | .nd l _ r => k (.nd l (some v) r) := by cases t <;> rfl
theorem setP_l {α : Type} (p : Pa) (v : α) (t : Tr α) (k : Tr α → Ans) : setP (.l p) v t k = match t with | .lf => setP p v .lf (fun l' => k (.nd l' none .lf)) | .nd l x r => setP p v l (fun l' => k (.nd l' x r)) := by cases t <;> rfl
theorem setP_r {α : Type} (p : Pa) (v : α) (t : Tr α) (k : Tr α → Ans) : setP (.r p) v t k = match t with | .lf => setP p v .lf (fun r' => k (.nd .lf none r')) | .nd l x r => setP p v r (fun r' => k (.nd l x r')) := by cases t <;> rfl

theorem setP_paF {α : Type} (v : α) : ∀ (m n : Nat) (t : Tr α) (k : Tr α → Ans), n < m → setP (paF m n) v t k = k (Tr.setF v m t n)
  | 0, _, _, _, h => by omega
  | m + 1, 0, t, k, _ => by rw [paF_zero, setP_z]; cases t <;> rfl
  | m + 1, n + 1, t, k, h => by
    have hd : n / 2 < m := by omega
    rw [paF_succ]
    cases hb : Nat.beq (Nat.mod n 2) 0 with
    | true =>
      simp only
      rw [setP_l]
      cases t with
      | lf => simp only; rw [setP_paF v m (Nat.div n 2) _ _ hd]; simp only [Tr.setF, hb]
      | nd l x r => simp only; rw [setP_paF v m (Nat.div n 2) _ _ hd]; simp only [Tr.setF, hb]
    | false =>
      simp only
      rw [setP_r]
      cases t with
      | lf => simp only; rw [setP_paF v m (Nat.div n 2) _ _ hd]; simp only [Tr.setF, hb]
      | nd l x r => simp only; rw [setP_paF v m (Nat.div n 2) _ _ hd]; simp only [Tr.setF, hb]

theorem setP_eq {α : Type} (n : Nat) (v : α) (t : Tr α) (k : Tr α → Ans) : setP (pa n) v t k = k (t.set n v) := setP_paF v (n + 1) n t k (Nat.lt_succ_self n)

/-! A list, as a tree. -/
theorem alt_get {α : Type} : ∀ (l : List α) (i : Nat), (alt l true)[i]? = l[2 * i]? ∧ (alt l false)[i]? = l[2 * i + 1]?
  | [], i => by simp [alt]
  | x :: l, i => by
    have e1 : alt (x :: l) true = x :: alt l false := rfl
    have e2 : alt (x :: l) false = alt l true := rfl
    rw [e1, e2]
    constructor
    · cases i with
      | zero => rfl
      | succ i => rw [show 2 * (i + 1) = 2 * i + 1 + 1 by omega]; simp [(alt_get l i).2]
    · rw [(alt_get l i).1]; simp

theorem ofLF_get {α : Type} : ∀ (m n : Nat) (l : List α) (v : α), (ofLF m l).get n = some v → l[n]? = some v
  | 0, _, _, _, h => by cases h
  | m + 1, n, [], v, h => by cases h
  | m + 1, n, x :: l, v, h => by
    have e : ofLF (m + 1) (x :: l) = .nd (ofLF m (alt l true)) (some x) (ofLF m (alt l false)) := rfl
    rw [e] at h
    cases n with
    | zero => simpa [Tr.get] using h
    | succ n =>
      simp only [Tr.get] at h
      cases hb : Nat.beq (Nat.mod n 2) 0 with
      | true =>
        rw [hb] at h
        have h1 : (alt l true)[n / 2]? = some v := ofLF_get m _ _ _ h
        have h2 : n % 2 = 0 := Nat.eq_of_beq_eq_true hb
        rw [(alt_get l _).1, show 2 * (n / 2) = n by omega] at h1
        simpa using h1
      | false =>
        rw [hb] at h
        have h1 : (alt l false)[n / 2]? = some v := ofLF_get m _ _ _ h
        have h2 : n % 2 ≠ 0 := fun e => by
          have : Nat.beq (Nat.mod n 2) 0 = true := beq_of e
          rw [hb] at this
          cases this
        rw [(alt_get l _).2, show 2 * (n / 2) + 1 = n by omega] at h1
        simpa using h1

theorem ofL_get {α : Type} {n : Nat} {l : List α} {v : α} (h : (ofL l).get n = some v) : l[n]? = some v := ofLF_get 64 n l v h

/-! Looks at a value. -/
theorem ptrD_yes {v : AV} {k : Nat → Nat → Nat → Nat → Ans} (h : ptrD v k = .yes) : ∃ F g o e, v = .ptr F g o e ∧ k F g o e = .yes := by
  cases v <;> first | exact ⟨_, _, _, _, rfl, h⟩ | cases h
theorem tupD_yes {v : AV} {k : List AV → Ans} (h : tupD v k = .yes) : ∃ l, v = .tup l ∧ k l = .yes := by
  cases v <;> first | exact ⟨_, rfl, h⟩ | cases h
theorem boolD_yes {v : AV} {t f : Ans} (h : boolD v t f = .yes) : (v = .bool true ∧ t = .yes) ∨ (v = .bool false ∧ f = .yes) := by
  cases v with
  | bool b =>
    cases b with
    | false => exact .inr ⟨rfl, h⟩
    | true => exact .inl ⟨rfl, h⟩
  | _ => cases h
theorem isD_yes {v : AV} {i : IntKind → Int → Ans} {s : Nat → Nat → Ans} {e : Ans} (h : isD v i s e = .yes) : (∃ k n, v = .int k n ∧ i k n = .yes) ∨ (∃ l b, v = .str l b ∧ s l b = .yes) ∨ e = .yes := by
  cases v with
  | int k n => exact .inl ⟨k, n, rfl, h⟩
  | str l b => exact .inr (.inl ⟨l, b, rfl, h⟩)
  | _ => exact .inr (.inr h)
theorem slD_yes {v : AV} {k : Nat → Nat → Nat → Nat → Nat → Option Nat → Ans} {z : Ans} {s : Nat → Nat → Ans} {e : Ans} (h : slD v k z s e = .yes) :
    (∃ F g o sz n c, v = .slc F g o sz n c ∧ k F g o sz n c = .yes) ∨ (v = .nils ∧ z = .yes) ∨ (∃ l b, v = .str l b ∧ s l b = .yes) ∨ e = .yes := by
  cases v with
  | slc F g o sz n c => exact .inl ⟨_, _, _, _, _, _, rfl, h⟩
  | nils => exact .inr (.inl ⟨rfl, h⟩)
  | str l b => exact .inr (.inr (.inl ⟨l, b, rfl, h⟩))
  | _ => exact .inr (.inr (.inr h))
theorem aggD_yes {v : AV} {k : List AV → Ans} {e : Ans} (h : aggD v k e = .yes) : (∃ l, v = .agg l ∧ k l = .yes) ∨ (v ≠ .junk ∧ (∀ l, v ≠ .agg l) ∧ v.cells = [v] ∧ e = .yes) := by
  cases v with
  | agg l => exact .inl ⟨l, rfl, h⟩
  | junk => cases h
  | _ => exact .inr ⟨by simp, by simp, rfl, h⟩
theorem flatB_eq (v : AV) : flatB v = flat v := by cases v <;> rfl
theorem allFlat_eq : ∀ (l : List AV), allFlat l = l.all flat
  | [] => rfl
  | v :: l => by
    show @Bool.rec (fun _ => Bool) false (allFlat l) (flatB v) = (flat v && l.all flat)
    rw [flatB_eq, allFlat_eq l]
    cases flat v <;> rfl
theorem lenL_eq : ∀ (l : List AV), lenL l = l.length
  | [] => rfl
  | _ :: l => by
    show Nat.succ (lenL l) = _
    rw [lenL_eq l]
    rfl
theorem natD_yes {v : AV} {k : Nat → Ans} (h : natD v k = .yes) : ∃ kd n, v = .int kd (Int.ofNat n) ∧ asNat v = some n ∧ k n = .yes := by
  cases v with
  | int kd n =>
    cases n with
    | ofNat n => exact ⟨kd, n, rfl, rfl, h⟩
    | negSucc n => cases h
  | _ => cases h

/-! Operands. -/
variable {E : Ev} {t : Tr AV} {h : H}

theorem evK_yes {x : Operand} {k : AV → Ans} (hh : evK x E t k = .yes) : ∃ v, ev E.P t x = some v ∧ k v = .yes := by
  cases x with
  | tmp n => exact getP_yes hh
  | const v => exact oK_yes hh
  | global g => exact oK_yes (x := ev E.P .lf (.global g)) hh
  | func f => exact ⟨_, rfl, hh⟩
theorem evLK_yes : ∀ {l : List Operand} {k : List AV → Ans}, evLK l E t k = .yes → ∃ r, evL (ev E.P t) l = some r ∧ k r = .yes
  | [], k, hh => ⟨[], rfl, hh⟩
  | x :: l, k, hh => by
    obtain ⟨v, h1, h2⟩ := evK_yes (x := x) (k := fun v => evLK l E t (fun l => k (v :: l))) hh
    obtain ⟨r, h3, h4⟩ := evLK_yes h2
    exact ⟨v :: r, by simp only [evL, h1, h3], h4⟩

/-! Memory. -/
theorem objK_yes {F : Nat} {k : Nat → Tr AO → AO → Ans} (hh : objK h F k = .yes) : ∃ o, h.obj F = some o ∧ k h.nx h.t o = .yes := by
  obtain ⟨nx, tr⟩ := h
  exact getP_yes (t := tr) hh
theorem cellsD_yes {o : AO} {k : Fam → Ans} (hh : cellsD o k = .yes) : ∃ f, o = .cells f ∧ k f = .yes := by
  cases o with
  | cells f => exact ⟨f, rfl, hh⟩
  | _ => cases hh
theorem fam_of {F g : Nat} {f : Fam} (h1 : h.obj F = some (.cells f)) (h2 : Nat.ble f.low g = true) (h3 : Nat.ble g f.gen = true) : h.fam F g = some f := by
  unfold H.fam
  rw [h1]
  simp only [h2, h3]
theorem ldNK_yes {c : Tr AV} : ∀ {n o : Nat} {k : List AV → Ans}, ldNK c n o k = .yes → ∃ l, ldN c o n = some l ∧ k l = .yes
  | 0, o, k, hh => ⟨[], rfl, hh⟩
  | n + 1, o, k, hh => by
    obtain ⟨v, h1, h2⟩ := getP_yes (n := o) (t := c) (k := fun v => frc (Nat.succ o) (fun o' => ldNK c n o' (fun l => k (v :: l)))) hh
    rw [frc_eq] at h2
    obtain ⟨l, h3, h4⟩ := ldNK_yes h2
    exact ⟨v :: l, by unfold ldN; rw [h1]; show (match ldN c (Nat.succ o) n with | some l => some (v :: l) | none => none) = _; rw [h3], h4⟩
theorem stLK_yes : ∀ {l : List AV} {c : Tr AV} {o : Nat} {k : Tr AV → Nat → Ans}, stLK l c o k = .yes → k (stL c o l) (o + l.length) = .yes
  | [], c, o, k, hh => hh
  | v :: l, c, o, k, hh => by
    have h1 : setP (pa o) v c (fun c' => frc (Nat.succ o) (fun o' => stLK l c' o' k)) = .yes := hh
    rw [setP_eq, frc_eq] at h1
    have h2 := stLK_yes h1
    rw [show o + (v :: l).length = Nat.succ o + l.length by simp; omega]
    exact h2
theorem putF_eq (F : Nat) (f : Fam) (k : H → Ans) : putF h.nx h.t F f k = k (h.put F (.cells f)) := setP_eq F _ _ _

/-! Types. -/
theorem tszT_of {t : TypeId} {n : Nat} (hh : tszT E.tt t = some n) : tsz E.P t = some n := by
  unfold tszT at hh
  cases hi : E.tt.get t with
  | none => rw [hi] at hh; cases hh
  | some i => rw [hi] at hh; unfold tsz; rw [E.ht t i hi]; exact hh
theorem tbyT_of {t : TypeId} {n : Nat} (hh : tbyT E.tt t = some n) : tby E.P t = some n := by
  unfold tbyT at hh
  cases hi : E.tt.get t with
  | none => rw [hi] at hh; cases hh
  | some i => rw [hi] at hh; unfold tby; rw [E.ht t i hi]; exact hh
theorem tzeroT_of {t : TypeId} {z : AV} (hh : tzeroT E.tt t = some z) : tzero E.P t = some z := by
  unfold tzeroT at hh
  cases hi : E.tt.get t with
  | none => rw [hi] at hh; cases hh
  | some i => rw [hi] at hh; unfold tzero; rw [E.ht t i hi]; exact hh
theorem undT_of {t : TypeId} {d : TypeDesc} (hh : undT E.tt t = some d) : E.P.underlying t = some d := by
  unfold undT at hh
  cases hi : E.tt.get t with
  | none => rw [hi] at hh; cases hh
  | some i =>
    rw [hi] at hh
    have h1 := E.ht t i hi
    unfold Program.underlying
    obtain ⟨desc, a1, a2, a3, a4, a5, a6, a7, a8, a9⟩ := i
    cases desc with
    | named nm u =>
      simp only at hh
      cases hu : E.tt.get u with
      | none => rw [hu] at hh; cases hh
      | some j =>
        rw [hu] at hh
        rw [h1]
        simp only [E.ht u j hu]
        exact hh
    | _ => simp only at hh; rw [h1]; exact hh
theorem aggT_of {t : TypeId} {b : Bool} (hh : aggT E.tt t = some b) : tAgg E.P t = some b := by
  unfold aggT at hh
  cases hu : undT E.tt t with
  | none => rw [hu] at hh; cases hh
  | some d => rw [hu] at hh; unfold tAgg; rw [undT_of hu]; exact hh
theorem intT_of {t : TypeId} {d : TypeDesc} (hh : undT E.tt t = some d) : intT E.tt t = isIntTy E.P t := by
  unfold intT isIntTy
  rw [hh, undT_of hh]
  cases d <;> rfl
theorem placeT_of {fs : List Field} {i : Nat} {a : Nat × Nat} (hh : placeT E.tt fs i = some a) : placeA E.P fs i = some a := by
  unfold placeT at hh
  unfold placeA
  cases hfl : fieldsAt fs i with
  | none => rw [hfl] at hh; cases hh
  | some fl =>
    rw [hfl] at hh
    simp only at hh ⊢
    cases q : tszT E.tt fl.type with
    | none => rw [q] at hh; cases hh
    | some n => rw [q] at hh; rw [tszT_of q]; exact hh

theorem loadVarK_yes {ty : TypeId} {p : AV} {k : AV → Ans} (hh : loadVarK E h ty p k = .yes) : ∃ v, loadVarA E.P h ty p = some v ∧ k v = .yes := by
  unfold loadVarK at hh
  obtain ⟨F, g, o, e, rfl, hh⟩ := ptrD_yes hh
  obtain ⟨r, hr, hh⟩ := oK_yes hh
  obtain ⟨ob, hob, hh⟩ := objK_yes hh
  obtain ⟨f, rfl, hh⟩ := cellsD_yes hh
  obtain ⟨h1, hh⟩ := bK_yes hh
  obtain ⟨h2, hh⟩ := bK_yes hh
  have hf := fam_of hob h1 h2
  unfold rdT at hr
  split at hr
  · rename_i n q1 q2
    have q1 := tszT_of q1
    have q2 := aggT_of q2
    cases hr
    obtain ⟨h3, hh⟩ := bK_yes hh
    obtain ⟨l, h4, hh⟩ := ldNK_yes hh
    exact ⟨.agg l, by unfold loadVarA; simp only [q1, q2, h3, H.load, hf, h4], hh⟩
  · rename_i n q1 q2
    have q1 := tszT_of q1
    have q2 := aggT_of q2
    cases hr
    obtain ⟨h3, hh⟩ := bK_yes hh
    obtain ⟨v, h4, hh⟩ := getP_yes hh
    refine ⟨v, ?_, hh⟩
    unfold loadVarA
    simp only [q1, q2, h3, H.load, hf, ldN, h4]
  · cases hr

theorem store1_yes {F g o n : Nat} {st : Tr AV → (Tr AV → Ans) → Ans} {k : H → Ans} {vs : List AV} (hn : vs.length = n) (hst : ∀ c k, st c k = .yes → k (stL c o vs) = .yes) (hh : store1 h F g o n st k = .yes) :
    ∃ h', h.store F g o vs = some h' ∧ k h' = .yes := by
  unfold store1 at hh
  obtain ⟨ob, hob, hh⟩ := objK_yes hh
  obtain ⟨f, rfl, hh⟩ := cellsD_yes hh
  obtain ⟨h1, hh⟩ := bK_yes hh
  obtain ⟨h2, hh⟩ := bK_yes hh
  obtain ⟨h3, hh⟩ := bK_yes hh
  rcases bE_yes hh with ⟨_, q⟩ | ⟨h4, hh⟩
  · cases q
  obtain ⟨h5, hh⟩ := bK_yes hh
  have hh := hst _ _ hh
  have hg : g = f.gen := Nat.eq_of_beq_eq_true h1
  have hf : h.fam F g = some f := fam_of hob h5 (by rw [hg]; exact Nat.ble_self_eq_true _)
  refine ⟨h.put F (.cells (f.store o vs)), ?_, ?_⟩
  · unfold H.store
    rw [hf]
    simp only [h1, h2, h4]
    rw [hn]
    simp only [h3]
  · unfold Fam.store
    rcases bE_yes hh with ⟨q, hh⟩ | ⟨q, hh⟩
    · rw [putF_eq] at hh
      rw [q]
      exact hh
    · rw [putF_eq] at hh
      rw [q]
      exact hh
end Go.Ai
