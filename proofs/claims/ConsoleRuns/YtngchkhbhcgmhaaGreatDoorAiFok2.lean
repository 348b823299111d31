/- A part of the proof of ConsoleRuns: AiFok2. -/
import Derived.Test.YtngchkhbhcgmhaaGreatDoorAiFok1
set_option linter.unusedVariables false
set_option linter.unusedSimpArgs false
set_option linter.unusedSectionVars false
set_option linter.unnecessarySimpa false
/- What the fast run says is what the interpreter says: each operation. -/
namespace Go.Ai

section
variable {E : Ev} {t : Tr AV} {h : H} {kv : AV → H → Ans} {kr : AR → Ans}

/-- an operation's promise -/
def OpY (E : Ev) (t : Tr AV) (h : H) (op : Op) (kv : AV → H → Ans) (kr : AR → Ans) : Prop := ∃ r, opA E.P E.X h (ev E.P t) op = some r ∧ disp kv kr r = .yes

theorem slowK_ok {op : Op} (hh : slowK op E t h kv kr = .yes) : OpY E t h op kv kr := oK_yes hh

theorem moveK_ok {x : Operand} (hh : moveK x E t h kv kr = .yes) : OpY E t h (.move x) kv kr := by
  obtain ⟨v, h1, h2⟩ := evK_yes hh
  exact ⟨.val v h, by simp only [opA, h1, vh], h2⟩
theorem assignK_ok {x : Operand} (hh : moveK x E t h kv kr = .yes) : OpY E t h (.assign x) kv kr := by
  obtain ⟨v, h1, h2⟩ := evK_yes hh
  exact ⟨.val v h, by simp only [opA, h1, vh], h2⟩
theorem pickK_ok {c a b : Operand} (hh : pickK c a b E t h kv kr = .yes) : OpY E t h (.pick c a b) kv kr := by
  obtain ⟨v, h1, hh⟩ := evK_yes hh
  rcases boolD_yes hh with ⟨rfl, hh⟩ | ⟨rfl, hh⟩
  · obtain ⟨v, h2, hh⟩ := evK_yes hh
    exact ⟨.val v h, by simp only [opA, h1, h2, vh], hh⟩
  · obtain ⟨v, h2, hh⟩ := evK_yes hh
    exact ⟨.val v h, by simp only [opA, h1, h2, vh], hh⟩
theorem loadK_ok {ty : TypeId} {x : Operand} (hh : loadK ty x E t h kv kr = .yes) : OpY E t h (.load ty x) kv kr := by
  obtain ⟨p, h1, hh⟩ := evK_yes hh
  obtain ⟨v, h2, hh⟩ := loadVarK_yes hh
  exact ⟨.val v h, by simp only [opA, h1, h2, vh], hh⟩

theorem storeK_ok {ty : TypeId} {a x : Operand} (hh : storeK ty a x E t h kv kr = .yes) : OpY E t h (.store ty a x) kv kr := by
  unfold storeK at hh
  obtain ⟨p, h1, hh⟩ := evK_yes hh
  obtain ⟨v, h2, hh⟩ := evK_yes hh
  obtain ⟨F, g, o, e, rfl, hh⟩ := ptrD_yes hh
  obtain ⟨n, h3, hh⟩ := oK_yes hh
  have h3 := tszT_of h3
  obtain ⟨h4, hh⟩ := bK_yes hh
  rcases aggD_yes hh with ⟨l, rfl, hh⟩ | ⟨_, _, hc, hh⟩
  · obtain ⟨h5, hh⟩ := bK_yes hh
    obtain ⟨h6, hh⟩ := bK_yes hh
    rw [lenL_eq] at h5
    rw [allFlat_eq] at h6
    obtain ⟨h', h7, hh⟩ := store1_yes (Nat.eq_of_beq_eq_true h5) (fun c k q => stLK_yes q) hh
    refine ⟨.val .undef h', ?_, hh⟩
    simp only [opA, h1, h2, storeVarA, h3, h4, AV.cells, h5, h6, h7, uh]
  · obtain ⟨h5, hh⟩ := bK_yes hh
    obtain ⟨h6, hh⟩ := bK_yes hh
    rw [flatB_eq] at h5
    have hn : n = 1 := Nat.eq_of_beq_eq_true h6
    subst hn
    obtain ⟨h', h7, hh⟩ := store1_yes (vs := [v]) rfl (fun c k q => by rw [setP_eq] at q; exact q) hh
    refine ⟨.val .undef h', ?_, hh⟩
    simp only [opA, h1, h2, storeVarA, h3, h4, hc, List.all_cons, List.all_nil, h5, Bool.and_self, h7, uh]
    rfl

theorem nilCheckK_ok {x : Operand} (hh : nilCheckK x E t h kv kr = .yes) : OpY E t h (.nilCheck x) kv kr := by
  obtain ⟨v, h1, hh⟩ := evK_yes hh
  have key : oK (nilCheckA v) (fun v => kv v h) = .yes → OpY E t h (.nilCheck x) kv kr := by
    intro hh
    obtain ⟨u, h2, hh⟩ := oK_yes hh
    exact ⟨.val u h, by simp only [opA, h1, h2, vh], hh⟩
  cases v with
  | ptr F g o e => exact ⟨.val (.ptr F g o e) h, by simp only [opA, h1, nilCheckA, vh], hh⟩
  | _ => exact key hh

theorem fieldAddrK_ok {ty : TypeId} {x : Operand} {i : Nat} (hh : fieldAddrK ty x i E t h kv kr = .yes) : OpY E t h (.fieldAddr ty x i) kv kr := by
  obtain ⟨v, h1, hh⟩ := evK_yes hh
  obtain ⟨F, g, o, e, rfl, hh⟩ := ptrD_yes hh
  obtain ⟨⟨off, n⟩, h2, hh⟩ := oK_yes hh
  obtain ⟨h3, hh⟩ := bK_yes hh
  rw [frc_eq] at hh
  refine ⟨.val (.ptr F g (Nat.add o off) n) h, ?_, hh⟩
  unfold fldA at h2
  split at h2
  · rename_i fs q1
    split at h2
    · rename_i f q2
      split at h2
      · rename_i n' q3
        split at h2
        · rename_i q4
          cases h2
          have q1 := undT_of q1
          have q3 := tszT_of q3
          simp only [opA, h1, fieldAddrA, q1, q2, q3, q4, h3, vh]
        · cases h2
      · cases h2
    · cases h2
  · cases h2

theorem indexAddrK_ok {ty : TypeId} {x i : Operand} (hh : indexAddrK ty x i E t h kv kr = .yes) : OpY E t h (.indexAddr ty x i) kv kr := by
  obtain ⟨v, h1, hh⟩ := evK_yes hh
  obtain ⟨j, h2, hh⟩ := evK_yes hh
  rcases slD_yes hh with ⟨F, g, o, s, n, c, rfl, hh⟩ | ⟨_, hh⟩ | ⟨_, _, _, hh⟩ | hh
  · obtain ⟨s', h3, hh⟩ := oK_yes hh
    obtain ⟨h4, hh⟩ := bK_yes hh
    obtain ⟨kd, m, rfl, h5, hh⟩ := natD_yes hh
    obtain ⟨h6, hh⟩ := bK_yes hh
    rw [frc_eq] at hh
    refine ⟨.val (.ptr F g (Nat.add o (Nat.mul m s)) s) h, ?_, hh⟩
    unfold slT at h3
    split at h3
    · rename_i e q1
      have q1 := undT_of q1
      have h3 := tszT_of h3
      simp only [opA, h1, h2, indexAddrA, q1, h5, h3, h4, h6, Bool.and_self, vh]
    · cases h3
  · cases hh
  · cases hh
  · obtain ⟨u, h3, hh⟩ := oK_yes hh
    exact ⟨.val u h, by simp only [opA, h1, h2, h3, vh], hh⟩

theorem indexK_ok {ty : TypeId} {x i : Operand} (hh : indexK ty x i E t h kv kr = .yes) : OpY E t h (.index ty x i) kv kr := by
  obtain ⟨v, h1, hh⟩ := evK_yes hh
  obtain ⟨j, h2, hh⟩ := evK_yes hh
  rcases slD_yes hh with ⟨F, g, o, s, n, c, rfl, hh⟩ | ⟨_, hh⟩ | ⟨l, b, rfl, hh⟩ | hh
  · cases hh
  · cases hh
  · obtain ⟨h3, hh⟩ := bK_yes hh
    obtain ⟨kd, m, rfl, h5, hh⟩ := natD_yes hh
    obtain ⟨h6, hh⟩ := bK_yes hh
    rw [frc_eq] at hh
    refine ⟨.val (.int .u8 (Int.ofNat (Nat.mod (Nat.shiftRight b (Nat.mul 8 m)) 256))) h, ?_, hh⟩
    unfold isStr at h3
    split at h3
    · rename_i q1
      have q1 := undT_of q1
      simp only [opA, h1, h2, indexA, q1, h5, h6, vh]
    · cases h3
  · obtain ⟨u, h3, hh⟩ := oK_yes hh
    exact ⟨.val u h, by simp only [opA, h1, h2, h3, vh], hh⟩

theorem kn_inj {a b : IntKind} (hh : Nat.beq (kn a) (kn b) = true) : a = b := by
  have h1 := Nat.eq_of_beq_eq_true hh
  cases a <;> cases b <;> first | rfl | (exfalso; revert h1; decide)
theorem wrap_fit {k : IntKind} {r : Nat} (hh : Nat.ble r (kmax k) = true) : k.wrap (Int.ofNat r) = Int.ofNat r := by
  have h1 := Nat.le_of_ble_eq_true hh
  cases k <;> simp only [kmax] at h1 <;> simp [IntKind.wrap, IntKind.signed, IntKind.bits] <;> omega
theorem iLt_eq (a b : Int) : iLt a b = decide (a < b) := by
  cases a with
  | ofNat m =>
    cases b with
    | ofNat n =>
      show Nat.blt m n = _
      by_cases hmn : m < n
      · rw [show Nat.blt m n = true by rw [Nat.blt_eq]; exact hmn]
        symm
        rw [decide_eq_true_eq]
        show (m : Int) < n
        omega
      · rw [show Nat.blt m n = false by cases q : Nat.blt m n with | false => rfl | true => rw [Nat.blt_eq] at q; omega]
        symm
        rw [decide_eq_false_iff_not]
        show ¬ (m : Int) < n
        omega
    | negSucc n =>
      show false = _
      symm
      rw [decide_eq_false_iff_not]
      show ¬ (m : Int) < Int.negSucc n
      omega
  | negSucc m =>
    cases b with
    | ofNat n =>
      show true = _
      symm
      rw [decide_eq_true_eq]
      show Int.negSucc m < (n : Int)
      omega
    | negSucc n =>
      show Nat.blt n m = _
      by_cases hmn : n < m
      · rw [show Nat.blt n m = true by rw [Nat.blt_eq]; exact hmn]
        symm
        rw [decide_eq_true_eq]
        omega
      · rw [show Nat.blt n m = false by cases q : Nat.blt n m with | false => rfl | true => rw [Nat.blt_eq] at q; omega]
        symm
        rw [decide_eq_false_iff_not]
        omega
theorem natBeq (m n : Nat) : Nat.beq m n = decide (m = n) := by
  by_cases hmn : m = n
  · subst hmn; simp
  · rw [decide_eq_false hmn]
    cases q : Nat.beq m n with
    | false => rfl
    | true => exact absurd (Nat.eq_of_beq_eq_true q) hmn
theorem iEq_eq (a b : Int) : iEq a b = (a == b) := by
  rw [show (a == b) = decide (a = b) from rfl]
  cases a with
  | ofNat m =>
    cases b with
    | ofNat n => show Nat.beq m n = _; rw [natBeq]; simp only [decide_eq_decide]; exact ⟨fun q => by rw [q], fun q => Int.ofNat.inj q⟩
    | negSucc n => show false = _; symm; rw [decide_eq_false_iff_not]; intro q; cases q
  | negSucc m =>
    cases b with
    | ofNat n => show false = _; symm; rw [decide_eq_false_iff_not]; intro q; cases q
    | negSucc n => show Nat.beq m n = _; rw [natBeq]; simp
theorem bNot_eq (b : Bool) : bNot b = !b := by cases b <;> rfl
theorem yesK_eq (b : Bool) (k : AV → Ans) : yesK b k = k (.bool b) := by cases b <;> rfl

theorem nat2_yes {a b : Int} {s : Ans} {k : Nat → Nat → Ans} (hh : nat2 a b s k = .yes) : (∃ m n, a = Int.ofNat m ∧ b = Int.ofNat n ∧ k m n = .yes) ∨ s = .yes := by
  cases a with
  | ofNat m =>
    cases b with
    | ofNat n => exact .inl ⟨m, n, rfl, rfl, hh⟩
    | negSucc n => exact .inr hh
  | negSucc m => exact .inr hh

theorem arK_yes {op : BinOp} {kd : IntKind} {a b : Int} {s : Ans} {k : AV → Ans} (hh : arK op kd a b s k = .yes) : (∃ v, intOp op kd a b = some v ∧ k v = .yes ∧ op ≠ .shl ∧ op ≠ .shr) ∨ s = .yes := by
  cases op
  case add =>
    rcases nat2_yes hh with ⟨m, n, rfl, rfl, hq⟩ | hh
    · rw [frc_eq] at hq
      rcases bE_yes hq with ⟨h1, hh⟩ | ⟨_, hh⟩
      · refine .inl ⟨_, ?_, hh, by simp, by simp⟩
        unfold intOp
        rw [show Int.ofNat m + Int.ofNat n = Int.ofNat (Nat.add m n) from rfl, wrap_fit h1]
      · exact .inr hh
    · exact .inr hh
  case sub =>
    rcases nat2_yes hh with ⟨m, n, rfl, rfl, hq⟩ | hh
    · rcases bE_yes hq with ⟨h0, hh⟩ | ⟨_, hh⟩
      · rw [frc_eq] at hh
        rcases bE_yes hh with ⟨h1, hh⟩ | ⟨_, hh⟩
        · refine .inl ⟨_, ?_, hh, by simp, by simp⟩
          unfold intOp
          have hle := Nat.le_of_ble_eq_true h0
          rw [show Int.ofNat m - Int.ofNat n = Int.ofNat (Nat.sub m n) by show (m : Int) - n = ((m - n : Nat) : Int); omega, wrap_fit h1]
        · exact .inr hh
      · exact .inr hh
    · exact .inr hh
  case mul =>
    rcases nat2_yes hh with ⟨m, n, rfl, rfl, hq⟩ | hh
    · rw [frc_eq] at hq
      rcases bE_yes hq with ⟨h1, hh⟩ | ⟨_, hh⟩
      · refine .inl ⟨_, ?_, hh, by simp, by simp⟩
        unfold intOp
        rw [show Int.ofNat m * Int.ofNat n = Int.ofNat (Nat.mul m n) from rfl, wrap_fit h1]
      · exact .inr hh
    · exact .inr hh
  case eql =>
    have h1 : yesK (iEq a b) k = .yes := hh
    rw [yesK_eq, iEq_eq] at h1
    exact .inl ⟨_, rfl, h1, by simp, by simp⟩
  case neq =>
    have h1 : yesK (bNot (iEq a b)) k = .yes := hh
    rw [yesK_eq, bNot_eq, iEq_eq] at h1
    exact .inl ⟨_, rfl, h1, by simp, by simp⟩
  case lss =>
    have h1 : yesK (iLt a b) k = .yes := hh
    rw [yesK_eq, iLt_eq] at h1
    exact .inl ⟨_, rfl, h1, by simp, by simp⟩
  case leq =>
    have h1 : yesK (bNot (iLt b a)) k = .yes := hh
    rw [yesK_eq, bNot_eq, iLt_eq] at h1
    refine .inl ⟨_, rfl, ?_, by simp, by simp⟩
    rw [show decide (a ≤ b) = !decide (b < a) by rw [← decide_not]; congr 1; rw [Int.not_lt]]
    exact h1
  case gtr =>
    have h1 : yesK (iLt b a) k = .yes := hh
    rw [yesK_eq, iLt_eq] at h1
    exact .inl ⟨_, rfl, h1, by simp, by simp⟩
  case geq =>
    have h1 : yesK (bNot (iLt a b)) k = .yes := hh
    rw [yesK_eq, bNot_eq, iLt_eq] at h1
    refine .inl ⟨_, rfl, ?_, by simp, by simp⟩
    rw [show decide (a ≥ b) = !decide (a < b) by rw [← decide_not]; congr 1; rw [Int.not_lt]]
    exact h1
  all_goals exact .inr hh

theorem sEq_eq (l a m b : Nat) : sEq l a m b = (Nat.beq l m && Nat.beq a b) := by
  unfold sEq
  cases Nat.beq l m <;> rfl
theorem stK_yes {op : BinOp} {l a m b : Nat} {s : Ans} {k : AV → Ans} (hh : stK op l a m b s k = .yes) : (∃ v, strOp op l a m b = some v ∧ k v = .yes) ∨ s = .yes := by
  cases op
  case eql =>
    have h1 : yesK (sEq l a m b) k = .yes := hh
    rw [yesK_eq, sEq_eq] at h1
    exact .inl ⟨_, rfl, h1⟩
  case neq =>
    have h1 : yesK (bNot (sEq l a m b)) k = .yes := hh
    rw [yesK_eq, bNot_eq, sEq_eq] at h1
    exact .inl ⟨_, rfl, h1⟩
  all_goals exact .inr hh

theorem binOpK_ok {op : BinOp} {ty yt : TypeId} {x y : Operand} (hh : binOpK op ty x y yt E t h kv kr = .yes) : OpY E t h (.binOp op ty x y yt) kv kr := by
  obtain ⟨a, h1, hh⟩ := evK_yes hh
  obtain ⟨b, h2, hh⟩ := evK_yes hh
  have slow : binSlow E h op ty x y a b (fun v => kv v h) = .yes → OpY E t h (.binOp op ty x y yt) kv kr := by
    intro hh
    obtain ⟨h3, hh⟩ := bK_yes hh
    obtain ⟨v, h4, hh⟩ := oK_yes hh
    exact ⟨.val v h, by simp only [opA, h1, h2, h3, h4, vh], hh⟩
  rcases isD_yes hh with ⟨k, m, rfl, hh⟩ | ⟨l, p, rfl, hh⟩ | hh
  · rcases isD_yes hh with ⟨k', n, rfl, hh⟩ | ⟨_, _, _, hh⟩ | hh
    · rcases bE_yes hh with ⟨h3, hh⟩ | ⟨_, hh⟩
      · have hk := kn_inj h3
        subst hk
        rcases arK_yes hh with ⟨v, h4, hh, n1, n2⟩ | hh
        · refine ⟨.val v h, ?_, hh⟩
          have hg : guardOk E.P op ty x y (.int k m) (.int k n) = true := by cases op <;> rfl
          simp only [opA, h1, h2, hg]
          cases op <;> first | exact absurd rfl n1 | exact absurd rfl n2 | (simp only [binA, decide_true, h4, vh])
        · exact slow hh
      · exact slow hh
    · cases hh
    · cases hh
  · rcases isD_yes hh with ⟨_, _, _, hh⟩ | ⟨m, q, rfl, hh⟩ | hh
    · cases hh
    · rcases stK_yes hh with ⟨v, h4, hh⟩ | hh
      · refine ⟨.val v h, ?_, hh⟩
        have hg : guardOk E.P op ty x y (.str l p) (.str m q) = true := by cases op <;> rfl
        simp only [opA, h1, h2, hg, binA, h4, vh]
      · exact slow hh
    · cases hh
  · exact slow hh

theorem unOpK_ok {op : UnOp} {ty : TypeId} {x : Operand} (hh : unOpK op ty x E t h kv kr = .yes) : OpY E t h (.unOp op ty x) kv kr := by
  obtain ⟨a, h1, hh⟩ := evK_yes hh
  obtain ⟨v, h2, hh⟩ := oK_yes hh
  exact ⟨.val v h, by simp only [opA, h1, h2, vh], hh⟩

theorem nthK_yes : ∀ {n : Nat} {l : List AV} {k : AV → Ans}, nthK n l k = .yes → ∃ v, l[n]? = some v ∧ k v = .yes
  | 0, [], _, hh => by cases hh
  | 0, v :: l, k, hh => ⟨v, rfl, hh⟩
  | n + 1, [], _, hh => by cases hh
  | n + 1, _ :: l, k, hh => by
    obtain ⟨v, h1, h2⟩ := nthK_yes (n := n) (l := l) (k := k) hh
    exact ⟨v, by simpa using h1, h2⟩
theorem extractK_ok {x : Operand} {i : Nat} (hh : extractK x i E t h kv kr = .yes) : OpY E t h (.extract x i) kv kr := by
  obtain ⟨v, h1, hh⟩ := evK_yes hh
  obtain ⟨l, rfl, hh⟩ := tupD_yes hh
  obtain ⟨v, h2, hh⟩ := nthK_yes hh
  exact ⟨.val v h, by simp only [opA, h1, h2, vh], hh⟩

theorem newK_eq (o : AO) (k : Nat → H → Ans) : newK h o k = k h.nx (h.new o) := by
  obtain ⟨nx, tr⟩ := h
  show frc nx (fun nx => setP (pa nx) o tr (fun t' => frc (Nat.succ nx) (fun nx' => k nx ⟨nx', t'⟩))) = _
  rw [frc_eq, setP_eq, frc_eq]
  rfl

theorem boxK'_yes {ty : TypeId} {v : AV} (hh : boxK' h ty v kv = .yes) : ∃ r h', boxA h ty v = some (r, h') ∧ kv r h' = .yes := by
  unfold boxK' at hh
  rcases aggD_yes hh with ⟨l, rfl, hh⟩ | ⟨hj, hna, hc, hh⟩
  · have h1 := stLK_yes hh
    rw [newK_eq] at h1
    refine ⟨_, _, rfl, ?_⟩
    rw [Nat.zero_add] at h1
    exact h1
  · rw [newK_eq] at hh
    refine ⟨.ptr h.nx 0 0 1, h.new (.cells (mkFam ty [v])), ?_, hh⟩
    cases v <;> first | rfl | exact absurd rfl hj | exact absurd rfl (hna _)

theorem allocK_ok {ty : TypeId} (hh : allocK ty E t h kv kr = .yes) : OpY E t h (.alloc ty) kv kr := by
  obtain ⟨z, h1, hh⟩ := oK_yes hh
  have h1 := tzeroT_of h1
  obtain ⟨r, h', h2, hh⟩ := boxK'_yes hh
  exact ⟨.val r h', by simp only [opA, h1, h2, ph], hh⟩
theorem boxK_ok {ty : TypeId} {x : Operand} (hh : boxK ty x E t h kv kr = .yes) : OpY E t h (.box ty x) kv kr := by
  obtain ⟨z, h1, hh⟩ := evK_yes hh
  obtain ⟨r, h', h2, hh⟩ := boxK'_yes hh
  exact ⟨.val r h', by simp only [opA, h1, h2, ph], hh⟩

theorem optN_yes {o : Option Operand} {d : Nat} {k : Nat → Ans} (hh : optN o E t d k = .yes) : ∃ r n, evO (ev E.P t) o = some r ∧ natOr d r = some n ∧ k n = .yes := by
  cases o with
  | none => exact ⟨none, d, rfl, rfl, hh⟩
  | some x =>
    obtain ⟨v, h1, hh⟩ := evK_yes (x := x) (k := fun v => natD v k) hh
    obtain ⟨kd, n, rfl, h2, hh⟩ := natD_yes hh
    exact ⟨some (.int kd (Int.ofNat n)), n, by simp only [evO, h1], h2, hh⟩

theorem sliceK_ok {ty : TypeId} {x : Operand} {lo hi mx : Option Operand} (hh : sliceK ty x lo hi mx E t h kv kr = .yes) : OpY E t h (.slice ty x lo hi mx) kv kr := by
  cases mx with
  | some m => exact slowK_ok hh
  | none =>
    obtain ⟨v, h1, hh⟩ := evK_yes (x := x) hh
    obtain ⟨r, l, h2, h3, hh⟩ := optN_yes hh
    have hm : evO (ev E.P t) none = some none := rfl
    rcases slD_yes hh with ⟨F, g, o, s, n, c, rfl, hs⟩ | ⟨_, hs⟩ | ⟨n, b, rfl, hs⟩ | hs
    · obtain ⟨q, m, h4, h5, hh⟩ := optN_yes hs
      obtain ⟨s', h6, hh⟩ := oK_yes hh
      obtain ⟨h7, hh⟩ := bK_yes hh
      obtain ⟨h8, hh⟩ := bK_yes hh
      rcases bE_yes hh with ⟨h9, hh⟩ | ⟨_, hh⟩
      · rw [frc_eq, frc_eq] at hh
        have hc : capSub c l (fun c' => kv (.slc F g (Nat.add o (Nat.mul l s)) s (Nat.sub m l) c') h) = kv (.slc F g (Nat.add o (Nat.mul l s)) s (Nat.sub m l) (c.map fun c => Nat.sub c l)) h := by
          cases c with
          | none => rfl
          | some c => exact frc_eq (Nat.sub c l) (fun c' => kv (.slc F g (Nat.add o (Nat.mul l s)) s (Nat.sub m l) (some c')) h)
        rw [hc] at hh
        refine ⟨.val _ h, ?_, hh⟩
        unfold slT at h6
        split at h6
        · rename_i e q1
          have q1 := undT_of q1
          have h6 := tszT_of h6
          have hcap : Nat.ble m (capA h F g o s n c) = true := by
            unfold capA
            cases c with
            | some c => exact h9
            | none =>
              have h9' : Nat.ble m n = true := h9
              simp only
              split
              · split
                · exact Nat.ble_eq_true_of_le (Nat.le_trans (Nat.le_of_ble_eq_true h9') (Nat.le_max_left _ _))
                · exact h9'
              · exact h9'
          simp only [opA, h1, h2, h4, hm, sliceA, q1, h6, h3, h5, h7, h8, hcap, Bool.and_self, vh]
        · cases h6
      · exact slowK_ok hh
    · exact slowK_ok hs
    · obtain ⟨q, m, h4, h5, hh⟩ := optN_yes hs
      obtain ⟨h6, hh⟩ := bK_yes hh
      obtain ⟨h7, hh⟩ := bK_yes hh
      obtain ⟨h8, hh⟩ := bK_yes hh
      rw [frc_eq, frc_eq] at hh
      refine ⟨.val _ h, ?_, hh⟩
      unfold isStr at h6
      split at h6
      · rename_i q1
        have q1 := undT_of q1
        simp only [opA, h1, h2, h4, hm, sliceA, q1, h3, h5, h7, h8, Bool.and_self, vh, strCut]
      · cases h6
    · exact slowK_ok hs
end
end Go.Ai
