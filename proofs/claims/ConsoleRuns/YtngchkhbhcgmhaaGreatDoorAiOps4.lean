/- A part of the proof of ConsoleRuns: AiOps4. -/
import Derived.Test.YtngchkhbhcgmhaaGreatDoorAiOps3
set_option linter.unusedVariables false
set_option linter.unusedSimpArgs false
set_option linter.unusedSectionVars false
set_option linter.unnecessarySimpa false
/- Places, slices, aggregates: operations that only compute. -/
namespace Go.Ai

section
variable {P : Program} {ι κ : Emb} {w w' : World} {h h' : H}

theorem getD_toArray (l : List Value) (n : Nat) : l[n]? = l.toArray[n]? := by simp

theorem fieldsAt_eq : ∀ (l : List Field) (n : Nat), fieldsAt l n = l[n]?
  | [], n => by simp [fieldsAt]
  | f :: l, 0 => by simp [fieldsAt]
  | f :: l, n + 1 => by simp [fieldsAt, fieldsAt_eq l n]

theorem fieldsAt_arr {fs : Array Field} {i : Nat} {f : Field} (h : fieldsAt fs.toList i = some f) : fs[i]? = some f := by
  rw [fieldsAt_eq] at h
  simpa using h

theorem addr_add_pos (b o j : Nat) : (⟨b, o, none⟩ : Addr).add j = ⟨b, o + j, none⟩ := addr_add b o j

/-- the place of a field -/
theorem fieldAddr_rel {t : TypeId} {v1 v : AV} {x : Value} {i : Nat} (hv : fieldAddrA P t v1 i = some v) (hx : VRel P ι v1 x) : Gives P ι w (Instr.fieldAt t x i) v := by
  unfold fieldAddrA at hv
  split at hv
  · rename_i fs F g o ext hu
    split at hv
    · rename_i f hf
      split at hv
      · rename_i n hn
        split at hv
        · rename_i h1 h2
          cases hv
          cases hx with
          | ptr hi he =>
          rename_i L
          have h2' : f.offset + n ≤ ext := Nat.le_of_ble_eq_true h2
          have h1' : n ≠ 0 := fun e => by subst e; simp at h1
          refine Gives.of (VRel.ptr (o := o + f.offset) (e := n) hi (by omega)) ?_
          have := fieldsAt_arr hf
          simp only [Instr.fieldAt, Sem.run_bind, run_underlying hu w, Result.andThen_ok, this, Instr.sureAddr, Sem.run_pure, fieldPlace, run_sizeOf' hn w, h1', if_false, addr_add, Nat.add_assoc]
        · cases hv
      · cases hv
    · cases hv
  · cases hv

/-- the place of an element -/
theorem indexAddr_rel {t : TypeId} {v1 v2 v : AV} {x y : Value} (hv : indexAddrA P t v1 v2 = some v) (hx : VRel P ι v1 x) (hy : VRel P ι v2 y) : Gives P ι w (Instr.indexAt t x y) v := by
  unfold indexAddrA at hv
  split at hv
  · rename_i e F g o s n c i hu hi
    obtain ⟨k, rfl⟩ := asNat_rel hy hi
    split at hv
    · rename_i s' hs'
      split at hv
      · rename_i hc
        cases hv
        simp only [Bool.and_eq_true] at hc
        have hss : s = s' := Nat.eq_of_beq_eq_true hc.1
        subst hss
        have hin : i < n := by have := hc.2; simpa [Nat.blt_eq] using this
        cases hx with
        | slc hl hs hn hm hN hcc hu' ha =>
        rename_i L a k'
        have hk0 : k' ≠ 0 := by omega
        have hle : (i + 1) * s ≤ n * s := Nat.mul_le_mul_right s hin
        have hle' : i * s + s ≤ n * s := by rw [Nat.add_mul] at hle; omega
        refine Gives.of (VRel.ptr (o := o + i * s) (e := s) hl (by omega)) ?_
        have hcond : (0 ≤ (i : Int) ∧ (i : Int) < (n : Nat)) := ⟨by omega, by omega⟩
        simp only [Instr.indexAt, asIntOf, Sem.run_bind, Sem.run_pure, Result.andThen_ok, run_underlying hu w, ha hk0, Sem.run_ite]
        rw [if_pos hcond]
        simp only [run_sizeOf' hs' w, Result.andThen_ok, addr_add, Int.toNat_natCast, Nat.add_assoc]
      · cases hv
    · cases hv
  · rename_i n e F g o ext i hu hi
    obtain ⟨k, rfl⟩ := asNat_rel hy hi
    split at hv
    · rename_i s hs
      split at hv
      · rename_i hc
        cases hv
        simp only [Bool.and_eq_true] at hc
        have hin : i < n := by have := hc.1; simpa [Nat.blt_eq] using this
        have hex : n * s ≤ ext := Nat.le_of_ble_eq_true hc.2
        cases hx with
        | ptr hl he =>
        rename_i L
        have hle : (i + 1) * s ≤ n * s := Nat.mul_le_mul_right s hin
        have hle' : i * s + s ≤ n * s := by rw [Nat.add_mul] at hle; omega
        refine Gives.of (VRel.ptr (o := o + i * s) (e := s) hl (by omega)) ?_
        have hcond : (0 ≤ (i : Int) ∧ (i : Int) < (n : Nat)) := ⟨by omega, by omega⟩
        simp only [Instr.indexAt, asIntOf, Sem.run_bind, Sem.run_pure, Result.andThen_ok, run_underlying hu w, Instr.sureAddr, Sem.run_ite]
        rw [if_pos hcond]
        simp only [run_sizeOf' hs w, Result.andThen_ok, addr_add, Int.toNat_natCast, Nat.add_assoc]
      · cases hv
    · cases hv
  · cases hv

theorem pack_get (l : List UInt8) (i : Nat) (hi : i < l.length) : Nat.mod (Nat.shiftRight (packL l) (Nat.mul 8 i)) 256 = (l[i]).toNat := by
  show (packL l >>> (8 * i)) % 256 = _
  rw [Nat.shiftRight_eq_div_pow, pack_drop l i (by omega)]
  have e : l.drop i = l[i] :: l.drop (i + 1) := List.drop_eq_getElem_cons hi
  rw [e]
  show (l[i].toNat + 256 * packL (l.drop (i + 1))) % 256 = _
  have := (l[i]).toNat_lt
  omega

/-- an element of a text or an array -/
theorem index_rel {t : TypeId} {v1 v2 v : AV} {x y : Value} (hv : indexA P t v1 v2 = some v) (hx : VRel P ι v1 x) (hy : VRel P ι v2 y) : Gives P ι w (Instr.index t x y) v := by
  unfold indexA at hv
  split at hv
  · rename_i l b i hu hi
    obtain ⟨k, rfl⟩ := asNat_rel hy hi
    obtain ⟨s, rfl, rfl, rfl⟩ := str_inv hx
    split at hv
    · rename_i hlt
      cases hv
      have hlt' : i < s.data.toList.length := by simpa [Nat.blt_eq] using hlt
      have hsz : i < s.size := hlt'
      refine Gives.of (x := .int .u8 (s.data.toList[i]).toNat) ?_ ?_
      · rw [pack_get _ _ hlt']
        exact .int _ _
      · have h1 : (0 : Int) ≤ (i : Int) := by omega
        have h2 : s[i]? = some (s.data.toList[i]) := by
          rw [getElem?_pos s i hsz]
          rfl
        simp only [Instr.index, asIntOf, Sem.run_bind, Sem.run_pure, Result.andThen_ok, run_underlying hu w, h1, if_true, Int.toNat_natCast, h2]
    · cases hv
  · rename_i n e cs i hu hi
    obtain ⟨k, rfl⟩ := asNat_rel hy hi
    split at hv
    · rename_i s hs
      split at hv
      · rename_i hlt
        cases hx with
        | agg hx =>
        obtain ⟨z, hz, hr⟩ := part_rel (ι := ι) hv hx
        have hlt' : i < n := by simpa [Nat.blt_eq] using hlt
        refine Gives.of hr ?_
        have hcond : (0 ≤ (i : Int) ∧ (i : Int) < (n : Nat)) := ⟨by omega, by omega⟩
        simp only [Instr.index, asIntOf, Sem.run_bind, Sem.run_pure, Result.andThen_ok, run_underlying hu w, Sem.run_ite]
        rw [if_pos hcond]
        simp only [run_sizeOf' hs w, Result.andThen_ok, Int.toNat_natCast]
        exact hz w
      · cases hv
    · cases hv
  · cases hv

/-! Slices. -/
def OptRel (P : Program) (ι : Emb) (r : Option AV) (x : Option Value) : Prop := (r = none ∧ x = none) ∨ ∃ v y, r = some v ∧ x = some y ∧ VRel P ι v y

theorem natOr_rel {d n : Nat} {r : Option AV} {x : Option Value} (hn : natOr d r = some n) (hr : OptRel P ι r x) : (x = none ∧ n = d) ∨ ∃ k, x = some (.int k (n : Int)) := by
  rcases hr with ⟨rfl, rfl⟩ | ⟨v, y, rfl, rfl, hv⟩
  · simp [natOr] at hn; exact .inl ⟨rfl, hn.symm⟩
  · obtain ⟨k, rfl⟩ := asNat_rel hv hn
    exact .inr ⟨k, rfl⟩

theorem run_sliceBound (k : IntKind) (n y : Nat) (hn : n ≤ y) (c : BoundsCode) (w : World) : (Instr.sliceBound (.int k (n : Int)) y c).run P w = .ok n w := by
  have : (0 ≤ (n : Int) ∧ (n : Int) ≤ (y : Nat)) := ⟨by omega, by omega⟩
  simp only [Instr.sliceBound, asIntOf, Sem.run_bind, Sem.run_pure, Result.andThen_ok, Sem.run_ite, this, and_self, if_true, Int.toNat_natCast]

theorem run_sliceBounds2 {lo hi len cap : Nat} {low high : Option Value} (b : Bool) (hl : (low = none ∧ lo = 0) ∨ ∃ k, low = some (.int k (lo : Int))) (hh : (high = none ∧ hi = len) ∨ ∃ k, high = some (.int k (hi : Int)))
    (h1 : lo ≤ hi) (h2 : hi ≤ cap) (w : World) : (Instr.sliceBounds b len cap low high none).run P w = .ok (lo, hi, cap) w := by
  rcases hl with ⟨rfl, rfl⟩ | ⟨k, rfl⟩ <;> rcases hh with ⟨rfl, rfl⟩ | ⟨k', rfl⟩ <;>
    simp only [Instr.sliceBounds, Sem.run_bind, Sem.run_pure, Result.andThen_ok, run_sliceBound _ _ _ h2, run_sliceBound _ _ _ h1]

theorem run_sliceBounds3 {lo hi m len cap : Nat} {low : Option Value} {kh km : IntKind} (b : Bool) (hl : (low = none ∧ lo = 0) ∨ ∃ k, low = some (.int k (lo : Int)))
    (h1 : lo ≤ hi) (h2 : hi ≤ m) (h3 : m ≤ cap) (w : World) : (Instr.sliceBounds b len cap low (some (.int kh (hi : Int))) (some (.int km (m : Int)))).run P w = .ok (lo, hi, m) w := by
  rcases hl with ⟨rfl, rfl⟩ | ⟨k, rfl⟩ <;>
    simp only [Instr.sliceBounds, Sem.run_bind, Sem.run_pure, Result.andThen_ok, run_sliceBound _ _ _ h2, run_sliceBound _ _ _ h1, run_sliceBound _ _ _ h3]

theorem cut_rel (s : ByteArray) {lo hi : Nat} (h1 : lo ≤ hi) (h2 : hi ≤ s.data.toList.length) : VRel P ι (strCut (packL s.data.toList) lo hi) (.string (s.extract lo hi)) := by
  have hd : (s.extract lo hi).data.toList = (s.data.toList.drop lo).take (hi - lo) := by
    simp [ByteArray.data_extract, List.take_drop]
  have hlen : ((s.data.toList.drop lo).take (hi - lo)).length = hi - lo := by
    rw [List.length_take, List.length_drop]
    omega
  refine str_rel _ ?_ ?_
  · rw [hd, hlen]; rfl
  · show (packL s.data.toList >>> (8 * lo)) % 2 ^ (8 * (hi - lo)) = _
    rw [Nat.shiftRight_eq_div_pow, pack_drop _ _ (by omega), pack_take _ _ (by rw [List.length_drop]; omega), hd]

/-- a slice may be cut as far as is known -/
theorem capA_le (hr : HRel P h.obj ι w) {F g o s n k : Nat} {c : Option Nat} {L : Loc} (hl : ι F g = some L) (hs : 0 < s) (hn : n ≤ k) (hm : o + n * s ≤ L.m)
    (hc : ∀ x, c = some x → k = x ∧ o + x * s ≤ L.m) (hu : c = none → L.p + o + k * s = L.N) : capA h F g o s n c ≤ k ∧ ∀ hi, hi ≤ capA h F g o s n c → o + hi * s ≤ L.m := by
  have base : ∀ hi, hi ≤ n → o + hi * s ≤ L.m := fun hi hh => by
    have := Nat.mul_le_mul_right s hh
    omega
  unfold capA
  split
  · rename_i x
    obtain ⟨h1, h2⟩ := hc x rfl
    refine ⟨by omega, fun hi hh => ?_⟩
    have := Nat.mul_le_mul_right s hh
    omega
  · split
    · rename_i f hf
      split
      · rename_i hg
        obtain ⟨_, _, _, hk, _, hms, _, _⟩ := hr.at hf hl
        have hsz := hms (Nat.eq_of_beq_eq_true hg)
        have hfit := hk.fit
        have hu' := hu rfl
        have hdiv : (f.sz - o) / s * s ≤ f.sz - o := Nat.div_mul_le_self _ _
        have hdk : (f.sz - o) / s ≤ k := by
          have : (f.sz - o) / s * s ≤ k * s := by omega
          exact Nat.le_of_mul_le_mul_right this hs
        refine ⟨Nat.max_le.2 ⟨hn, hdk⟩, fun hi hh => ?_⟩
        rcases Nat.le_total n ((f.sz - o) / s) with h3 | h3
        · have h2 : hi ≤ (f.sz - o) / s := Nat.le_trans hh (Nat.max_le.2 ⟨h3, Nat.le_refl _⟩)
          have h4 := Nat.mul_le_mul_right s h2
          by_cases h5 : hi = 0
          · subst h5; exact base 0 (by omega)
          · have : s ≤ hi * s := Nat.le_mul_of_pos_left s (by omega)
            omega
        · exact base hi (Nat.le_trans hh (Nat.max_le.2 ⟨Nat.le_refl _, h3⟩))
      · exact ⟨hn, base⟩
    · exact ⟨hn, base⟩

theorem slice_rel (hr : HRel P h.obj ι w) {t : TypeId} {v1 v : AV} {x : Value} {lo hi mx : Option AV} {low high max : Option Value}
    (hv : sliceA P h t v1 lo hi mx = some v) (hx : VRel P ι v1 x) (h1 : OptRel P ι lo low) (h2 : OptRel P ι hi high) (h3 : OptRel P ι mx max) : Gives P ι w (Instr.sliceAt t x low high max) v := by
  unfold sliceA at hv
  split at hv
  · rename_i l b hu
    obtain ⟨s, rfl, rfl, rfl⟩ := str_inv hx
    split at hv
    · rename_i lo' hi' e1 e2
      split at hv
      · rename_i hc
        cases hv
        simp only [Bool.and_eq_true] at hc
        have c1 : lo' ≤ hi' := Nat.le_of_ble_eq_true hc.1
        have c2 : hi' ≤ s.data.toList.length := Nat.le_of_ble_eq_true hc.2
        have hm : max = none := by rcases h3 with ⟨_, e⟩ | ⟨_, _, e, _⟩ <;> first | exact e | cases e
        subst hm
        refine Gives.of (cut_rel s c1 c2) ?_
        have hb := run_sliceBounds2 (P := P) (len := s.size) (cap := s.size) false (natOr_rel e1 h1) (natOr_rel e2 h2) c1 c2 w
        simp only [Instr.sliceAt, Sem.run_bind, run_underlying hu w, Result.andThen_ok, Instr.slice, Option.isSome_none, Bool.false_eq_true, if_false, Sem.run_pure, hb]
      · cases hv
    · cases hv
  · rename_i e hu
    split at hv
    · rename_i n e1 e2 e3 hs e4
      cases hv
      cases hx
      have hb : (Instr.sliceBounds true 0 0 low high max).run P w = .ok (0, 0, 0) w := by
        rcases natOr_rel e1 h1 with ⟨rfl, _⟩ | ⟨k1, rfl⟩ <;> rcases natOr_rel e2 h2 with ⟨rfl, _⟩ | ⟨k2, rfl⟩ <;> rcases natOr_rel e3 h3 with ⟨rfl, _⟩ | ⟨k3, rfl⟩ <;>
          simp only [Instr.sliceBounds, Sem.run_bind, Sem.run_pure, Result.andThen_ok, run_sliceBound _ _ _ (Nat.le_refl 0)]
        · exfalso
          rcases h3 with ⟨rfl, hh⟩ | ⟨_, _, rfl, _⟩
          · cases hh
          · rcases h2 with ⟨rfl, _⟩ | ⟨_, _, _, hh, _⟩
            · simp at e4
            · cases hh
        · exfalso
          rcases h3 with ⟨rfl, hh⟩ | ⟨_, _, rfl, _⟩
          · cases hh
          · rcases h2 with ⟨rfl, _⟩ | ⟨_, _, _, hh, _⟩
            · simp at e4
            · cases hh
      refine Gives.of .nils ?_
      simp only [Instr.sliceAt, Sem.run_bind, run_underlying hu w, Result.andThen_ok, Instr.slice, hb, run_sizeOf' hs w, if_true, Sem.run_pure]
    · cases hv
  · rename_i e F g o s n c hu
    split at hv
    · rename_i s' lo' hi' hs' e1 e2
      split at hv
      · rename_i hss
        have hm : max = none := by rcases h3 with ⟨_, e⟩ | ⟨_, _, e, _⟩ <;> first | exact e | cases e
        subst hm
        have := Nat.eq_of_beq_eq_true hss
        subst this
        split at hv
        · rename_i hc
          cases hv
          simp only [Bool.and_eq_true] at hc
          have c1 : lo' ≤ hi' := Nat.le_of_ble_eq_true hc.1
          have c2 : hi' ≤ capA h F g o s n c := Nat.le_of_ble_eq_true hc.2
          cases hx with
          | slc hl hs hn hm hN hcc hu' ha =>
          rename_i L a k
          obtain ⟨q1, q2⟩ := capA_le hr hl hs hn hm hcc hu'
          have hb := run_sliceBounds2 (P := P) (len := n) (cap := k) true (natOr_rel e1 h1) (natOr_rel e2 h2) c1 (by omega) w
          have hlk : lo' * s ≤ k * s := Nat.mul_le_mul_right s (by omega)
          have hsub : (k - lo') * s = k * s - lo' * s := Nat.sub_mul _ _ _
          have hsub2 : (hi' - lo') * s = hi' * s - lo' * s := Nat.sub_mul _ _ _
          have hlh : lo' * s ≤ hi' * s := Nat.mul_le_mul_right s c1
          have hq2 := q2 hi' c2
          refine Gives.of (VRel.slc (a := if k = lo' then a else a.add (lo' * s)) (k := k - lo') (o := o + lo' * s) (n := hi' - lo') hl hs (by omega) (by omega) (by omega) ?_ ?_ ?_) ?_
          · intro z hz
            cases c with
            | none => cases hz
            | some c0 =>
              obtain ⟨r1, r2⟩ := hcc c0 rfl
              simp at hz
              subst hz
              subst r1
              exact ⟨rfl, by show o + lo' * s + (k - lo') * s ≤ L.m; omega⟩
          · intro hz
            have : c = none := by cases c <;> simp at hz ⊢
            have := hu' this
            omega
          · intro hk0
            have hk : k ≠ 0 := by omega
            rw [if_neg (by omega), ha hk, addr_add]
            simp [Nat.add_assoc]
          · simp only [Instr.sliceAt, Sem.run_bind, run_underlying hu w, Result.andThen_ok, Instr.slice, hb, run_sizeOf' hs' w, Sem.run_pure]
            by_cases hkl : k = lo' <;> simp [hkl]
        · cases hv
      · cases hv
    · cases hv
  · cases hv

theorem slice3_rel (hr : HRel P h.obj ι w) (hfit : ∀ F g L, ι F g = some L → L.p + L.m ≤ L.N) {t : TypeId} {v1 v : AV} {x : Value} {lo hi mx : Option AV} {low high max : Option Value}
    (hv : slice3A P h t v1 lo hi mx = some v) (hx : VRel P ι v1 x) (h1 : OptRel P ι lo low) (h2 : OptRel P ι hi high) (h3 : OptRel P ι mx max) : Gives P ι w (Instr.sliceAt t x low high max) v := by
  unfold slice3A at hv
  split at hv
  · rename_i e F g o s n c hu
    split at hv
    · rename_i s' lo' hi' m hs' e1 e2 e3
      have hhi : ∃ k, high = some (.int k (hi' : Int)) := by
        rcases h2 with ⟨rfl, _⟩ | ⟨v2, y, rfl, rfl, hv2⟩
        · cases e2
        · obtain ⟨k, rfl⟩ := asNat_rel hv2 e2; exact ⟨k, rfl⟩
      have hmx : ∃ k, max = some (.int k (m : Int)) := by
        rcases h3 with ⟨rfl, _⟩ | ⟨v2, y, rfl, rfl, hv2⟩
        · cases e3
        · obtain ⟨k, rfl⟩ := asNat_rel hv2 e3; exact ⟨k, rfl⟩
      obtain ⟨kh, rfl⟩ := hhi
      obtain ⟨km, rfl⟩ := hmx
      split at hv
      · rename_i hc
        cases hv
        simp only [Bool.and_eq_true] at hc
        obtain ⟨⟨⟨c0, c1⟩, c2⟩, c3⟩ := hc
        have hss := Nat.eq_of_beq_eq_true c0
        subst hss
        have c1' : lo' ≤ hi' := Nat.le_of_ble_eq_true c1
        have c2' : hi' ≤ m := Nat.le_of_ble_eq_true c2
        have c3' : m ≤ capA h F g o s n c := Nat.le_of_ble_eq_true c3
        cases hx with
        | slc hl hs hn hm hN hcc hu' ha =>
        rename_i L a k
        obtain ⟨q1, q2⟩ := capA_le hr hl hs hn hm hcc hu'
        have hb := run_sliceBounds3 (P := P) (len := n) (cap := k) (kh := kh) (km := km) true (natOr_rel e1 h1) c1' c2' (by omega) w
        have hlk : lo' * s ≤ m * s := Nat.mul_le_mul_right s (by omega)
        have hmk : m * s ≤ k * s := Nat.mul_le_mul_right s (by omega)
        have hsub : (m - lo') * s = m * s - lo' * s := Nat.sub_mul _ _ _
        have hsub2 : (hi' - lo') * s = hi' * s - lo' * s := Nat.sub_mul _ _ _
        have hlh : lo' * s ≤ hi' * s := Nat.mul_le_mul_right s c1'
        have hhm : hi' * s ≤ m * s := Nat.mul_le_mul_right s c2'
        have hq2 := q2 m c3'
        refine Gives.of (VRel.slc (a := if m = lo' then a else a.add (lo' * s)) (k := m - lo') (o := o + lo' * s) (n := hi' - lo') hl hs (by omega) (by omega) (by omega) ?_ ?_ ?_) ?_
        · intro z hz
          cases hz
          exact ⟨rfl, by show o + lo' * s + (m - lo') * s ≤ L.m; omega⟩
        · intro hz; cases hz
        · intro hk0
          have hk : k ≠ 0 := by omega
          rw [if_neg (by omega), ha hk, addr_add]
          simp [Nat.add_assoc]
        · simp only [Instr.sliceAt, Sem.run_bind, run_underlying hu w, Result.andThen_ok, Instr.slice, hb, run_sizeOf' hs' w, Sem.run_pure]
          by_cases hkl : m = lo' <;> simp [hkl]
      · cases hv
    · cases hv
  · rename_i n e F g o ext hu
    split at hv
    · rename_i s lo' hi' hs' e1 e2
      have hm : max = none := by rcases h3 with ⟨_, e⟩ | ⟨_, _, e, _⟩ <;> first | exact e | cases e
      subst hm
      split at hv
      · rename_i hc
        cases hv
        simp only [Bool.and_eq_true] at hc
        obtain ⟨⟨⟨c1, c2⟩, c3⟩, c4⟩ := hc
        have c1' : lo' ≤ hi' := Nat.le_of_ble_eq_true c1
        have c2' : hi' ≤ n := Nat.le_of_ble_eq_true c2
        have c3' : n * s ≤ ext := Nat.le_of_ble_eq_true c3
        have hs : 0 < s := Nat.le_of_ble_eq_true c4
        cases hx with
        | ptr hl he =>
        rename_i L
        have hb := run_sliceBounds2 (P := P) (len := n) (cap := n) false (natOr_rel e1 h1) (natOr_rel e2 h2) c1' c2' w
        have hlk : lo' * s ≤ n * s := Nat.mul_le_mul_right s (by omega)
        have hsub : (n - lo') * s = n * s - lo' * s := Nat.sub_mul _ _ _
        have hsub2 : (hi' - lo') * s = hi' * s - lo' * s := Nat.sub_mul _ _ _
        have hlh : lo' * s ≤ hi' * s := Nat.mul_le_mul_right s c1'
        have hhm : hi' * s ≤ n * s := Nat.mul_le_mul_right s c2'
        have hf := hfit F g L hl
        refine Gives.of (VRel.slc (a := if n = lo' then ⟨L.b, L.p + o, none⟩ else (⟨L.b, L.p + o, none⟩ : Addr).add (lo' * s)) (k := n - lo') (o := o + lo' * s) (n := hi' - lo') hl hs (by omega) (by omega) (by omega) ?_ ?_ ?_) ?_
        · intro z hz
          cases hz
          exact ⟨rfl, by show o + lo' * s + (n - lo') * s ≤ L.m; omega⟩
        · intro hz; cases hz
        · intro hk0
          rw [if_neg (by omega), addr_add]
          simp [Nat.add_assoc]
        · simp only [Instr.sliceAt, Sem.run_bind, run_underlying hu w, Result.andThen_ok, hb, run_sizeOf' hs' w, Sem.run_pure, Instr.sureAddr]
      · cases hv
    · cases hv
  · cases hv

/-! Aggregates. -/
theorem putAt_eq : ∀ (cs : List AV) (o : Nat) (vs r : List AV), putAt cs o vs = some r → o + vs.length ≤ cs.length ∧ r = cs.take o ++ vs ++ cs.drop (o + vs.length)
  | cs, 0, [], r, hp => by
    have : putAt cs 0 [] = some cs := by cases cs <;> rfl
    rw [this] at hp
    cases hp
    simp
  | [], 0, _ :: _, r, hp => by simp [putAt] at hp
  | c :: cs, 0, v :: vs, r, hp => by
    simp only [putAt, Option.map_eq_some_iff] at hp
    obtain ⟨r', hr', rfl⟩ := hp
    obtain ⟨h1, h2⟩ := putAt_eq cs 0 vs r' hr'
    refine ⟨by simp at h1 ⊢; omega, ?_⟩
    rw [h2]
    simp
  | [], o + 1, vs, r, hp => by simp [putAt] at hp
  | c :: cs, o + 1, vs, r, hp => by
    simp only [putAt, Option.map_eq_some_iff] at hp
    obtain ⟨r', hr', rfl⟩ := hp
    obtain ⟨h1, h2⟩ := putAt_eq cs o vs r' hr'
    refine ⟨by simp at h1 ⊢; omega, ?_⟩
    rw [h2]
    simp [show o + 1 + vs.length = (o + vs.length) + 1 by omega]

/-- cells put one by one, as the model does -/
theorem foldl_put (vs : List Value) (off : Nat) : ∀ (k : Nat) (cs : Array Value), off + k + vs.length ≤ cs.size →
    ((vs.zipIdx k).foldl (fun cs (p : Value × Nat) => cs.setIfInBounds (off + p.2) p.1) cs).toList = cs.toList.take (off + k) ++ vs ++ cs.toList.drop (off + k + vs.length) := by
  induction vs with
  | nil => intro k cs _; simp
  | cons v vs ih =>
    intro k cs hle
    simp only [List.length_cons] at hle
    simp only [List.zipIdx_cons, List.foldl_cons]
    rw [ih (k + 1) _ (by simp; omega)]
    have hlt : off + k < cs.toList.length := by simp; omega
    have e1 : (cs.setIfInBounds (off + k) v).toList = cs.toList.set (off + k) v := by simp
    rw [e1, List.set_eq_take_append_cons_drop, if_pos hlt]
    have l1 : (cs.toList.take (off + k)).length = off + k := by rw [List.length_take]; omega
    have t1 : (cs.toList.take (off + k) ++ v :: cs.toList.drop (off + k + 1)).take (off + (k + 1)) = cs.toList.take (off + k) ++ [v] := by
      rw [List.take_append, l1, List.take_of_length_le (by rw [l1]; omega), show off + (k + 1) - (off + k) = 1 by omega]
      rfl
    have t2 : (cs.toList.take (off + k) ++ v :: cs.toList.drop (off + k + 1)).drop (off + (k + 1) + vs.length) = cs.toList.drop (off + k + (vs.length + 1)) := by
      rw [List.drop_append, l1, List.drop_eq_nil_of_le (by rw [l1]; omega), show off + (k + 1) + vs.length - (off + k) = vs.length + 1 by omega]
      simp only [List.nil_append, List.drop_succ_cons, List.drop_drop]
      congr 1
      omega
    rw [t1, t2]
    simp

theorem fill_rel {place : Nat → Option (Nat × Nat)} {place' : Nat → Option (Nat × Nat)} (hpl : ∀ i a, place i = some a → place' i = some a) :
    ∀ (ps : List (Nat × AV)) (qs : List (Nat × Value)) (cs r : List AV) (m : Array Value), fillA place cs ps = some r → VRelL P ι cs m.toList →
      ps.length = qs.length → (∀ (j : Nat) (p : Nat × AV) (q : Nat × Value), ps[j]? = some p → qs[j]? = some q → p.1 = q.1 ∧ VRel P ι p.2 q.2 ∧ p.2 ≠ .junk) →
      ∃ m', Instr.fill place' m qs = some m' ∧ VRelL P ι r m'.toList
  | [], [], cs, r, m, hf, hv, _, _ => by simp [fillA] at hf; subst hf; exact ⟨m, rfl, hv⟩
  | [], _ :: _, _, _, _, _, _, hl, _ => by simp at hl
  | _ :: _, [], _, _, _, _, _, hl, _ => by simp at hl
  | (i, v) :: ps, (j, x) :: qs, cs, r, m, hf, hv, hl, hq => by
    obtain ⟨e1, e2, e3⟩ := hq 0 (i, v) (j, x) (by simp) (by simp)
    simp only at e1 e2 e3
    subst e1
    unfold fillA at hf
    split at hf
    · rename_i off size hp
      split at hf
      · rename_i hsz
        split at hf
        · rename_i cs' hcs
          have hsz' : v.cells.length = size := Nat.eq_of_beq_eq_true hsz
          have hcl := cells_rel e2 e3
          have hlen := hcl.length
          have hlx : x.cells.size = size := by rw [← hsz', hlen]; simp
          obtain ⟨q1, q2⟩ := putAt_eq _ _ _ _ hcs
          have hvl := hv.length
          have hms : off + x.cells.size ≤ m.size := by rw [hlx, ← hsz']; simpa [hvl] using q1
          have hfold := foldl_put x.cells.toList off 0 m (by simpa using hms)
          simp only [Nat.add_zero] at hfold
          have hzip : (x.cells.zipIdx.foldl (fun cs (p : Value × Nat) => cs.setIfInBounds (off + p.2) p.1) m) = (x.cells.toList.zipIdx 0).foldl (fun cs (p : Value × Nat) => cs.setIfInBounds (off + p.2) p.1) m := by
            rw [← Array.foldl_toList]
            simp
          have hrel : VRelL P ι cs' ((x.cells.zipIdx.foldl (fun cs (p : Value × Nat) => cs.setIfInBounds (off + p.2) p.1) m)).toList := by
            rw [hzip, hfold, q2]
            have hcl' : v.cells.length = x.cells.toList.length := hlen
            rw [hcl']
            exact ((hv.take off).append hcl).append (hv.drop _)
          obtain ⟨m', r1, r2⟩ := fill_rel hpl ps qs cs' r _ hf hrel (by simpa using hl) (fun j p q a b => hq (j + 1) p q (by simpa using a) (by simpa using b))
          refine ⟨m', ?_, r2⟩
          have hneg : ¬ ((x.cells.size ≠ size || decide (off + x.cells.size > m.size)) = true) := by
            simp [hlx]
            omega
          simp only [Instr.fill, hpl i _ hp]
          rw [if_neg hneg]
          exact r1
        · cases hf
      · cases hf
    · cases hf

end
end Go.Ai
