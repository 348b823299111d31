/- A part of the proof of ConsoleRuns: AiOps7. -/
import Derived.Test.YtngchkhbhcgmhaaGreatDoorAiOps6
import Derived.ArgAppend
set_option linter.unusedVariables false
set_option linter.unusedSimpArgs false
set_option linter.unusedSectionVars false
set_option linter.unnecessarySimpa false
/- append. -/
namespace Go.Ai

section
variable {P : Program} {ι κ : Emb} {w w' : World} {h h' : H}

/-- what is appended, as the model sees it -/
def SrcOk (P : Program) (w : World) (u e : TypeId) (x : Value) (size by_ n : Nat) (news : Array Value) : Prop :=
  (∃ d, P.underlying u = some d ∧ (∀ k, d ≠ .int k) ∧ (Builtin.lenOf x).run P w = .ok n w ∧ ∀ w2 : World, w2.heap = w.heap → (Builtin.firstCells size n x).run P w2 = .ok news w2) ∨
  (∃ k kk z, P.underlying u = some (.int k) ∧ x = .int kk n ∧ n * (by_ + 1) ≤ 1000000000000 ∧ (∀ w2, (zeroValue e).run P w2 = .ok z w2) ∧ z.cells.size = size ∧ 0 < size ∧ news = Builtin.zeroCells z.cells n)

theorem run_zeros_len {kk : IntKind} {n by_ : Nat} (e : TypeId) {i : TypeInfo} (hi : P.info? e = some i) (hn : n * (i.bytes + 1) ≤ 1000000000000) :
    IntKind.i64.wrap (n : Int) = n ∧ ¬ ((n : Int) < 0) ∧ ¬ ((n : Int) * (i.bytes : Int) > 2 ^ 48) := by
  have h1 : n ≤ n * (i.bytes + 1) := Nat.le_mul_of_pos_right n (by omega)
  have h2 : n * i.bytes ≤ n * (i.bytes + 1) := Nat.mul_le_mul_left n (by omega)
  refine ⟨wrap_small (by omega), by omega, ?_⟩
  rw [← Int.natCast_mul]
  omega

theorem run_app_room {t u ty e : TypeId} {i : TypeInfo} {base : Option Addr} {sLen sCap n : Nat} {x : Value} {news : Array Value} (ht : P.underlying t = some (.slice e)) (hi : P.info? e = some i)
    (hs : SrcOk P w u e x i.size i.bytes n news) (hroom : sLen + n ≤ sCap)
    (hst : ((match base with | some a => storeCells (a.add (sLen * i.size)) news.toList | none => pure ()) : Sem Unit).run P w = .ok () w') :
    (Builtin.append_ #[t, u] ty #[.slice base sLen sCap, x]).run P w = .ok (.slice base (sLen + n) sCap) w' := by
  rcases hs with ⟨d, h1, h2, h3, h4⟩ | ⟨k, kk, z, h1, rfl, h3, h4, h5, h6, rfl⟩
  · have hd : (match d with | .int _ => true | _ => false) = false := by
      cases d <;> first | rfl | exact absurd rfl (h2 _)
    have h4' := h4 w rfl
    cases base with
    | none =>
      simp only [Sem.run_pure] at hst
      cases hst
      simp [Builtin.append_, run_underlying ht, run_underlying h1, hd, sizeOf, typeInfo, hi, h3, hroom, h4']
    | some a =>
      simp [Builtin.append_, run_underlying ht, run_underlying h1, hd, sizeOf, typeInfo, hi, h3, hroom, h4', hst]
  · obtain ⟨a1, a2, a3⟩ := run_zeros_len (kk := kk) (by_ := i.bytes) e hi h3
    have happ : (if n * i.size = 0 then (pure #[] : Sem (Array Value)) else do pure (Builtin.zeroCells (← zeroValue e).cells n)).run P w = .ok (Builtin.zeroCells z.cells n) w := by
      by_cases h0 : n * i.size = 0
      · have : n = 0 := by rcases Nat.mul_eq_zero.1 h0 with q | q <;> omega
        subst this
        simp [Builtin.zeroCells]
      · simp [h0, h4]
    cases base with
    | none =>
      simp only [Sem.run_pure] at hst
      cases hst
      simp only [Builtin.append_, List.getElem?_toArray, List.getElem?_cons_zero, List.getElem?_cons_succ, Sem.run_bind, run_underlying ht w, Result.andThen_ok, run_sizeOf' (show tsz P e = some i.size by simp [tsz, hi]) w, run_underlying h1 w, Sem.run_pure,
        asInt, asIntOf, a1, a2, a3, if_true, if_false, run_typeInfo' hi w, Int.toNat_natCast, hroom, Bool.not_true, Bool.false_eq_true, happ]
    | some a =>
      simp only [Builtin.append_, List.getElem?_toArray, List.getElem?_cons_zero, List.getElem?_cons_succ, Sem.run_bind, run_underlying ht w, Result.andThen_ok, run_sizeOf' (show tsz P e = some i.size by simp [tsz, hi]) w, run_underlying h1 w, Sem.run_pure,
        asInt, asIntOf, a1, a2, a3, if_true, if_false, run_typeInfo' hi w, Int.toNat_natCast, hroom, Bool.not_true, Bool.false_eq_true, happ, hst]

theorem run_app_grow {t u ty e : TypeId} {i : TypeInfo} {z : Value} {base : Option Addr} {sLen sCap n : Nat} {x : Value} {news olds : Array Value} (ht : P.underlying t = some (.slice e)) (hi : P.info? e = some i)
    (hz : ∀ w2, (zeroValue e).run P w2 = .ok z w2) (hs : SrcOk P w u e x i.size i.bytes n news) (hn : 0 < n) (hroom : sCap < sLen + n) (hb : (sLen + n) * (i.bytes + 1) ≤ 1000000000000)
    (hold : ∀ w2 : World, w2.heap = w.heap → (Builtin.firstCells i.size sLen (.slice base sLen sCap)).run P w2 = .ok olds w2) :
    (Builtin.append_ #[t, u] ty #[.slice base sLen sCap, x]).run P w = .ok (.slice (some ⟨w.heap.size, 0, none⟩) (sLen + n) (grownCap w (sLen + n) sCap e))
      (w.drew.alloc (.cells (olds ++ news ++ Builtin.zeroCells z.cells (grownCap w (sLen + n) sCap e - (sLen + n))) e)) := by
  have hr : ¬ (sLen + n ≤ sCap) := by omega
  have b1 : sLen + n ≤ (sLen + n) * (i.bytes + 1) := Nat.le_mul_of_pos_right _ (by omega)
  have b2 : (sLen + n) * i.bytes ≤ (sLen + n) * (i.bytes + 1) := Nat.mul_le_mul_left _ (by omega)
  have h63' : ¬ (9223372036854775807 < ((sLen : Int) + (n : Int))) := by omega
  have h48 := growslice_fits (need := sLen + n) (old := sCap) (bytes := i.bytes) hroom (by omega)
  have h48' : ¬ (281474976710656 < Builtin.nextslicecap (sLen + n) sCap * i.bytes) := by omega
  have hold' := hold w.drew rfl
  rcases hs with ⟨d, h1, h2, h3, h4⟩ | ⟨k, kk, z2, h1, rfl, h3, h4, h5, h6, rfl⟩
  · have hd : (match d with | .int _ => true | _ => false) = false := by
      cases d <;> first | rfl | exact absurd rfl (h2 _)
    have h4' := h4 w.drew rfl
    simp [Builtin.append_, run_underlying ht, run_underlying h1, hd, sizeOf, typeInfo, hi, h3, hr, h4', hold', h63', h48', Question.forced, hz, newRow, grownCap]
  · have hzz : z2 = z := by
      have p := h4 w
      rw [hz w] at p
      cases p
      rfl
    subst hzz
    obtain ⟨a1, a2, a3⟩ := run_zeros_len (kk := kk) (by_ := i.bytes) e hi h3
    have happ : (if n * i.size = 0 then (pure #[] : Sem (Array Value)) else do pure (Builtin.zeroCells (← zeroValue e).cells n)).run P w.drew = .ok (Builtin.zeroCells z2.cells n) w.drew := by
      by_cases h0 : n * i.size = 0
      · have : n = 0 := by rcases Nat.mul_eq_zero.1 h0 with q | q <;> omega
        subst this
        simp [Builtin.zeroCells]
      · simp [h0, h4]
    have a3' : ¬ (281474976710656 < (n : Int) * (i.bytes : Int)) := by omega
    have h0' : n * i.size ≠ 0 := fun q => by rcases Nat.mul_eq_zero.1 q with q | q <;> omega
    simp [Builtin.append_, run_underlying ht, run_underlying h1, sizeOf, typeInfo, hi, asInt, asIntOf, a1, a2, a3', hr, hold', h63', h48', Question.forced, hz, newRow, grownCap, h0']

theorem slc_load (hr : HRel P h.obj ι w) {F g o s n : Nat} {c : Option Nat} {y : Value} {l : List AV} (hx : VRel P ι (.slc F g o s n c) y) (hl : h.load F g o (n * s) = some l) :
    ∃ a k vs, y = .slice (some a) n k ∧ VRelL P ι l vs ∧ vs.length = n * s ∧ ∀ (j : Nat) v, vs[j]? = some v → w.cell? (a.add j) = some v := by
  cases hx with
  | slc hi hs hn hm hN hc hu ha =>
    rename_i L a k
    obtain ⟨vs, r1, r2, r3⟩ := hr.load hl hi hm
    refine ⟨a, k, vs, rfl, r1, r2, ?_⟩
    by_cases hk : k = 0
    · subst hk
      have : n = 0 := by omega
      subst this
      have : vs = [] := List.eq_nil_of_length_eq_zero (by simpa using r2)
      subst this
      intro j v hj
      simp at hj
    · rw [ha hk]
      exact r3

theorem bytesAV_rel (l : List UInt8) : VRelL P ι (bytesAV l) (l.map fun b => Value.int .u8 (b.toNat : Int)) := by
  induction l with
  | nil => exact .nil
  | cons b l ih => exact .cons (.int .u8 _) ih

theorem srcF_rel (hr : HRel P h.obj ι w) {u e : TypeId} {d : TypeDesc} {v : AV} {x : Value} {sz n : Nat} {i : TypeInfo} {new : List AV} (hu : P.underlying u = some d) (hi : P.info? e = some i) (hsz : i.size = sz) (hs1 : 1 ≤ sz)
    (hz : (match v with | .int .. => isIntTy P u | _ => !isIntTy P u) = true) (hv : srcF P h e sz v = some (n, new)) (hx : VRel P ι v x) (hbig : n * (i.bytes + 1) ≤ 1000000000000) :
    ∃ news, SrcOk P w u e x i.size i.bytes n news ∧ VRelL P ι new news.toList ∧ new.length = n * sz ∧ new.all flat = true := by
  unfold srcF at hv
  split at hv
  · rename_i n' l hsrc
    split at hv
    · rename_i hfl
      cases hv
      have key : ∃ news, SrcOk P w u e x i.size i.bytes n news ∧ VRelL P ι new news.toList ∧ new.length = n * sz := by
        have hni : isIntTy P u = false → ∀ k, d ≠ .int k := by
          rintro hh k rfl
          simp [isIntTy, hu] at hh
        unfold srcA at hsrc
        split at hsrc
        · cases hsrc
          cases hx
          refine ⟨#[], .inl ⟨d, hu, hni (by simpa using hz), rfl, fun w2 _ => run_firstCells_none w2 _ _ _ _⟩, .nil, by simp⟩
        · rename_i l b
          split at hsrc
          · rename_i h1
            cases hsrc
            obtain ⟨s, rfl, rfl, rfl⟩ := str_inv hx
            have h1' : sz = 1 := Nat.eq_of_beq_eq_true h1
            refine ⟨(s.extract 0 s.data.toList.length).data.map fun b => .int .u8 b.toNat, .inl ⟨d, hu, hni (by simpa using hz), by simp [Builtin.lenOf], fun w2 _ => by simp [Builtin.firstCells]⟩, ?_, ?_⟩
            · rw [unpack_pack]
              have := bytesAV_rel (P := P) (ι := ι) s.data.toList
              simpa using this
            · rw [unpack_pack, h1']; simp [bytesAV]
          · cases hsrc
        · rename_i F g o s' n0 c
          split at hsrc
          · rename_i l0 h1 h2
            cases hsrc
            have h1' : s' = sz := Nat.eq_of_beq_eq_true h1
            subst h1'
            obtain ⟨a, k, vs, rfl, r1, r2, r3⟩ := slc_load hr hx h2
            refine ⟨vs.toArray, .inl ⟨d, hu, hni (by simpa using hz), rfl, fun w2 hw => ?_⟩, by simpa using r1, by rw [r1.length, r2]⟩
            refine run_firstCells_some w2 _ _ _ _ _ vs (by rw [r2, hsz]) (fun j v hj => ?_)
            have := r3 j v hj
            unfold World.cell? at this ⊢
            rw [hw]
            exact this
          · cases hsrc
        · rename_i k m
          split at hsrc
          · rename_i n0 z0 e1 e2
            split at hsrc
            · rename_i h1
              cases hsrc
              have h1' : z0.cells.length = sz := Nat.eq_of_beq_eq_true h1
              obtain ⟨k1, rfl⟩ := asNat_rel hx e1
              obtain ⟨zx, hzx, hzr⟩ := run_zero e2
              have hcr := cells_rel (hzr ι) (tzero_ne_junk e2)
              have hzs : zx.cells.size = sz := by rw [← h1', hcr.length]; simp
              have hui : ∃ k, P.underlying u = some (.int k) := by
                simp only [isIntTy] at hz
                split at hz
                · rename_i k hk; exact ⟨k, hk⟩
                · cases hz
              obtain ⟨ku, hku⟩ := hui
              refine ⟨Builtin.zeroCells zx.cells n, .inr ⟨ku, k1, zx, hku, rfl, hbig, hzx, by rw [hzs, hsz], by omega, rfl⟩, ?_, ?_⟩
              · exact zeros_rel hcr n (by omega)
              · rw [replicate_len, h1']
            · cases hsrc
          · cases hsrc
        · cases hsrc
      obtain ⟨news, a, b, c⟩ := key
      exact ⟨news, a, b, c, hfl⟩
    · cases hv
  · cases hv

end
end Go.Ai
