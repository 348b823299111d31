/- A part of the proof of ConsoleRuns: AiOps1. -/
import Derived.Test.YtngchkhbhcgmhaaGreatDoorAiMem
import Derived.Laws.Strings
set_option linter.unusedVariables false
set_option linter.unusedSimpArgs false
set_option linter.unusedSectionVars false
set_option linter.unnecessarySimpa false
/- Operations that only compute, and the words they use. -/
namespace Go.Ai

section
variable {P : Program} {ι κ : Emb} {w w' : World} {h h' : H}

theorem run_isAgg {t : TypeId} {b : Bool} (ht : tAgg P t = some b) (w : World) : (isAgg t).run P w = .ok b w := by
  cases hu : P.underlying t with
  | none => simp [tAgg, hu] at ht
  | some d =>
    unfold isAgg
    rw [Sem.run_bind, run_underlying hu w]
    cases d <;> simp [tAgg, hu] at ht <;> subst ht <;> rfl

theorem run_typeInfo' {t : TypeId} {i : TypeInfo} (ht : P.info? t = some i) (w : World) : (typeInfo t).run P w = .ok i w := by
  simp [typeInfo, ht]

theorem tsz_info {t : TypeId} {n : Nat} (ht : tsz P t = some n) : ∃ i, P.info? t = some i ∧ i.size = n := by
  unfold tsz at ht
  cases hi : P.info? t with
  | none => simp [hi] at ht
  | some i => exact ⟨i, rfl, by simpa [hi] using ht⟩

theorem tby_info {t : TypeId} {n : Nat} (ht : tby P t = some n) : ∃ i, P.info? t = some i ∧ i.bytes = n := by
  unfold tby at ht
  cases hi : P.info? t with
  | none => simp [hi] at ht
  | some i => exact ⟨i, rfl, by simpa [hi] using ht⟩

theorem run_sizeOf' {t : TypeId} {n : Nat} (ht : tsz P t = some n) (w : World) : (sizeOf t).run P w = .ok n w := by
  obtain ⟨i, hi, hs⟩ := tsz_info ht
  simp [sizeOf, typeInfo, hi, hs]

theorem mapM_some {α β : Type} {f : α → Option β} : ∀ {l : List α} {m : List β}, l.mapM f = some m → l.length = m.length ∧ ∀ (i : Nat) (a : α), l[i]? = some a → ∃ b, m[i]? = some b ∧ f a = some b
  | [], m, h => by simp at h; subst h; simp
  | a :: l, m, h => by
    simp only [List.mapM_cons, Option.bind_eq_bind, Option.bind_eq_some_iff, Option.pure_def, Option.some.injEq] at h
    obtain ⟨b, hb, r, hr, rfl⟩ := h
    obtain ⟨h1, h2⟩ := mapM_some hr
    refine ⟨by simp [h1], fun i x hx => ?_⟩
    cases i with
    | zero => simp at hx; subst hx; exact ⟨b, by simp, hb⟩
    | succ i => simpa using h2 i x (by simpa using hx)

theorem ofV_rel : ∀ (n : Nat) (v : Value) (av : AV), ofV n v = some av → VRel P ι av v
  | 0, _, _, h => by simp [ofV] at h
  | n + 1, v, av, h => by
    have lst : ∀ (cs : Array Value) (l : List AV), cs.toList.mapM (ofV n) = some l → VRelL P ι l cs.toList := by
      intro cs l hl
      obtain ⟨h1, h2⟩ := mapM_some hl
      refine VRelL.of_get h1.symm fun i a x ha hx => ?_
      obtain ⟨b, hb, e⟩ := h2 i x hx
      rw [ha] at hb
      cases hb
      exact ofV_rel n x a e
    unfold ofV at h
    split at h <;> first
      | (simp at h; subst h; constructor; done)
      | (simp only [Option.map_eq_some_iff] at h
         obtain ⟨l, hl, rfl⟩ := h
         first | exact .agg (lst _ l hl) | exact .tup (lst _ l hl))
      | cases h

theorem tzero_info {t : TypeId} {z : AV} (ht : tzero P t = some z) : ∃ i x, P.info? t = some i ∧ i.zero = some x ∧ ∀ ι, VRel P ι z x := by
  unfold tzero at ht
  cases hi : P.info? t with
  | none => simp [hi] at ht
  | some i =>
    cases hz : i.zero with
    | none => simp [hi, hz] at ht
    | some x => exact ⟨i, x, rfl, hz, fun ι => ofV_rel 8 x z (by simpa [hi, hz] using ht)⟩

theorem run_zero {t : TypeId} {z : AV} (ht : tzero P t = some z) : ∃ x, (∀ w, (zeroValue t).run P w = .ok x w) ∧ ∀ ι, VRel P ι z x := by
  obtain ⟨i, x, hi, hz, hx⟩ := tzero_info ht
  exact ⟨x, fun w => by simp [zeroValue, typeInfo, hi, hz], hx⟩

/-! A value's cells. -/
theorem cells_rel {v : AV} {x : Value} (hv : VRel P ι v x) (hj : v ≠ .junk) : VRelL P ι v.cells x.cells.toList := by
  cases hv <;> first
    | exact absurd rfl hj
    | (rename_i l a hl; exact hl)
    | (refine .cons ?_ .nil; constructor <;> assumption)

theorem flat_rel {v : AV} {x : Value} (hv : VRel P ι v x) (hf : flat v = true) : x.oneCell' = true ∧ x.cells = #[x] ∧ v.cells = [v] := by
  cases hv <;> simp [flat] at hf <;> exact ⟨rfl, rfl, rfl⟩

theorem flatL_rel : ∀ {l : List AV} {m : List Value}, VRelL P ι l m → l.all flat = true → ∀ x ∈ m, x.oneCell' = true
  | _, _, .nil, _, _, hx => by cases hx
  | _, _, .cons h hl, hf, x, hx => by
    simp at hf
    rcases List.mem_cons.1 hx with e | hx
    · subst e; exact (flat_rel h hf.1).1
    · exact flatL_rel hl (by simpa using hf.2) x hx

/-! Frames. -/
def TRel (P : Program) (ι : Emb) (t : Tr AV) (m : Array Value) : Prop := ∀ d v, t.get d = some v → ∃ x, m[d]? = some x ∧ VRel P ι v x
/-- package-level variables lie where the model has them -/
def GRel (P : Program) (ι : Emb) : Prop := ∀ (g : Nat) (x : Global) (n : Nat), P.globals[g]? = some x → tsz P x.type = some n → ∃ L, ι g 0 = some L ∧ L.b = g ∧ L.p = 0 ∧ n ≤ L.m

theorem TRel.mono {t : Tr AV} {m : Array Value} (ht : TRel P ι t m) (hk : Emb.le ι κ) : TRel P κ t m := fun d v e => by
  obtain ⟨x, a, b⟩ := ht d v e
  exact ⟨x, a, b.mono hk⟩
theorem GRel.mono (hg : GRel P ι) (hk : Emb.le ι κ) : GRel P κ := fun g x n a b => by
  obtain ⟨L, c, d⟩ := hg g x n a b
  exact ⟨L, hk _ _ _ c, d⟩

theorem TRel.put {t : Tr AV} {a : Act} (ht : TRel P ι t a.tmps) {d : Option Tmp} {v : AV} {x : Value} (hv : VRel P ι v x) (hd : ∀ e, d = some e → e < a.tmps.size) :
    TRel P ι (putT t d v) (a.put d x).tmps := by
  cases d with
  | none => exact ht
  | some d =>
    intro e u he
    simp only [putT, Tr.get_set] at he
    simp only [Act.put]
    by_cases hed : e = d
    · subst hed
      rw [if_pos rfl] at he
      cases he
      exact ⟨x, by simp [hd e rfl], hv⟩
    · rw [if_neg hed] at he
      obtain ⟨y, hy, hr⟩ := ht e u he
      exact ⟨y, by rw [Array.getElem?_setIfInBounds_ne (by omega)]; exact hy, hr⟩

theorem ev_rel {t : Tr AV} {a : Act} (ht : TRel P ι t a.tmps) (hg : GRel P ι) {x : Operand} {v : AV} (he : ev P t x = some v) : VRel P ι v (a.eval x) := by
  unfold ev at he
  split at he
  · rename_i n
    obtain ⟨y, hy, hr⟩ := ht n v he
    simp only [Act.eval]
    rw [Array.getD_eq_getD_getElem?, hy]
    exact hr
  · exact ofV_rel 8 _ _ he
  · rename_i g
    split at he
    · rename_i x hx
      split at he
      · rename_i n hn
        cases he
        obtain ⟨L, a, b, c, d⟩ := hg g x n hx hn
        have := VRel.ptr (P := P) (o := 0) (e := n) a (by omega)
        simpa [Act.eval, b, c] using this
      · cases he
    · cases he
  · cases he
    exact .fn .nil .nil

theorem evL_rel {e : Env} {ρ : Operand → Value} (he : ∀ x v, e x = some v → VRel P ι v (ρ x)) : ∀ (l : List Operand) (r : List AV), evL e l = some r → VRelL P ι r (l.map ρ)
  | [], r, h => by simp [evL] at h; subst h; exact .nil
  | x :: l, r, h => by
    unfold evL at h
    split at h
    · rename_i v hv
      split at h
      · rename_i r' hr
        cases h
        exact .cons (he x v hv) (evL_rel he l r' hr)
      · cases h
    · cases h

theorem evO_rel {e : Env} {ρ : Operand → Value} (he : ∀ x v, e x = some v → VRel P ι v (ρ x)) {o : Option Operand} {r : Option AV} (h : evO e o = some r) :
    (r = none ∧ o.map ρ = none) ∨ ∃ v x, r = some v ∧ o.map ρ = some x ∧ VRel P ι v x := by
  cases o with
  | none => simp [evO] at h; subst h; exact .inl ⟨rfl, rfl⟩
  | some o =>
    simp only [evO] at h
    cases hv : e o with
    | none => rw [hv] at h; cases h
    | some v =>
      rw [hv] at h
      cases h
      exact .inr ⟨v, ρ o, rfl, rfl, he o v hv⟩

/-! Numbers. -/
theorem asNat_rel {v : AV} {x : Value} {n : Nat} (hv : VRel P ι v x) (hn : asNat v = some n) : ∃ k, x = .int k (n : Int) := by
  unfold asNat at hn
  split at hn
  · split at hn
    · cases hn; cases hv; exact ⟨_, rfl⟩
    · cases hn
  · cases hn

/-! Strings. -/
theorem unpack_pack : ∀ (l : List UInt8), unpackL l.length (packL l) = l
  | [] => rfl
  | x :: l => by
    have e : packL (x :: l) = x.toNat + 256 * packL l := rfl
    have hlt : x.toNat < 256 := x.toNat_lt
    show UInt8.ofNat (packL (x :: l) % 256) :: unpackL l.length (packL (x :: l) / 256) = _
    rw [e, show (x.toNat + 256 * packL l) % 256 = x.toNat by omega, show (x.toNat + 256 * packL l) / 256 = packL l by omega, unpack_pack l]
    simp

theorem pack_lt : ∀ (l : List UInt8), packL l < 2 ^ (8 * l.length)
  | [] => by simp [packL]
  | x :: l => by
    have e : packL (x :: l) = x.toNat + 256 * packL l := rfl
    have hlt : x.toNat < 256 := x.toNat_lt
    have := pack_lt l
    rw [e, List.length_cons, show 8 * (l.length + 1) = 8 * l.length + 8 by omega, Nat.pow_add]
    omega

theorem pack_append : ∀ (l m : List UInt8), packL (l ++ m) = packL l + packL m * 2 ^ (8 * l.length)
  | [], m => by simp [packL]
  | x :: l, m => by
    have e : packL (x :: l) = x.toNat + 256 * packL l := rfl
    have e2 : packL (x :: (l ++ m)) = x.toNat + 256 * packL (l ++ m) := rfl
    rw [List.cons_append, e2, pack_append l m, e, List.length_cons, show 8 * (l.length + 1) = 8 * l.length + 8 by omega, Nat.pow_add]
    have : packL m * (2 ^ (8 * l.length) * 2 ^ 8) = 256 * (packL m * 2 ^ (8 * l.length)) := by
      rw [Nat.mul_comm 256, Nat.mul_assoc]
    omega

theorem pack_inj {l m : List UInt8} (hl : l.length = m.length) (hp : packL l = packL m) : l = m := by
  rw [← unpack_pack l, ← unpack_pack m, hl, hp]

theorem pack_drop (l : List UInt8) (k : Nat) (hk : k ≤ l.length) : packL l / 2 ^ (8 * k) = packL (l.drop k) := by
  have h1 := pack_append (l.take k) (l.drop k)
  rw [List.take_append_drop, List.length_take, Nat.min_eq_left hk] at h1
  have h2 := pack_lt (l.take k)
  rw [List.length_take, Nat.min_eq_left hk] at h2
  rw [h1, Nat.add_mul_div_right _ _ (Nat.two_pow_pos _), Nat.div_eq_of_lt h2, Nat.zero_add]

theorem pack_take (l : List UInt8) (k : Nat) (hk : k ≤ l.length) : packL l % 2 ^ (8 * k) = packL (l.take k) := by
  have h1 := pack_append (l.take k) (l.drop k)
  rw [List.take_append_drop, List.length_take, Nat.min_eq_left hk] at h1
  have h2 := pack_lt (l.take k)
  rw [List.length_take, Nat.min_eq_left hk] at h2
  rw [h1, Nat.add_mul_mod_self_right, Nat.mod_eq_of_lt h2]

theorem str_inv {l b : Nat} {x : Value} (hv : VRel P ι (.str l b) x) : ∃ s : ByteArray, x = .string s ∧ l = s.data.toList.length ∧ b = packL s.data.toList := by
  generalize ha : AV.str l b = a at hv
  cases hv <;> simp [strOf] at ha
  rename_i s
  exact ⟨s, rfl, by simpa using ha.1, ha.2⟩

theorem str_rel (s : ByteArray) {l b : Nat} (hl : l = s.data.toList.length) (hb : b = packL s.data.toList) : VRel P ι (.str l b) (.string s) := by
  subst hl; subst hb; exact .str s

end
end Go.Ai
