/- A part of the proof of ConsoleRuns: AiOps6. -/
import Derived.Test.YtngchkhbhcgmhaaGreatDoorAiOps5
set_option linter.unusedVariables false
set_option linter.unusedSimpArgs false
set_option linter.unusedSectionVars false
set_option linter.unnecessarySimpa false
/- Operations on memory: load, store, new cells. -/
namespace Go.Ai

section
variable {P : Program} {ι κ : Emb} {w w' : World} {h h' : H}

theorem loadVar_rel (hr : HRel P h.obj ι w) {t : TypeId} {F g o e : Nat} {L : Loc} {v : AV} (hv : loadVarA P h t (.ptr F g o e) = some v) (hi : ι F g = some L) (he : o + e ≤ L.m) :
    ∃ x, (loadVar t ⟨L.b, L.p + o, none⟩).run P w = .ok x w ∧ VRel P ι v x := by
  unfold loadVarA at hv
  simp only at hv
  split at hv
  · rename_i n hn ha
    split at hv
    · rename_i hle
      have hle' : n ≤ e := Nat.le_of_ble_eq_true hle
      split at hv
      · rename_i l hl
        cases hv
        obtain ⟨vs, r1, r2, r3⟩ := hr.load hl hi (by omega)
        refine ⟨.agg vs.toArray, ?_, .agg (by simpa using r1)⟩
        have := run_loadCells_list (P := P) w ⟨L.b, L.p + o, none⟩ vs r3
        rw [r2] at this
        simp only [loadVar, Sem.run_bind, run_isAgg ha w, Result.andThen_ok, if_true, run_sizeOf' hn w, this, Sem.run_pure]
      · cases hv
    · cases hv
  · rename_i n hn ha
    split at hv
    · rename_i hle
      have hle' : 1 ≤ e := Nat.le_of_ble_eq_true hle
      split at hv
      · rename_i v' hl
        cases hv
        obtain ⟨vs, r1, r2, r3⟩ := hr.load hl hi (by omega)
        match vs, r2, r1, r3 with
        | [y], _, r1, r3 =>
          have hc := r3 0 y (by simp)
          rw [addr_add] at hc
          cases r1 with
          | cons hy _ =>
          refine ⟨y, ?_, hy⟩
          simp only [Nat.add_zero] at hc
          simp only [loadVar, Sem.run_bind, run_isAgg ha w, Result.andThen_ok, Bool.false_eq_true, if_false, run_load, hc]
      · cases hv
    · cases hv
  · cases hv

theorem load_rel (hr : HRel P h.obj ι w) {t : TypeId} {p v : AV} {x : Value} (hv : loadVarA P h t p = some v) (hx : VRel P ι p x) : Gives P ι w (Instr.loadAt t x) v := by
  cases hx with
  | ptr hi he =>
    obtain ⟨y, a, b⟩ := loadVar_rel hr hv hi he
    exact Gives.of b (by simp only [Instr.loadAt, Instr.sureAddr, Sem.run_bind, Sem.run_pure, Result.andThen_ok, a])
  | _ => simp [loadVarA, strOf] at hv

theorem flat_cells_ne {v : AV} (hf : v.cells.all flat = true) : v ≠ .junk := by
  rintro rfl
  simp [AV.cells, flat] at hf

theorem storeVar_rel (hs : St P h ι w) {t : TypeId} {p v : AV} {x y : Value} (hv : storeVarA P h t p v = some h') (hx : VRel P ι p x) (hy : VRel P ι v y) : DoesU P h ι w (Instr.storeAt t x y) h' := by
  unfold storeVarA at hv
  split at hv
  · rename_i F g o e
    cases hx with
    | ptr hi he =>
    rename_i L
    split at hv
    · rename_i n hn
      split at hv
      · rename_i h1 h2 h3
        have h2' : v.cells.length = n := Nat.eq_of_beq_eq_true h2
        have hcr := cells_rel hy (flat_cells_ne h3)
        obtain ⟨w', r1, r2, r3, r4⟩ := hs.rel.store hv hi hcr (flatL_rel hcr h3) h.nx
        have hsz : y.cells.size = n := by rw [← h2', hcr.length]; simp
        refine ⟨w', ι, ?_, r2, r3, ?_, by omega, hs.fit⟩
        · simp only [Instr.storeAt, Instr.sureAddr, storeVar, Sem.run_bind, Sem.run_pure, Result.andThen_ok, run_sizeOf' hn w, hsz, ne_eq, not_true_eq_false, if_false, r1]
        · intro F' g' hF; exact hs.bd F' g' (by omega)
      · cases hv
    · cases hv
  · cases hv

/-- cells of the call's own -/
theorem new_rel (hs : St P h ι w) (f : Fam) (vs : List AV) (arr : Array Value) (fr : Nat × Nat) (w' : World) (hc : f.c = stL .lf 0 vs) (hsz : f.sz = vs.length) (hg : f.gen = 0) (hl : f.low = 0)
    (hv : VRelL P ι vs (arr.toList.take vs.length)) (hle : vs.length ≤ arr.size) (hfx : f.fix = true → arr.size = vs.length)
    (hfr : ∀ off, f.frz ≤ off → (f.sg = true → off < arr.size) → ¬ (fr.1 ≤ off ∧ off < fr.2)) (hf2 : fr.1 ≤ fr.2)
    (hw : w'.heap = w.heap.push (.cells arr f.elem fr)) (hos : w'.os = w.os) (htp : w'.tape = w.tape) (hout : w'.output = w.output) :
    Done P h ι w (h.new (.cells f)) (upd ι h.nx 0 ⟨w.heap.size, 0, vs.length, arr.size⟩) w' := by
  have hle' : Emb.le ι (upd ι h.nx 0 ⟨w.heap.size, 0, vs.length, arr.size⟩) := upd_le ι _ (hs.bd h.nx 0 (Nat.le_refl _))
  obtain ⟨r1, r2, r3⟩ := hs.rel.push hs.bd (.cells f) (.cells arr f.elem fr) ⟨w.heap.size, 0, vs.length, arr.size⟩ rfl w' hw hos htp hout
    (fun f' e => by
      cases e
      refine ⟨hg, hl, ⟨⟨arr, fr, by rw [hw]; simp, rfl, ?_, ?_, hf2⟩, ?_, ?_⟩, hsz.symm⟩
      · intro i hi
        have hi' : i < vs.length := hi
        obtain ⟨x, a, b⟩ := hv.get i _ (List.getElem?_eq_getElem hi')
        refine ⟨vs[i], x, ?_, ?_, b.mono hle'⟩
        · rw [hc, get_stL, if_pos (by omega)]
          simp [hi']
        · rw [List.getElem?_take_of_lt hi'] at a
          simpa using a
      · intro off h1 h2; exact hfr off (by have : 0 + f.frz ≤ off := h1; omega) h2
      · show 0 + vs.length ≤ arr.size; omega
      · intro e
        exact ⟨rfl, by rw [hsz]; exact hfx e⟩)
    (fun _ _ e => by cases e) (fun _ _ _ e => by cases e) (fun _ _ _ _ e => by cases e)
  refine ⟨r1, r2, r3, Nat.le_succ _, ?_⟩
  intro F g L e
  unfold upd at e
  split at e
  · cases e
    show 0 + vs.length ≤ arr.size
    omega
  · exact hs.fit F g L e

theorem box_rel (hs : St P h ι w) {t : TypeId} {v r : AV} {y : Value} (hb : boxA h t v = some (r, h')) (hy : VRel P ι v y) :
    ∃ w' κ, (newVar t y).run P w = .ok ⟨w.heap.size, 0, none⟩ w' ∧ VRel P κ r (.pointer (some ⟨w.heap.size, 0, none⟩)) ∧ Done P h ι w h' κ w' := by
  have hj : v ≠ .junk := by rintro rfl; simp [boxA] at hb
  have hb' : r = .ptr h.nx 0 0 v.cells.length ∧ h' = h.new (.cells (mkFam t v.cells)) := by
    unfold boxA at hb
    split at hb
    · exact absurd rfl hj
    · cases hb; exact ⟨rfl, rfl⟩
  obtain ⟨rfl, rfl⟩ := hb'
  have hcr := cells_rel hy hj
  have hlen := hcr.length
  have hsz : y.cells.size = v.cells.length := by rw [hlen]; simp
  have hd := new_rel hs (mkFam t v.cells) v.cells y.cells (0, 0) { w with heap := w.heap.push (.cells y.cells t) } rfl rfl rfl rfl
    (by rw [List.take_of_length_le (by rw [hlen]; exact Nat.le_refl _)]; exact hcr) (by omega) (fun _ => hsz) (fun off _ _ hh => by simp at hh) (Nat.le_refl _) rfl rfl rfl rfl
  refine ⟨_, _, ?_, ?_, hd⟩
  · simp only [newVar, newRow, Sem.run_bind, run_newObj, Result.andThen_ok, Sem.run_pure]
  · have := VRel.ptr (P := P) (o := 0) (e := v.cells.length) (upd_self ι h.nx 0 ⟨w.heap.size, 0, v.cells.length, y.cells.size⟩) (by simp)
    simpa using this

theorem replicate_get (l : List AV) : ∀ (n i : Nat), i < n * l.length → (replicateL l n)[i]? = l[i % l.length]?
  | 0, i, h => by omega
  | n + 1, i, h => by
    unfold replicateL
    by_cases hi : i < l.length
    · rw [List.getElem?_append_left hi, Nat.mod_eq_of_lt hi]
    · rw [List.getElem?_append_right (by omega), replicate_get l n (i - l.length) (by rw [Nat.add_mul] at h; omega)]
      congr 1
      rw [← Nat.mod_eq_sub_mod (by omega)]
theorem replicate_len (l : List AV) : ∀ n, (replicateL l n).length = n * l.length
  | 0 => by simp [replicateL]
  | n + 1 => by simp [replicateL, replicate_len l n, Nat.add_mul]; omega

/-- a row of zero values -/
theorem zeros_rel {zc : List AV} {za : Array Value} (hz : VRelL P ι zc za.toList) (n : Nat) (hn : 0 < zc.length) :
    VRelL P ι (replicateL zc n) ((Array.range (n * za.size)).map (fun i => za[i % za.size]!)).toList := by
  have hlen : zc.length = za.size := by rw [hz.length]; simp
  refine VRelL.of_get (by rw [replicate_len]; simp [hlen]) ?_
  intro i v x h1 h2
  have hi : i < n * zc.length := by
    have := (List.getElem?_eq_some_iff.1 h1).1
    rwa [replicate_len] at this
  rw [replicate_get zc n i hi] at h1
  have hm : i % za.size < za.size := Nat.mod_lt _ (by omega)
  rw [hlen] at h1
  obtain ⟨y, a, b⟩ := hz.get _ _ h1
  have hx : ((Array.range (n * za.size)).map (fun i => za[i % za.size]!)).toList[i]? = some (za[i % za.size]!) := by
    rw [Array.getElem?_toList, Array.getElem?_map, Array.getElem?_range]
    rw [hlen] at hi
    simp [hi]
  rw [hx] at h2
  cases h2
  have : za[i % za.size]! = y := by
    have hy : za[i % za.size]? = some y := by simpa using a
    rw [Array.getElem!_eq_getD, Array.getD_eq_getD_getElem?, hy]
    rfl
  rw [this]
  exact b

theorem wrap_small {n : Nat} (hn : n ≤ 1000000000000) : IntKind.i64.wrap (n : Int) = n := by
  unfold IntKind.wrap
  have h64 : (2 ^ IntKind.i64.bits : Int) = 18446744073709551616 := by decide
  have h63 : (2 ^ (IntKind.i64.bits - 1) : Int) = 9223372036854775808 := by decide
  simp only [h64, h63]
  have : (n : Int) % 18446744073709551616 = n := by omega
  rw [this]
  have : ¬ ((n : Int) ≥ 9223372036854775808) := by omega
  simp [this]

theorem makeSlice_rel (hs : St P h ι w) {t : TypeId} {l c r : AV} {x y : Value} (hv : makeSliceA P h t l c = some (r, h')) (hx : VRel P ι l x) (hy : VRel P ι c y) : Does P h ι w (Instr.makeSlice t x y) r h' := by
  unfold makeSliceA at hv
  split at hv
  · rename_i el hu
    split at hv
    · rename_i l' c' s by_ z e1 e2 hsz hby hz
      obtain ⟨k1, rfl⟩ := asNat_rel hx e1
      obtain ⟨k2, rfl⟩ := asNat_rel hy e2
      split at hv
      · rename_i hc
        cases hv
        simp only [Bool.and_eq_true] at hc
        obtain ⟨⟨⟨c1, c2⟩, c3⟩, c4⟩ := hc
        have c1' : l' ≤ c' := Nat.le_of_ble_eq_true c1
        have c2' : c' * (by_ + 1) ≤ 1000000000000 := Nat.le_of_ble_eq_true c2
        have c3' : z.cells.length = s := Nat.eq_of_beq_eq_true c3
        have c4' : 1 ≤ s := Nat.le_of_ble_eq_true c4
        have hcb : c' ≤ c' * (by_ + 1) := Nat.le_mul_of_pos_right c' (by omega)
        have hcb2 : c' * by_ ≤ c' * (by_ + 1) := Nat.mul_le_mul_left c' (by omega)
        obtain ⟨zx, hzx, hzr⟩ := run_zero hz
        have hcr := cells_rel (hzr ι) (tzero_ne_junk hz)
        have hzs : zx.cells.size = s := by rw [← c3', hcr.length]; simp
        obtain ⟨i, hi, hib⟩ := tby_info hby
        have wl := wrap_small (n := l') (by omega)
        have wc := wrap_small (n := c') (by omega)
        have hrow : ∃ arr : Array Value, ((c' * s = 0 ∧ arr = #[]) ∨ (c' * s ≠ 0 ∧ arr = zx.cells)) ∧
            VRelL P ι (replicateL z.cells c') ((Array.range (c' * s)).map (fun i => arr[i % arr.size]!)).toList := by
          by_cases h0 : c' * s = 0
          · have hc0 : c' = 0 := by
              rcases Nat.mul_eq_zero.1 h0 with e | e <;> omega
            subst hc0
            exact ⟨#[], .inl ⟨h0, rfl⟩, by simp [replicateL]; exact .nil⟩
          · refine ⟨zx.cells, .inr ⟨h0, rfl⟩, ?_⟩
            have hq := zeros_rel hcr c' (by omega)
            have hq2 : c' * zx.cells.size = c' * s := by rw [hzs]
            rwa [hq2] at hq
            
        obtain ⟨arr, ha, hrel⟩ := hrow
        have hlen := hrel.length
        have hd := new_rel hs (mkFam el (replicateL z.cells c')) (replicateL z.cells c') ((Array.range (c' * s)).map (fun i => arr[i % arr.size]!)) (0, 0)
          { w with heap := w.heap.push (.cells ((Array.range (c' * s)).map (fun i => arr[i % arr.size]!)) el) } rfl rfl rfl rfl
          (by rw [List.take_of_length_le (by rw [hlen]; exact Nat.le_refl _)]; exact hrel) (by rw [hlen]; simp) (fun _ => by rw [hlen]; simp) (fun off _ _ hh => by simp at hh) (Nat.le_refl _) rfl rfl rfl rfl
        have hNs : (replicateL z.cells c').length = c' * s := by rw [replicate_len, c3']
        refine ⟨.slice (some ⟨w.heap.size, 0, none⟩) l' c', _, _, ?_, ?_, hd⟩
        · have t1 : (decide ((c' : Int) < 0) || decide ((by_ : Int) * (c' : Int) > 2 ^ 48)) = false := by
            have hmul : ((by_ : Int) * (c' : Int)) = ((c' * by_ : Nat) : Int) := by rw [Nat.mul_comm]; exact (Int.natCast_mul _ _).symm
            rw [hmul]
            simp
            omega
          have t2 : ((l' : Int) < 0) = False := by simp
          have t3 : ((l' : Int) > (c' : Int)) = False := by simp; omega
          simp only [Instr.makeSlice, Sem.run_bind, run_underlying hu w, Result.andThen_ok, asInt, asIntOf, Sem.run_pure, run_typeInfo' hi w, wl, wc, hib, t1, t2, t3, Bool.false_or, decide_false, Bool.or_false,
            Bool.false_eq_true, if_false, run_askRoom, Int.toNat_natCast, run_sizeOf' hsz w]
          rcases ha with ⟨h0, rfl⟩ | ⟨h0, rfl⟩
          · simp only [h0, if_true, newRow, Sem.run_bind, Sem.run_pure, run_newObj, Result.andThen_ok]
          · simp only [h0, if_false, newRow, Sem.run_bind, Sem.run_pure, run_newObj, Result.andThen_ok, hzx w]
        · exact VRel.slc (upd_self _ _ _ _) c4' c1' (by
              show 0 + l' * s ≤ (replicateL z.cells c').length
              have := Nat.mul_le_mul_right s c1'
              omega) (by simp) (fun q hq => by
              cases hq
              refine ⟨rfl, ?_⟩
              show 0 + c' * s ≤ (replicateL z.cells c').length
              omega) (fun hq => by cases hq) (fun _ => rfl)
      · cases hv
    · cases hv
  · cases hv

theorem buildSlice_rel (hs : St P h ι w) {t : TypeId} {n : Nat} {e : Env} {ρ : Operand → Value} {ps : Array (Nat × Operand)} {l : List (Nat × AV)} {r : AV} (he : ∀ x v, e x = some v → VRel P ι v (ρ x))
    (hl : evP e ps.toList = some l) (hv : buildSliceA P h t n l = some (r, h')) : Does P h ι w (Instr.buildSlice t n (ps.map fun (i, x) => (i, ρ x))) r h' := by
  obtain ⟨q1, q2⟩ := evP_rel he _ _ hl
  have hlist : (ps.map fun (i, x) => (i, ρ x)).toList = ps.toList.map fun (i, x) => (i, ρ x) := by simp
  unfold buildSliceA at hv
  split at hv
  · rename_i el hu
    split at hv
    · rename_i s z hsz hz
      split at hv
      · rename_i cs hc hf
        cases hv
        simp only [Bool.and_eq_true] at hc
        obtain ⟨⟨⟨c1, c2⟩, c3⟩, c4⟩ := hc
        have c1' : n * s ≤ 1000000 := Nat.le_of_ble_eq_true c1
        have c2' : z.cells.length = s := Nat.eq_of_beq_eq_true c2
        have c3' : 1 ≤ s := Nat.le_of_ble_eq_true c3
        obtain ⟨zx, hzx, hzr⟩ := run_zero hz
        have hcr := cells_rel (hzr ι) (tzero_ne_junk hz)
        have hzs : zx.cells.size = s := by rw [← c2', hcr.length]; simp
        have hrow : ∃ arr : Array Value, ((n * s = 0 ∧ arr = #[]) ∨ (n * s ≠ 0 ∧ arr = zx.cells)) ∧
            VRelL P ι (replicateL z.cells n) ((Array.range (n * s)).map (fun i => arr[i % arr.size]!)).toList := by
          by_cases h0 : n * s = 0
          · have hc0 : n = 0 := by
              rcases Nat.mul_eq_zero.1 h0 with e | e <;> omega
            subst hc0
            exact ⟨#[], .inl ⟨h0, rfl⟩, by simp [replicateL]; exact .nil⟩
          · refine ⟨zx.cells, .inr ⟨h0, rfl⟩, ?_⟩
            have hq := zeros_rel hcr n (by omega)
            have hq2 : n * zx.cells.size = n * s := by rw [hzs]
            rwa [hq2] at hq
        obtain ⟨arr, ha, hrel⟩ := hrow
        obtain ⟨m', r1, r2⟩ := fill_rel (place' := fun i => some (i * s, s)) (fun i a ha => ha) l (ps.toList.map fun (i, x) => (i, ρ x)) _ _ _ hf hrel q1
          (fun j p q a b => ⟨(q2 j p q a b).1, (q2 j p q a b).2, noJunk_ne c4 a⟩)
        have hlen := r2.length
        have hd := new_rel hs (mkFam el cs) cs m' (0, 0) { w with heap := w.heap.push (.cells m' el) } rfl rfl rfl rfl
          (by rw [List.take_of_length_le (by rw [hlen]; exact Nat.le_refl _)]; exact r2) (by rw [hlen]; simp) (fun _ => by rw [hlen]; simp) (fun off _ _ hh => by simp at hh) (Nat.le_refl _) rfl rfl rfl rfl
        have hfl : cs.length = n * s := by
          have : ∀ (ps : List (Nat × AV)) (cs r : List AV), fillA (fun i => some (Nat.mul i s, s)) cs ps = some r → r.length = cs.length := by
            intro ps
            induction ps with
            | nil => intro cs r hh; simp [fillA] at hh; subst hh; rfl
            | cons p ps ih =>
              intro cs r hh
              obtain ⟨i, v⟩ := p
              unfold fillA at hh
              simp only at hh
              split at hh
              · split at hh
                · rename_i cs' hcs
                  rw [ih cs' r hh]
                  obtain ⟨a1, a2⟩ := putAt_eq _ _ _ _ hcs
                  rw [a2]
                  simp only [List.length_append, List.length_take, List.length_drop]
                  omega
                · cases hh
              · cases hh
          rw [this _ _ _ hf, replicate_len, c2']
        have hms : m'.size = n * s := by rw [← hfl, hlen]; simp
        refine ⟨.slice (some ⟨w.heap.size, 0, none⟩) n n, _, _, ?_, ?_, hd⟩
        · have h24 : ¬ (n * s > 2 ^ 24) := by omega
          simp only [Instr.buildSlice, Sem.run_bind, run_underlying hu w, Result.andThen_ok, run_sizeOf' hsz w, h24, if_false, Sem.run_pure, hlist]
          have r1' : Instr.fill (fun i => some (i * s, s)) ((Array.range (n * s)).map (fun x => arr[x % arr.size]!)) (ps.toList.map fun (i, x) => (i, ρ x)) = some m' := r1
          rcases ha with ⟨h0, rfl⟩ | ⟨h0, rfl⟩
          · simp only [h0, if_true] at r1' ⊢
            simp only [r1', newRow, Sem.run_bind, run_newObj, Result.andThen_ok, Sem.run_pure]
          · simp only [h0, if_false, hzx w, Sem.run_bind, Result.andThen_ok, Sem.run_pure, r1', newRow, run_newObj]
        · exact VRel.slc (upd_self _ _ _ _) c3' (Nat.le_refl _) (by
              show 0 + n * s ≤ cs.length
              omega) (by show 0 + 0 + n * s ≤ m'.size; omega) (fun q hq => by
              cases hq
              refine ⟨rfl, ?_⟩
              show 0 + n * s ≤ cs.length
              omega) (fun hq => by cases hq) (fun _ => rfl)
      · cases hv
    · cases hv
  · cases hv

end
end Go.Ai
