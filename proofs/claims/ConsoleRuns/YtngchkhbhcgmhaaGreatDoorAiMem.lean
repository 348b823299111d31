/- A part of the proof of ConsoleRuns: AiMem. -/
import Derived.Test.YtngchkhbhcgmhaaGreatDoorAiRel
set_option linter.unusedVariables false
set_option linter.unusedSimpArgs false
set_option linter.unusedSectionVars false
set_option linter.unnecessarySimpa false
/- Memory: the relation between the interpreter's heap and the model's world; a load, a store, a new block. -/
namespace Go.Ai

section
variable (P : Program)

/-- a family's cells at one of its places -/
structure LocOk (ι : Emb) (w : World) (f : Fam) (L : Loc) : Prop where
  ex : ∃ arr fr, w.heap[L.b]? = some (.cells arr f.elem fr) ∧ arr.size = L.N ∧
    (∀ i, i < L.m → ∃ av v, f.c.get i = some av ∧ arr[L.p + i]? = some v ∧ VRel P ι av v) ∧
    (∀ off, L.p + f.frz ≤ off → (f.sg = true → off < L.N) → ¬ (fr.1 ≤ off ∧ off < fr.2)) ∧ fr.1 ≤ fr.2
  fit : L.p + L.m ≤ L.N
  fix : f.fix = true → L.p = 0 ∧ L.N = f.sz

inductive EntsRel (ι : Emb) : List Ent → List MapEntry → Prop
  | nil : EntsRel ι [] []
  | cons {e : Ent} {c : MapEntry} {l : List Ent} {m : List MapEntry} (hk : VRel P ι e.1 c.key) (hv : VRel P ι e.2.1 c.val) (hb : e.2.2 = c.born) (hl : EntsRel ι l m) : EntsRel ι (e :: l) (c :: m)

/-- an object's own place -/
def Own (ob : Nat → Option AO) (ι : Emb) (F : Nat) (L : Loc) : Prop :=
  (∃ f g, ob F = some (.cells f) ∧ f.low ≤ g ∧ g ≤ f.gen ∧ ι F g = some L) ∨
  ((∀ f, ob F ≠ some (.cells f)) ∧ ob F ≠ none ∧ ι F 0 = some L)

def Ro (ob : Nat → Option AO) (F : Nat) : Prop := ∃ f, ob F = some (.cells f) ∧ f.ro = true

structure HRel (ob : Nat → Option AO) (ι : Emb) (w : World) : Prop where
  cells : ∀ F f, ob F = some (.cells f) → ι F 0 ≠ none → ∀ g, f.low ≤ g → g ≤ f.gen →
    ∃ L, ι F g = some L ∧ LocOk P ι w f L ∧ L.m ≤ f.sz ∧ (g = f.gen → L.m = f.sz) ∧ (g < f.gen → L.m ≤ f.old)
  sameP : ∀ F f g g' L L', ob F = some (.cells f) → f.low ≤ g → g ≤ f.gen → f.low ≤ g' → g' ≤ f.gen → ι F g = some L → ι F g' = some L' → L.b = L'.b → L.p = L'.p
  map : ∀ F es ck L, ob F = some (.map es ck) → ι F 0 = some L → ∃ ces, w.heap[L.b]? = some (.map ces ck) ∧ EntsRel P ι es ces.toList
  siter : ∀ F l b p L, ob F = some (.strIter l b p) → ι F 0 = some L → L.p = 0 ∧ ∃ s : ByteArray, w.heap[L.b]? = some (.stringIter s p) ∧ strOf s.data.toList = .str l b
  miter : ∀ F m a b c, ob F ≠ some (.mapIter m a b c)
  dis : ∀ F F' L L', Own ob ι F L → Own ob ι F' L' → L.b = L'.b → F = F'
  gens : ∀ F f g, ob F = some (.cells f) → f.gen < g → ι F g = none
  root : ∀ F g L, ι F g = some L → ι F 0 ≠ none
  emb : ∀ F o, ob F = some o → ι F 0 ≠ none

def WOwn (ob : Nat → Option AO) (ι : Emb) (b : Nat) : Prop := ∃ F L, Own ob ι F L ∧ L.b = b ∧ ¬ Ro ob F

/-- a block that something alive owns -/
def AOwn (ob : Nat → Option AO) (ι : Emb) (b : Nat) : Prop := ∃ F L, Own ob ι F L ∧ L.b = b

structure Grow (ob : Nat → Option AO) (ι : Emb) (nx : Nat) (w : World) (ob' : Nat → Option AO) (ι' : Emb) (w' : World) : Prop where
  le : Emb.le ι ι'
  fresh : ∀ F, ι F 0 = none → ι' F 0 ≠ none → nx ≤ F
  os : w'.os = w.os
  tape : w'.tape = w.tape
  output : w'.output = w.output
  size : w.heap.size ≤ w'.heap.size
  keep : ∀ b, b < w.heap.size → ¬ WOwn ob ι b → w'.heap[b]? = w.heap[b]?
  wown : ∀ b, b < w.heap.size → WOwn ob' ι' b → WOwn ob ι b
  own : ∀ b, b < w.heap.size → AOwn ob' ι' b → AOwn ob ι b
  absent : ∀ F, F < nx → ob F = none → ob' F = none ∧ ∀ g, ι' F g = ι F g

/-- no object beyond the next number -/
def Bd (h : H) (ι : Emb) : Prop := ∀ F g, h.nx ≤ F → ι F g = none

end

section
variable {P : Program} {ι κ μ : Emb} {w w' w'' : World} {ob ob' ob'' : Nat → Option AO} {h h' : H}

theorem Grow.refl (ob : Nat → Option AO) (ι : Emb) (nx : Nat) (w : World) : Grow ob ι nx w ob ι w :=
  ⟨.refl _, fun _ a b => absurd a b, rfl, rfl, rfl, Nat.le_refl _, fun _ _ _ => rfl, fun _ _ h => h, fun _ _ h => h, fun _ _ h => ⟨h, fun _ => rfl⟩⟩

theorem Grow.trans {nx nx' : Nat} (h : Grow ob ι nx w ob' κ w') (h' : Grow ob' κ nx' w' ob'' μ w'') (hn : nx ≤ nx') : Grow ob ι nx w ob'' μ w'' where
  le := h.le.trans h'.le
  fresh F a b := by
    by_cases hk : κ F 0 = none
    · exact Nat.le_trans hn (h'.fresh F hk b)
    · exact h.fresh F a hk
  os := h'.os.trans h.os
  tape := h'.tape.trans h.tape
  output := h'.output.trans h.output
  size := Nat.le_trans h.size h'.size
  keep b hb hw := by
    rw [h'.keep b (Nat.lt_of_lt_of_le hb h.size) (fun hw' => hw (h.wown b hb hw')), h.keep b hb hw]
  wown b hb hw := h.wown b hb (h'.wown b (Nat.lt_of_lt_of_le hb h.size) hw)
  own b hb hw := h.own b hb (h'.own b (Nat.lt_of_lt_of_le hb h.size) hw)
  absent F hF ho := by
    obtain ⟨a, b⟩ := h.absent F hF ho
    obtain ⟨c, d⟩ := h'.absent F (Nat.lt_of_lt_of_le hF hn) a
    exact ⟨c, fun g => (d g).trans (b g)⟩

/-- a world that differs in its draws alone -/
theorem HRel.of_heap (hr : HRel P ob ι w) (he : w'.heap = w.heap) : HRel P ob ι w' where
  cells F f ho hp g h1 h2 := by
    obtain ⟨L, a, ⟨b1, b2, b3⟩, c⟩ := hr.cells F f ho hp g h1 h2
    exact ⟨L, a, ⟨by rw [he]; exact b1, b2, b3⟩, c⟩
  sameP := hr.sameP
  map F es ck L ho hl := by rw [he]; exact hr.map F es ck L ho hl
  siter F l b p L ho hl := by rw [he]; exact hr.siter F l b p L ho hl
  miter := hr.miter
  dis := hr.dis
  gens := hr.gens
  root := hr.root
  emb := hr.emb

theorem Grow.of_heap (he : w'.heap = w.heap) (ho : w'.os = w.os) (ht : w'.tape = w.tape) (hu : w'.output = w.output) (ob : Nat → Option AO) (ι : Emb) (nx : Nat) : Grow ob ι nx w ob ι w' :=
  ⟨.refl _, fun _ a b => absurd a b, ho, ht, hu, by rw [he]; exact Nat.le_refl _, fun _ _ _ => by rw [he], fun _ _ h => h, fun _ _ h => h, fun _ _ h => ⟨h, fun _ => rfl⟩⟩

theorem H.fam_some {F g : Nat} {f : Fam} (hf : h.fam F g = some f) : h.obj F = some (.cells f) ∧ f.low ≤ g ∧ g ≤ f.gen := by
  unfold H.fam at hf
  split at hf
  · rename_i f' ho
    split at hf
    · rename_i h1
      split at hf
      · rename_i h2
        simp at hf
        subst hf
        exact ⟨ho, Nat.le_of_ble_eq_true h1, Nat.le_of_ble_eq_true h2⟩
      · cases hf
    · cases hf
  · cases hf

/-- what is known of a place that a value names and that is alive -/
theorem HRel.at (hr : HRel P h.obj ι w) {F g : Nat} {f : Fam} {L : Loc} (hf : h.fam F g = some f) (hl : ι F g = some L) :
    h.obj F = some (.cells f) ∧ f.low ≤ g ∧ g ≤ f.gen ∧ LocOk P ι w f L ∧ L.m ≤ f.sz ∧ (g = f.gen → L.m = f.sz) ∧ (g < f.gen → L.m ≤ f.old) ∧ Own h.obj ι F L := by
  obtain ⟨ho, h1, h2⟩ := H.fam_some hf
  obtain ⟨L', e, a, b, c, d⟩ := hr.cells F f ho (hr.root F g L hl) g h1 h2
  rw [hl] at e
  cases e
  exact ⟨ho, h1, h2, a, b, c, d, .inl ⟨f, g, ho, h1, h2, hl⟩⟩

theorem addr_add (b o j : Nat) : (⟨b, o, none⟩ : Addr).add j = ⟨b, o + j, none⟩ := by
  unfold Addr.add; split <;> simp_all

theorem cell_of (w : World) (b o : Nat) {arr : Array Value} {el : TypeId} {fr : Nat × Nat} (hg : w.heap[b]? = some (.cells arr el fr)) : w.cell? ⟨b, o, none⟩ = arr[o]? := by
  simp [World.cell?, hg]

theorem LocOk.load {f : Fam} {L : Loc} (hk : LocOk P ι w f L) {o n : Nat} {l : List AV} (hl : ldN f.c o n = some l) (hm : o + n ≤ L.m) :
    ∃ vs : List Value, VRelL P ι l vs ∧ vs.length = n ∧ ∀ j v, vs[j]? = some v → w.cell? ((⟨L.b, L.p + o, none⟩ : Addr).add j) = some v := by
  obtain ⟨arr, fr, hg, hsz, hc, _⟩ := hk.ex
  obtain ⟨hlen, hget⟩ := ldN_some _ _ _ _ hl
  have fit := hk.fit
  refine ⟨(arr.toList.drop (L.p + o)).take n, ?_, ?_, ?_⟩
  · refine VRelL.of_get ?_ ?_
    · rw [hlen]; simp; omega
    · intro i v x h1 h2
      have hi : i < n := by
        rw [← hlen]
        exact (List.getElem?_eq_some_iff.1 h1).1
      obtain ⟨av, v', a, b, c⟩ := hc (o + i) (by omega)
      rw [hget i hi, h1] at a
      cases a
      rw [List.getElem?_take_of_lt hi, List.getElem?_drop] at h2
      rw [Array.getElem?_toList, show L.p + o + i = L.p + (o + i) by omega, b] at h2
      cases h2
      exact c
  · simp; omega
  · intro j v hv
    rw [addr_add, cell_of w _ _ hg]
    have hj : j < n := by
      have := (List.getElem?_eq_some_iff.1 hv).1
      simp at this
      omega
    rw [List.getElem?_take_of_lt hj, List.getElem?_drop, Array.getElem?_toList] at hv
    exact hv

/-- a load off the heap -/
theorem HRel.load (hr : HRel P h.obj ι w) {F g o n : Nat} {l : List AV} {L : Loc} (hl : h.load F g o n = some l) (hi : ι F g = some L) (hm : o + n ≤ L.m) :
    ∃ vs : List Value, VRelL P ι l vs ∧ vs.length = n ∧ ∀ j v, vs[j]? = some v → w.cell? ((⟨L.b, L.p + o, none⟩ : Addr).add j) = some v := by
  unfold H.load at hl
  split at hl
  · rename_i f hf
    exact (hr.at hf hi).2.2.2.1.load hl hm
  · cases hl

/-- cells stored one after the other -/
theorem run_storeA (b o : Nat) : ∀ (vs : List Value) (i : Nat) (w : World) (arr : Array Value) (el : TypeId) (fr : Nat × Nat),
    w.heap[b]? = some (.cells arr el fr) → o + i + vs.length ≤ arr.size → (∀ j, j < vs.length → ¬ (fr.1 ≤ o + i + j ∧ o + i + j < fr.2)) → (∀ v ∈ vs, v.oneCell' = true) →
    ∃ (w' : World) (arr' : Array Value), (storeCells ⟨b, o, none⟩ vs i).run P w = .ok () w' ∧ w'.heap[b]? = some (.cells arr' el fr) ∧ arr'.size = arr.size ∧
      (∀ k, arr'[k]? = if o + i ≤ k ∧ k < o + i + vs.length then vs[k - (o + i)]? else arr[k]?) ∧ (∀ c, c ≠ b → w'.heap[c]? = w.heap[c]?) ∧ w'.heap.size = w.heap.size ∧
      w'.os = w.os ∧ w'.tape = w.tape ∧ w'.output = w.output
  | [], i, w, arr, el, fr, hg, _, _, _ => ⟨w, arr, rfl, hg, rfl, fun k => by rw [if_neg (fun hh => by have h1 := hh.1; have h2 := hh.2; simp at h2; omega)], fun _ _ => rfl, rfl, rfl, rfl, rfl⟩
  | v :: r, i, w, arr, el, fr, hg, hs, hf, h1 => by
    simp only [List.length_cons] at hs hf
    have hlt : b < w.heap.size := (Array.getElem?_eq_some_iff.1 hg).1
    have hc : w.cell? ⟨b, o + i, none⟩ = some (arr[o + i]'(by omega)) := by rw [cell_of w _ _ hg]; exact Array.getElem?_eq_getElem (by omega)
    have hfz : w.frozen? ⟨b, o + i, none⟩ = false := by
      have := hf 0 (by omega)
      simp only [World.frozen?, hg, Nat.add_zero] at this ⊢
      simpa using this
    have hst : (store ((⟨b, o, none⟩ : Addr).add i) v).run P w = .ok () (w.setCell ⟨b, o + i, none⟩ v) := by
      rw [addr_add, run_store P w _ v _ (h1 v (by simp)), hc, hfz]
      rfl
    have hg1 : (w.setCell ⟨b, o + i, none⟩ v).heap[b]? = some (.cells (arr.setIfInBounds (o + i) v) el fr) := by
      simp only [World.setCell, Array.getElem?_modify, if_pos, hg]
      simp
    have hoth : ∀ c, c ≠ b → (w.setCell ⟨b, o + i, none⟩ v).heap[c]? = w.heap[c]? := by
      intro c hcb
      simp only [World.setCell, Array.getElem?_modify]
      rw [if_neg (fun e => hcb e.symm)]
    obtain ⟨w', arr', a1, a2, a3, a4, a5, a6, a7, a8, a9⟩ := run_storeA b o r (i + 1) (w.setCell ⟨b, o + i, none⟩ v) _ el fr hg1 (by simp; omega)
      (fun j hj => by have := hf (j + 1) (by omega); rwa [show o + i + (j + 1) = o + (i + 1) + j by omega] at this) (fun u hu => h1 u (by simp [hu]))
    refine ⟨w', arr', ?_, a2, by simpa using a3, ?_, fun c hcb => (a5 c hcb).trans (hoth c hcb), by simpa [World.setCell] using a6, a7, a8, a9⟩
    · simp only [storeCells, Sem.run_bind, hst, Result.andThen_ok, a1]
    · intro k
      rw [a4 k]
      by_cases hk : o + (i + 1) ≤ k ∧ k < o + (i + 1) + r.length
      · rw [if_pos hk, if_pos (by simp; omega), show k - (o + i) = (k - (o + (i + 1))) + 1 by omega]
        simp
      · rw [if_neg hk]
        by_cases hk2 : k = o + i
        · subst hk2
          rw [if_pos (by simp), Array.getElem?_setIfInBounds_self_of_lt (by omega)]
          simp
        · rw [if_neg (by simp; omega), Array.getElem?_setIfInBounds_ne (by omega)]


theorem obj_put (h : H) (F F' : Nat) (o : AO) : (h.put F o).obj F' = if F' = F then some o else h.obj F' := Tr.get_set _ _ _ _
theorem obj_new (h : H) (F' : Nat) (o : AO) : (h.new o).obj F' = if F' = h.nx then some o else h.obj F' := Tr.get_set _ _ _ _
theorem obj_put_self (h : H) (F : Nat) (o : AO) : (h.put F o).obj F = some o := by rw [obj_put, if_pos rfl]
theorem obj_put_ne (h : H) {F F' : Nat} (o : AO) (hn : F' ≠ F) : (h.put F o).obj F' = h.obj F' := by rw [obj_put, if_neg hn]

/-- a family narrowed: what is alive of it was so -/
theorem Own.put {F : Nat} {f f' : Fam} {L : Loc} {F' : Nat} (ho : h.obj F = some (.cells f)) (hl : f.low ≤ f'.low) (hg : f'.gen = f.gen) (hw : Own (h.put F (.cells f')).obj ι F' L) : Own h.obj ι F' L := by
  by_cases hF : F' = F
  · subst hF
    rcases hw with ⟨f1, g1, e, a, b, c⟩ | ⟨e, _, _⟩
    · rw [obj_put_self] at e
      cases e
      exact .inl ⟨f, g1, ho, by omega, by omega, c⟩
    · exact absurd (obj_put_self h F' _) (e f')
  · rcases hw with ⟨f1, g1, e, a, b, c⟩ | ⟨e, e2, c⟩
    · rw [obj_put_ne h _ hF] at e
      exact .inl ⟨f1, g1, e, a, b, c⟩
    · rw [obj_put_ne h _ hF] at e2
      exact .inr ⟨fun f2 => by have := e f2; rwa [obj_put_ne h _ hF] at this, e2, c⟩

theorem WOwn.put {F : Nat} {f f' : Fam} (ho : h.obj F = some (.cells f)) (hl : f.low ≤ f'.low) (hg : f'.gen = f.gen) (hro : f'.ro = f.ro) {b : Nat}
    (hw : WOwn (h.put F (.cells f')).obj ι b) : WOwn h.obj ι b := by
  obtain ⟨F', L, a, e, c⟩ := hw
  refine ⟨F', L, a.put ho hl hg, e, fun ⟨f1, e1, e2⟩ => c ?_⟩
  by_cases hF : F' = F
  · subst hF
    rw [ho] at e1
    cases e1
    exact ⟨f', obj_put_self _ _ _, hro.trans e2⟩
  · exact ⟨f1, by rw [obj_put_ne h _ hF]; exact e1, e2⟩

theorem LocOk.heap {f : Fam} {L : Loc} (hk : LocOk P ι w f L) (he : w'.heap[L.b]? = w.heap[L.b]?) : LocOk P ι w' f L :=
  ⟨by rw [he]; exact hk.ex, hk.fit, hk.fix⟩

theorem Fam.store_gen (f : Fam) (o : Nat) (vs : List AV) : (f.store o vs).gen = f.gen := by unfold Fam.store; split <;> rfl
theorem Fam.store_low (f : Fam) (o : Nat) (vs : List AV) (hg : f.low ≤ f.gen) : f.low ≤ (f.store o vs).low := by unfold Fam.store; split <;> simp [hg]
theorem Fam.store_ro (f : Fam) (o : Nat) (vs : List AV) : (f.store o vs).ro = f.ro := by unfold Fam.store; split <;> rfl
theorem Fam.store_c (f : Fam) (o : Nat) (vs : List AV) : (f.store o vs).c = stL f.c o vs := by unfold Fam.store; split <;> rfl

/-- a store, in the relation -/
theorem HRel.store (hr : HRel P h.obj ι w) {F g o : Nat} {vs : List AV} {cs : List Value} {L : Loc} (hs : h.store F g o vs = some h') (hi : ι F g = some L)
    (hv : VRelL P ι vs cs) (h1 : ∀ v ∈ cs, v.oneCell' = true) (nx : Nat) :
    ∃ w', (storeCells ⟨L.b, L.p + o, none⟩ cs).run P w = .ok () w' ∧ HRel P h'.obj ι w' ∧ Grow h.obj ι nx w h'.obj ι w' ∧ h'.nx = h.nx := by
  unfold H.store at hs
  split at hs
  · rename_i f hf
    split at hs
    · rename_i e1 e2 e3 e4
      simp at hs
      subst hs
      have hge : g = f.gen := Nat.eq_of_beq_eq_true e1
      have hfz := Nat.le_of_ble_eq_true e2
      have hsz := Nat.le_of_ble_eq_true e3
      obtain ⟨ho, hlo, hgn, hk, hms, hm1, _, hown⟩ := hr.at hf hi
      have hm : L.m = f.sz := hm1 hge
      obtain ⟨arr, fr, hg, hN, hc, hz, hz2⟩ := hk.ex
      have fit := hk.fit
      have hlen := hv.length
      have hsz' : o + vs.length ≤ f.sz := hsz
      obtain ⟨w', arr', a1, a2, a3, a4, a5, a6, a7, a8, a9⟩ := run_storeA (P := P) L.b (L.p + o) cs 0 w arr f.elem fr hg (by omega)
        (fun j hj hh => hz (L.p + o + 0 + j) (by omega) (fun _ => by omega) hh) h1
      simp only [Nat.add_zero] at a4
      have hloc : ∀ L' : Loc, L'.b = L.b → L'.p = L.p → (∀ i, i < L'.m → ∃ av v, f.c.get i = some av ∧ arr[L'.p + i]? = some v ∧ VRel P ι av v) →
          ∀ i, i < L'.m → ∃ av v, (stL f.c o vs).get i = some av ∧ arr'[L'.p + i]? = some v ∧ VRel P ι av v := by
        intro L' _ hp hcc i hi'
        rw [hp, get_stL, a4]
        by_cases hin : o ≤ i ∧ i < o + vs.length
        · rw [if_pos hin, if_pos (by omega)]
          have hlt : i - o < vs.length := by omega
          obtain ⟨x, hx, hvx⟩ := hv.get (i - o) _ (List.getElem?_eq_getElem hlt)
          refine ⟨_, x, List.getElem?_eq_getElem hlt, ?_, hvx⟩
          rw [show L.p + i - (L.p + o) = i - o by omega]
          exact hx
        · rw [if_neg hin, if_neg (by omega)]
          obtain ⟨av, v, b1, b2, b3⟩ := hcc i hi'
          exact ⟨av, v, b1, by rw [← hp]; exact b2, b3⟩
      have hnew : ∀ (g' : Nat) (L' : Loc), (f.store o vs).low ≤ g' → g' ≤ f.gen → ι F g' = some L' → LocOk P ι w f L' → (g' < f.gen → L'.m ≤ f.old) → LocOk P ι w' (f.store o vs) L' := by
        intro g' L' q1 q2 q3 q4 q5
        have qlo : f.low ≤ g' := Nat.le_trans (Fam.store_low f o vs (by omega)) q1
        by_cases hb : L'.b = L.b
        · have hp : L'.p = L.p := hr.sameP F f g' g L' L ho qlo q2 hlo hgn q3 hi hb
          obtain ⟨arr2, fr2, p1, p2, p3, p4, p5⟩ := q4.ex
          rw [hb, hg] at p1
          cases p1
          refine ⟨⟨arr', fr, by rw [hb, a2]; unfold Fam.store; split <;> rfl, by omega, ?_, ?_, p5⟩, q4.fit, ?_⟩
          · rw [Fam.store_c]; exact hloc L' hb hp p3
          · intro off; unfold Fam.store; split <;> exact p4 off
          · have := q4.fix; unfold Fam.store; split <;> exact this
        · have hne : g' ≠ f.gen := fun e => hb (by rw [e, ← hge] at q3; rw [hi] at q3; cases q3; rfl)
          have hmo := q5 (by omega)
          have holdo : f.old ≤ o := by
            unfold Fam.store at q1
            split at q1
            · rename_i e5; exact Nat.le_of_ble_eq_true e5
            · simp at q1; omega
          obtain ⟨arr2, fr2, p1, p2, p3, p4, p5⟩ := q4.ex
          refine ⟨⟨arr2, fr2, by rw [a5 _ hb, p1]; unfold Fam.store; split <;> rfl, p2, ?_, ?_, p5⟩, q4.fit, ?_⟩
          · intro i hi'
            obtain ⟨av, v, b1, b2, b3⟩ := p3 i hi'
            refine ⟨av, v, ?_, b2, b3⟩
            rw [Fam.store_c, get_stL, if_neg (by omega)]
            exact b1
          · intro off; unfold Fam.store; split <;> exact p4 off
          · have := q4.fix; unfold Fam.store; split <;> exact this
      have hoth : ∀ (F' : Nat) (L' : Loc), F' ≠ F → Own h.obj ι F' L' → L'.b ≠ L.b := fun F' L' hn hw hb => hn (hr.dis F' F L' L hw hown hb)
      refine ⟨w', a1, ?_, ?_, rfl⟩
      · exact {
          cells := by
            intro F' f' ho' hp' g' q1 q2
            by_cases hF : F' = F
            · subst hF
              rw [obj_put_self] at ho'
              cases ho'
              rw [Fam.store_gen] at q2
              have qlo : f.low ≤ g' := Nat.le_trans (Fam.store_low f o vs (by omega)) q1
              obtain ⟨L', r1, r2, r3, r4, r5⟩ := hr.cells F' f ho hp' g' qlo q2
              refine ⟨L', r1, hnew g' L' q1 q2 r1 r2 r5, ?_, ?_, ?_⟩
              · unfold Fam.store; split <;> exact r3
              · unfold Fam.store; split <;> exact r4
              · intro hlt
                unfold Fam.store at q1 hlt ⊢
                split
                · rename_i e5; simp only [e5] at hlt; exact r5 hlt
                · rename_i e5; simp only [e5] at q1 hlt; omega
            · rw [obj_put_ne h _ hF] at ho'
              obtain ⟨L', r1, r2, r3⟩ := hr.cells F' f' ho' hp' g' q1 q2
              exact ⟨L', r1, r2.heap (a5 _ (hoth F' L' hF (.inl ⟨f', g', ho', q1, q2, r1⟩))), r3⟩
          sameP := by
            intro F' f' g1 g2 L1 L2 ho' q1 q2 q3 q4 q5 q6 q7
            by_cases hF : F' = F
            · subst hF
              rw [obj_put_self] at ho'
              cases ho'
              rw [Fam.store_gen] at q2 q4
              exact hr.sameP F' f g1 g2 L1 L2 ho (Nat.le_trans (Fam.store_low f o vs (by omega)) q1) q2 (Nat.le_trans (Fam.store_low f o vs (by omega)) q3) q4 q5 q6 q7
            · rw [obj_put_ne h _ hF] at ho'
              exact hr.sameP F' f' g1 g2 L1 L2 ho' q1 q2 q3 q4 q5 q6 q7
          map := by
            intro F' es ck L' ho' hl'
            have hF : F' ≠ F := fun e => by subst e; rw [obj_put_self] at ho'; cases ho'
            rw [obj_put_ne h _ hF] at ho'
            rw [a5 _ (hoth F' L' hF (.inr ⟨(fun f e => by rw [ho'] at e; cases e), (by rw [ho']; simp), hl'⟩))]
            exact hr.map F' es ck L' ho' hl'
          siter := by
            intro F' l b p L' ho' hl'
            have hF : F' ≠ F := fun e => by subst e; rw [obj_put_self] at ho'; cases ho'
            rw [obj_put_ne h _ hF] at ho'
            rw [a5 _ (hoth F' L' hF (.inr ⟨(fun f e => by rw [ho'] at e; cases e), (by rw [ho']; simp), hl'⟩))]
            exact hr.siter F' l b p L' ho' hl'
          miter := by
            intro F' m a b c ho'
            by_cases hF : F' = F
            · subst hF; rw [obj_put_self] at ho'; cases ho'
            · rw [obj_put_ne h _ hF] at ho'; exact hr.miter F' m a b c ho'
          dis := fun F1 F2 L1 L2 q1 q2 q3 => hr.dis F1 F2 L1 L2 (q1.put ho (Fam.store_low f o vs (by omega)) (Fam.store_gen f o vs)) (q2.put ho (Fam.store_low f o vs (by omega)) (Fam.store_gen f o vs)) q3
          gens := by
            intro F' f' g' ho' hlt
            by_cases hF : F' = F
            · subst hF
              rw [obj_put_self] at ho'
              cases ho'
              exact hr.gens F' f g' ho (by rwa [Fam.store_gen] at hlt)
            · rw [obj_put_ne h _ hF] at ho'
              exact hr.gens F' f' g' ho' hlt
          root := hr.root
          emb := by
            intro F2 o2 h2
            by_cases hF : F2 = F
            · subst hF; exact hr.root F2 _ L hi
            · rw [obj_put_ne h _ hF] at h2; exact hr.emb F2 o2 h2 }
      · exact {
          le := .refl _
          fresh := fun _ a b => absurd a b
          os := a7
          tape := a8
          output := a9
          size := by omega
          keep := fun b hb hw => a5 b (fun e => hw ⟨F, L, hown, e.symm, fun ⟨f1, r1, r2⟩ => by rw [ho] at r1; cases r1; rw [e4] at r2; cases r2⟩)
          wown := fun b _ hw => hw.put ho (Fam.store_low f o vs (by omega)) (Fam.store_gen f o vs) (Fam.store_ro f o vs)
          own := fun b _ ⟨F2, L2, q1, q2⟩ => ⟨F2, L2, q1.put ho (Fam.store_low f o vs (by omega)) (Fam.store_gen f o vs), q2⟩
          absent := fun F2 _ hN => ⟨by rw [obj_put_ne h _ (fun e => by subst e; rw [ho] at hN; cases hN)]; exact hN, fun _ => rfl⟩ }
    · cases hs
  · cases hs

theorem EntsRel.mono (hk : Emb.le ι κ) : ∀ {l : List Ent} {m : List MapEntry}, EntsRel P ι l m → EntsRel P κ l m
  | _, _, .nil => .nil
  | _, _, .cons a b c d => .cons (a.mono hk) (b.mono hk) c (d.mono hk)

theorem LocOk.mono {f : Fam} {L : Loc} (hk : LocOk P ι w f L) (hle : Emb.le ι κ) : LocOk P κ w f L := by
  obtain ⟨arr, fr, a, b, c, d⟩ := hk.ex
  exact ⟨⟨arr, fr, a, b, fun i hi => by obtain ⟨av, v, x, y, z⟩ := c i hi; exact ⟨av, v, x, y, z.mono hle⟩, d⟩, hk.fit, hk.fix⟩

/-- one place more -/
def upd (ι : Emb) (F g : Nat) (L : Loc) : Emb := fun F' g' => if F' = F ∧ g' = g then some L else ι F' g'

theorem upd_self (ι : Emb) (F g : Nat) (L : Loc) : upd ι F g L F g = some L := by simp [upd]
theorem upd_ne (ι : Emb) {F g F' g' : Nat} (L : Loc) (h : F' ≠ F ∨ g' ≠ g) : upd ι F g L F' g' = ι F' g' := by
  unfold upd
  rw [if_neg (by rintro ⟨a, b⟩; rcases h with h | h <;> contradiction)]
theorem upd_le (ι : Emb) {F g : Nat} (L : Loc) (h : ι F g = none) : Emb.le ι (upd ι F g L) := by
  intro F' g' L' e
  unfold upd
  by_cases hc : F' = F ∧ g' = g
  · rw [hc.1, hc.2, h] at e; cases e
  · rw [if_neg hc]; exact e

theorem obj_new_self (h : H) (o : AO) : (h.new o).obj h.nx = some o := by rw [obj_new, if_pos rfl]
theorem obj_new_ne (h : H) {F' : Nat} (o : AO) (hn : F' ≠ h.nx) : (h.new o).obj F' = h.obj F' := by rw [obj_new, if_neg hn]

theorem HRel.lt (hr : HRel P h.obj ι w) {F : Nat} {L : Loc} (hw : Own h.obj ι F L) : L.b < w.heap.size := by
  rcases hw with ⟨f, g, a, b, d, e⟩ | ⟨a, b, d⟩
  · obtain ⟨L2, p, q, _⟩ := hr.cells F f a (hr.root F g L e) g b d
    rw [e] at p
    cases p
    obtain ⟨arr, fr, x, _⟩ := q.ex
    exact (Array.getElem?_eq_some_iff.1 x).1
  · cases ho : h.obj F with
    | none => exact absurd ho b
    | some ob =>
      cases ob with
      | cells f => exact absurd ho (a f)
      | map es ck => obtain ⟨ces, x, _⟩ := hr.map F es ck L ho d; exact (Array.getElem?_eq_some_iff.1 x).1
      | strIter l b p => obtain ⟨_, s, x, _⟩ := hr.siter F l b p L ho d; exact (Array.getElem?_eq_some_iff.1 x).1
      | mapIter m a b d => exact absurd ho (hr.miter F m a b d)

theorem Own.new (hb : Bd h ι) {o : AO} {L : Loc} {F : Nat} {L' : Loc} (hF : F ≠ h.nx) (hw : Own (h.new o).obj (upd ι h.nx 0 L) F L') : Own h.obj ι F L' := by
  have hpre : ∀ g, upd ι h.nx 0 L F g = ι F g := fun g => upd_ne ι L (.inl hF)
  rcases hw with ⟨f, g, a, b, d, e⟩ | ⟨a, b, d⟩
  · rw [obj_new_ne h _ hF] at a
    rw [hpre] at e
    exact .inl ⟨f, g, a, b, d, e⟩
  · rw [obj_new_ne h _ hF] at b
    rw [hpre] at d
    exact .inr ⟨fun f => by have := a f; rwa [obj_new_ne h _ hF] at this, b, d⟩

theorem Own.newest {o : AO} {L : Loc} {L' : Loc} (hcells : ∀ f, o = .cells f → f.gen = 0) (hw : Own (h.new o).obj (upd ι h.nx 0 L) h.nx L') : L' = L := by
  rcases hw with ⟨f, g, a, b, d, e⟩ | ⟨a, b, d⟩
  · rw [obj_new_self] at a
    cases a
    have q1 := hcells f rfl
    obtain rfl : g = 0 := by omega
    rw [upd_self] at e
    cases e
    rfl
  · rw [upd_self] at d
    cases d
    rfl

/-- a new object, at a block that nothing alive owns -/
theorem HRel.lay (hr : HRel P h.obj ι w) (hb : Bd h ι) (o : AO) (c : Obj) (L : Loc) (w' : World) (hnew : w'.heap[L.b]? = some c)
    (hfree : ∀ F' L', Own h.obj ι F' L' → L'.b ≠ L.b) (hkeep : ∀ b, b < w.heap.size → b ≠ L.b → w'.heap[b]? = w.heap[b]?)
    (hcells : ∀ f, o = .cells f → f.gen = 0 ∧ f.low = 0 ∧ LocOk P (upd ι h.nx 0 L) w' f L ∧ L.m = f.sz)
    (hmap : ∀ es ck, o = .map es ck → ∃ ces, c = .map ces ck ∧ EntsRel P ι es ces.toList)
    (hsit : ∀ l b p, o = .strIter l b p → L.p = 0 ∧ ∃ s : ByteArray, c = .stringIter s p ∧ strOf s.data.toList = .str l b)
    (hmi : ∀ m a b d, o ≠ .mapIter m a b d) :
    HRel P (h.new o).obj (upd ι h.nx 0 L) w' ∧ Bd (h.new o) (upd ι h.nx 0 L) := by
  have hnone : ∀ g, ι h.nx g = none := fun g => hb h.nx g (Nat.le_refl _)
  have hle : Emb.le ι (upd ι h.nx 0 L) := upd_le ι L (hnone 0)
  have hpre : ∀ F, F ≠ h.nx → ∀ g, upd ι h.nx 0 L F g = ι F g := fun F hF g => upd_ne ι L (.inl hF)
  have hOwn : ∀ F L', F ≠ h.nx → Own (h.new o).obj (upd ι h.nx 0 L) F L' → Own h.obj ι F L' := fun F L' hF hw => Own.new hb hF hw
  have hold : ∀ F L', Own h.obj ι F L' → w'.heap[L'.b]? = w.heap[L'.b]? := fun F L' hw => hkeep _ (hr.lt hw) (hfree F L' hw)
  have hOwnN : ∀ L', Own (h.new o).obj (upd ι h.nx 0 L) h.nx L' → L' = L := fun L' hw => Own.newest (fun f e => (hcells f e).1) hw
  refine ⟨?_, ?_⟩
  · exact {
      cells := by
        intro F f ho hp g h1 h2
        by_cases hF : F = h.nx
        · subst hF
          rw [obj_new_self] at ho
          cases ho
          obtain ⟨q1, q2, q3, q4⟩ := hcells f rfl
          obtain rfl : g = 0 := by omega
          exact ⟨L, upd_self _ _ _ _, q3, by omega, fun _ => q4, fun hlt => by omega⟩
        · rw [obj_new_ne h _ hF] at ho
          rw [hpre F hF] at hp
          obtain ⟨L', a, b, d⟩ := hr.cells F f ho hp g h1 h2
          exact ⟨L', by rw [hpre F hF]; exact a, (b.mono hle).heap (hold F L' (.inl ⟨f, g, ho, h1, h2, a⟩)), d⟩
      sameP := by
        intro F f g g' L1 L2 ho h1 h2 h3 h4 e1 e2 hbb
        by_cases hF : F = h.nx
        · subst hF
          have := hOwnN L1 (.inl ⟨f, g, ho, h1, h2, e1⟩)
          have := hOwnN L2 (.inl ⟨f, g', ho, h3, h4, e2⟩)
          subst_vars
          rfl
        · rw [obj_new_ne h _ hF] at ho
          rw [hpre F hF] at e1 e2
          exact hr.sameP F f g g' L1 L2 ho h1 h2 h3 h4 e1 e2 hbb
      map := by
        intro F es ck L' ho hl
        by_cases hF : F = h.nx
        · subst hF
          rw [obj_new_self] at ho
          cases ho
          rw [upd_self] at hl
          cases hl
          obtain ⟨ces, x, y⟩ := hmap es ck rfl
          exact ⟨ces, by rw [hnew, x], y.mono hle⟩
        · rw [obj_new_ne h _ hF] at ho
          rw [hpre F hF] at hl
          obtain ⟨ces, x, y⟩ := hr.map F es ck L' ho hl
          exact ⟨ces, by rw [hold F L' (.inr ⟨(fun f e => by rw [ho] at e; cases e), (by rw [ho]; simp), hl⟩)]; exact x, y.mono hle⟩
      siter := by
        intro F l b p L' ho hl
        by_cases hF : F = h.nx
        · subst hF
          rw [obj_new_self] at ho
          cases ho
          rw [upd_self] at hl
          cases hl
          obtain ⟨q, s, x, y⟩ := hsit l b p rfl
          exact ⟨q, s, by rw [hnew, x], y⟩
        · rw [obj_new_ne h _ hF] at ho
          rw [hpre F hF] at hl
          obtain ⟨q, s, x, y⟩ := hr.siter F l b p L' ho hl
          exact ⟨q, s, by rw [hold F L' (.inr ⟨(fun f e => by rw [ho] at e; cases e), (by rw [ho]; simp), hl⟩)]; exact x, y⟩
      miter := by
        intro F m a b d ho
        by_cases hF : F = h.nx
        · subst hF
          rw [obj_new_self] at ho
          cases ho
          exact hmi _ _ _ _ rfl
        · rw [obj_new_ne h _ hF] at ho
          exact hr.miter F m a b d ho
      dis := by
        intro F F' L1 L2 o1 o2 hbb
        by_cases hF : F = h.nx <;> by_cases hF' : F' = h.nx
        · omega
        · subst hF
          have e := hOwnN L1 o1
          exact absurd (by rw [← hbb, e]) (hfree F' L2 (hOwn F' L2 hF' o2))
        · subst hF'
          have e := hOwnN L2 o2
          exact absurd (by rw [hbb, e]) (hfree F L1 (hOwn F L1 hF o1))
        · exact hr.dis F F' L1 L2 (hOwn F L1 hF o1) (hOwn F' L2 hF' o2) hbb
      gens := by
        intro F f g ho hlt
        by_cases hF : F = h.nx
        · subst hF
          rw [obj_new_self] at ho
          cases ho
          rw [upd_ne ι L (.inr (by omega))]
          exact hnone g
        · rw [obj_new_ne h _ hF] at ho
          rw [hpre F hF]
          exact hr.gens F f g ho hlt
      root := by
        intro F g L' e
        by_cases hF : F = h.nx
        · subst hF
          rw [upd_self]
          simp
        · rw [hpre F hF] at e ⊢
          exact hr.root F g L' e
      emb := by
        intro F o2 h2
        by_cases hF : F = h.nx
        · subst hF
          rw [upd_self]
          simp
        · rw [hpre F hF]
          rw [obj_new_ne h _ hF] at h2
          exact hr.emb F o2 h2 }
  · intro F g hge
    have : h.nx < F := hge
    rw [hpre F (by omega)]
    exact hb F g (by omega)

theorem HRel.push (hr : HRel P h.obj ι w) (hb : Bd h ι) (o : AO) (c : Obj) (L : Loc) (hL : L.b = w.heap.size) (w' : World) (hw : w'.heap = w.heap.push c)
    (hos : w'.os = w.os) (htp : w'.tape = w.tape) (hout : w'.output = w.output)
    (hcells : ∀ f, o = .cells f → f.gen = 0 ∧ f.low = 0 ∧ LocOk P (upd ι h.nx 0 L) w' f L ∧ L.m = f.sz)
    (hmap : ∀ es ck, o = .map es ck → ∃ ces, c = .map ces ck ∧ EntsRel P ι es ces.toList)
    (hsit : ∀ l b p, o = .strIter l b p → L.p = 0 ∧ ∃ s : ByteArray, c = .stringIter s p ∧ strOf s.data.toList = .str l b)
    (hmi : ∀ m a b d, o ≠ .mapIter m a b d) :
    HRel P (h.new o).obj (upd ι h.nx 0 L) w' ∧ Grow h.obj ι h.nx w (h.new o).obj (upd ι h.nx 0 L) w' ∧ Bd (h.new o) (upd ι h.nx 0 L) := by
  have hold : ∀ b, b < w.heap.size → w'.heap[b]? = w.heap[b]? := by
    intro b hlt
    rw [hw, Array.getElem?_push, if_neg (by omega)]
  obtain ⟨r1, r2⟩ := hr.lay hb o c L w' (by rw [hL, hw]; simp) (fun F' L' ho e => by have := hr.lt ho; omega) (fun b hlt _ => hold b hlt) hcells hmap hsit hmi
  refine ⟨r1, ?_, r2⟩
  exact {
    le := upd_le ι L (hb h.nx 0 (Nat.le_refl _))
    fresh := by
      intro F a b
      by_cases hF : F = h.nx
      · omega
      · rw [upd_ne ι L (.inl hF)] at b
        exact absurd a b
    os := hos
    tape := htp
    output := hout
    size := by rw [hw]; simp
    keep := fun b hlt _ => hold b hlt
    wown := by
      rintro b hlt ⟨F, L', q1, q2, q3⟩
      by_cases hF : F = h.nx
      · subst hF
        have := Own.newest (fun f e => (hcells f e).1) q1
        subst this
        omega
      · refine ⟨F, L', Own.new hb hF q1, q2, fun ⟨f, e1, e2⟩ => q3 ⟨f, ?_, e2⟩⟩
        rw [obj_new_ne h _ hF]
        exact e1
    own := by
      rintro b hlt ⟨F, L', q1, q2⟩
      by_cases hF : F = h.nx
      · subst hF
        have := Own.newest (fun f e => (hcells f e).1) q1
        subst this
        omega
      · exact ⟨F, L', Own.new hb hF q1, q2⟩
    absent := fun F2 hF hN => by
      have hne : F2 ≠ h.nx := by omega
      exact ⟨by rw [obj_new_ne h _ hne]; exact hN, fun g => upd_ne ι L (.inl hne)⟩ }

theorem Bd.lt (hb : Bd h ι) {F g : Nat} {L : Loc} (hi : ι F g = some L) : F < h.nx := by
  by_cases hlt : F < h.nx
  · exact hlt
  · rw [hb F g (by omega)] at hi; cases hi

/-- a family that grows by a generation: in place or at a place of its own -/
theorem HRel.regen (hr : HRel P h.obj ι w) (hb : Bd h ι) {F : Nat} {f : Fam} {L : Loc} (hf : h.fam F f.gen = some f) (hi : ι F f.gen = some L)
    (f' : Fam) (L' : Loc) (w' : World) (e1 : f'.gen = f.gen + 1) (e2 : f.low ≤ f'.low) (e3 : f'.low ≤ f'.gen) (er : f.ro = false) (er' : f'.ro = false)
    (hold : ∀ g' Lg, f'.low ≤ g' → g' ≤ f.gen → ι F g' = some Lg → LocOk P ι w f Lg → Lg.m ≤ f.sz → (Lg.b = L.b → Lg.p = L.p) →
      LocOk P (upd ι F (f.gen + 1) L') w' f' Lg ∧ Lg.m ≤ f'.sz ∧ Lg.m ≤ f'.old ∧ (Lg.b = L'.b → Lg.p = L'.p))
    (hnew : LocOk P (upd ι F (f.gen + 1) L') w' f' L' ∧ L'.m = f'.sz)
    (hoth : ∀ F2 L2, F2 ≠ F → Own h.obj ι F2 L2 → L2.b ≠ L'.b)
    (hkeep : ∀ b, b < w.heap.size → b ≠ L'.b → w'.heap[b]? = w.heap[b]?) (hmine : L'.b < w.heap.size → L'.b = L.b)
    (hsize : w.heap.size ≤ w'.heap.size) (hos : w'.os = w.os) (htp : w'.tape = w.tape) (hout : w'.output = w.output) (nx : Nat) :
    HRel P (h.put F (.cells f')).obj (upd ι F (f.gen + 1) L') w' ∧ Grow h.obj ι nx w (h.put F (.cells f')).obj (upd ι F (f.gen + 1) L') w' ∧ Bd (h.put F (.cells f')) (upd ι F (f.gen + 1) L') := by
  obtain ⟨ho, hlo, _, hk, _, _, _, hown⟩ := hr.at hf hi
  have hnone : ι F (f.gen + 1) = none := hr.gens F f _ ho (by omega)
  have hle : Emb.le ι (upd ι F (f.gen + 1) L') := upd_le ι L' hnone
  have hpre : ∀ F2, F2 ≠ F → ∀ g, upd ι F (f.gen + 1) L' F2 g = ι F2 g := fun F2 hF g => upd_ne ι L' (.inl hF)
  have hpg : ∀ g, g ≠ f.gen + 1 → upd ι F (f.gen + 1) L' F g = ι F g := fun g hg => upd_ne ι L' (.inr hg)
  have hF0 : ∀ F2, upd ι F (f.gen + 1) L' F2 0 = ι F2 0 := fun F2 => upd_ne ι L' (.inr (by omega))
  have hOwn : ∀ F2 L2, F2 ≠ F → Own (h.put F (.cells f')).obj (upd ι F (f.gen + 1) L') F2 L2 → Own h.obj ι F2 L2 := by
    intro F2 L2 hF hw
    rcases hw with ⟨f2, g, a, b, d, e⟩ | ⟨a, b, d⟩
    · rw [obj_put_ne h _ hF] at a
      rw [hpre F2 hF] at e
      exact .inl ⟨f2, g, a, b, d, e⟩
    · rw [obj_put_ne h _ hF] at b
      rw [hpre F2 hF] at d
      exact .inr ⟨fun f2 => by have := a f2; rwa [obj_put_ne h _ hF] at this, b, d⟩
  have hOwnF : ∀ L2, Own (h.put F (.cells f')).obj (upd ι F (f.gen + 1) L') F L2 → L2 = L' ∨ Own h.obj ι F L2 := by
    intro L2 hw
    rcases hw with ⟨f2, g, a, b, d, e⟩ | ⟨a, b, d⟩
    · rw [obj_put_self] at a
      cases a
      by_cases hg : g = f.gen + 1
      · subst hg
        rw [upd_self] at e
        cases e
        exact .inl rfl
      · rw [hpg g hg] at e
        exact .inr (.inl ⟨f, g, ho, by omega, by omega, e⟩)
    · exact absurd (obj_put_self h F _) (a f')
  have hkeepO : ∀ F2 L2, F2 ≠ F → Own h.obj ι F2 L2 → w'.heap[L2.b]? = w.heap[L2.b]? := fun F2 L2 hF hw => hkeep _ (hr.lt hw) (hoth F2 L2 hF hw)
  have hgen : ∀ g', f'.low ≤ g' → g' ≤ f.gen → ∃ Lg, ι F g' = some Lg ∧ LocOk P (upd ι F (f.gen + 1) L') w' f' Lg ∧ Lg.m ≤ f'.sz ∧ Lg.m ≤ f'.old ∧ (Lg.b = L'.b → Lg.p = L'.p) := by
    intro g' q1 q2
    obtain ⟨Lg, a, b, c, _⟩ := hr.cells F f ho (hr.root F _ L hi) g' (by omega) q2
    exact ⟨Lg, a, hold g' Lg q1 q2 a b c (fun hbb => hr.sameP F f g' f.gen Lg L ho (by omega) q2 hlo (Nat.le_refl _) a hi hbb)⟩
  refine ⟨?_, ?_, ?_⟩
  · exact {
      cells := by
        intro F2 f2 ho2 hp2 g2 h1 h2
        by_cases hF : F2 = F
        · subst hF
          rw [obj_put_self] at ho2
          cases ho2
          by_cases hg : g2 = f.gen + 1
          · subst hg
            exact ⟨L', upd_self _ _ _ _, hnew.1, by rw [hnew.2]; exact Nat.le_refl _, fun _ => hnew.2, fun hlt => by omega⟩
          · obtain ⟨Lg, a, b, c, d, _⟩ := hgen g2 h1 (by omega)
            exact ⟨Lg, by rw [hpg g2 hg]; exact a, b, c, fun e => by omega, fun _ => d⟩
        · rw [obj_put_ne h _ hF] at ho2
          rw [hpre F2 hF] at hp2
          obtain ⟨L2, a, b, c⟩ := hr.cells F2 f2 ho2 hp2 g2 h1 h2
          exact ⟨L2, by rw [hpre F2 hF]; exact a, (b.mono hle).heap (hkeepO F2 L2 hF (.inl ⟨f2, g2, ho2, h1, h2, a⟩)), c⟩
      sameP := by
        intro F2 f2 g1 g2 L1 L2 ho2 q1 q2 q3 q4 q5 q6 q7
        by_cases hF : F2 = F
        · subst hF
          rw [obj_put_self] at ho2
          cases ho2
          by_cases hg1 : g1 = f.gen + 1 <;> by_cases hg2 : g2 = f.gen + 1
          · rw [hg1, upd_self] at q5
            rw [hg2, upd_self] at q6
            cases q5; cases q6; rfl
          · rw [hg1, upd_self] at q5
            rw [hpg g2 hg2] at q6
            cases q5
            obtain ⟨Lg, a, _, _, _, d⟩ := hgen g2 q3 (by omega)
            rw [q6] at a; cases a
            exact (d q7.symm).symm
          · rw [hg2, upd_self] at q6
            rw [hpg g1 hg1] at q5
            cases q6
            obtain ⟨Lg, a, _, _, _, d⟩ := hgen g1 q1 (by omega)
            rw [q5] at a; cases a
            exact d q7
          · rw [hpg g1 hg1] at q5
            rw [hpg g2 hg2] at q6
            exact hr.sameP F2 f g1 g2 L1 L2 ho (by omega) (by omega) (by omega) (by omega) q5 q6 q7
        · rw [obj_put_ne h _ hF] at ho2
          rw [hpre F2 hF] at q5 q6
          exact hr.sameP F2 f2 g1 g2 L1 L2 ho2 q1 q2 q3 q4 q5 q6 q7
      map := by
        intro F2 es ck L2 ho2 hl
        have hF : F2 ≠ F := fun e => by subst e; rw [obj_put_self] at ho2; cases ho2
        rw [obj_put_ne h _ hF] at ho2
        rw [hpre F2 hF] at hl
        obtain ⟨ces, x, y⟩ := hr.map F2 es ck L2 ho2 hl
        exact ⟨ces, by rw [hkeepO F2 L2 hF (.inr ⟨(fun f e => by rw [ho2] at e; cases e), (by rw [ho2]; simp), hl⟩)]; exact x, y.mono hle⟩
      siter := by
        intro F2 l b p L2 ho2 hl
        have hF : F2 ≠ F := fun e => by subst e; rw [obj_put_self] at ho2; cases ho2
        rw [obj_put_ne h _ hF] at ho2
        rw [hpre F2 hF] at hl
        obtain ⟨q, s, x, y⟩ := hr.siter F2 l b p L2 ho2 hl
        exact ⟨q, s, by rw [hkeepO F2 L2 hF (.inr ⟨(fun f e => by rw [ho2] at e; cases e), (by rw [ho2]; simp), hl⟩)]; exact x, y⟩
      miter := by
        intro F2 m a b c ho2
        by_cases hF : F2 = F
        · subst hF; rw [obj_put_self] at ho2; cases ho2
        · rw [obj_put_ne h _ hF] at ho2; exact hr.miter F2 m a b c ho2
      dis := by
        intro F1 F2 L1 L2 q1 q2 q3
        by_cases hF1 : F1 = F <;> by_cases hF2 : F2 = F
        · omega
        · subst hF1
          have o2 := hOwn F2 L2 hF2 q2
          rcases hOwnF L1 q1 with e | o1
          · subst e; exact absurd q3.symm (hoth F2 L2 hF2 o2)
          · exact hr.dis F1 F2 L1 L2 o1 o2 q3
        · subst hF2
          have o1 := hOwn F1 L1 hF1 q1
          rcases hOwnF L2 q2 with e | o2
          · subst e; exact absurd q3 (hoth F1 L1 hF1 o1)
          · exact hr.dis F1 F2 L1 L2 o1 o2 q3
        · exact hr.dis F1 F2 L1 L2 (hOwn F1 L1 hF1 q1) (hOwn F2 L2 hF2 q2) q3
      gens := by
        intro F2 f2 g2 ho2 hlt
        by_cases hF : F2 = F
        · subst hF
          rw [obj_put_self] at ho2
          cases ho2
          rw [hpg g2 (by omega)]
          exact hr.gens F2 f g2 ho (by omega)
        · rw [obj_put_ne h _ hF] at ho2
          rw [hpre F2 hF]
          exact hr.gens F2 f2 g2 ho2 hlt
      root := by
        intro F2 g2 L2 e
        rw [hF0]
        by_cases hF : F2 = F
        · subst hF; exact hr.root F2 _ L hi
        · rw [hpre F2 hF] at e; exact hr.root F2 g2 L2 e
      emb := by
        intro F2 o2 h2
        rw [hF0]
        by_cases hF : F2 = F
        · subst hF; exact hr.root F2 _ L hi
        · rw [obj_put_ne h _ hF] at h2; exact hr.emb F2 o2 h2 }
  · exact {
      le := hle
      fresh := fun F2 a b => by rw [hF0] at b; exact absurd a b
      os := hos
      tape := htp
      output := hout
      size := hsize
      keep := by
        intro b hlt hw
        by_cases hbl : b = L'.b
        · have hbl2 := hmine (by omega)
          exact absurd ⟨F, L, hown, (by omega), (fun ⟨f1, r1, r2⟩ => by rw [ho] at r1; cases r1; rw [er] at r2; cases r2)⟩ hw
        · exact hkeep b hlt hbl
      wown := by
        rintro b hlt ⟨F2, L2, q1, q2, q3⟩
        by_cases hF : F2 = F
        · subst hF
          have hro : ¬ Ro h.obj F2 := fun ⟨f1, r1, r2⟩ => by rw [ho] at r1; cases r1; rw [er] at r2; cases r2
          rcases hOwnF L2 q1 with e | o1
          · subst e
            exact ⟨F2, L, hown, by rw [← hmine (by omega)]; exact q2, hro⟩
          · exact ⟨F2, L2, o1, q2, hro⟩
        · refine ⟨F2, L2, hOwn F2 L2 hF q1, q2, fun ⟨f2, a1, a2⟩ => q3 ⟨f2, by rw [obj_put_ne h _ hF]; exact a1, a2⟩⟩
      own := by
        rintro b hlt ⟨F2, L2, q1, q2⟩
        by_cases hF : F2 = F
        · subst hF
          rcases hOwnF L2 q1 with e | o1
          · subst e
            exact ⟨F2, L, hown, by rw [← hmine (by omega)]; exact q2⟩
          · exact ⟨F2, L2, o1, q2⟩
        · exact ⟨F2, L2, hOwn F2 L2 hF q1, q2⟩
      absent := fun F2 _ hN => by
        have hne : F2 ≠ F := fun e => by subst e; rw [ho] at hN; cases hN
        exact ⟨by rw [obj_put_ne h _ hne]; exact hN, fun g => hpre F2 hne g⟩ }
  · intro F2 g2 hge
    have := hb.lt hi
    rw [hpre F2 (by intro e; subst e; have : h.nx ≤ F2 := hge; omega)]
    exact hb F2 g2 hge

/-- a family of which nothing is alive any more -/
theorem HRel.kill (hr : HRel P h.obj ι w) {F : Nat} {f : Fam} (ho : h.obj F = some (.cells f)) : HRel P (h.put F (.cells { f with low := f.gen + 1 })).obj ι w where
  cells := by
    intro F2 f2 ho2 hp2 g h1 h2
    by_cases hF : F2 = F
    · subst hF; rw [obj_put_self] at ho2; cases ho2; simp only at h1 h2; omega
    · rw [obj_put_ne h _ hF] at ho2; exact hr.cells F2 f2 ho2 hp2 g h1 h2
  sameP := by
    intro F2 f2 g1 g2 L1 L2 ho2 q1 q2
    by_cases hF : F2 = F
    · subst hF; rw [obj_put_self] at ho2; cases ho2; simp only at q1 q2; omega
    · rw [obj_put_ne h _ hF] at ho2; exact hr.sameP F2 f2 g1 g2 L1 L2 ho2 q1 q2
  map := by
    intro F2 es ck L2 ho2 hl
    by_cases hF : F2 = F
    · subst hF; rw [obj_put_self] at ho2; cases ho2
    · rw [obj_put_ne h _ hF] at ho2; exact hr.map F2 es ck L2 ho2 hl
  siter := by
    intro F2 l b p L2 ho2 hl
    by_cases hF : F2 = F
    · subst hF; rw [obj_put_self] at ho2; cases ho2
    · rw [obj_put_ne h _ hF] at ho2; exact hr.siter F2 l b p L2 ho2 hl
  miter := by
    intro F2 m a b c ho2
    by_cases hF : F2 = F
    · subst hF; rw [obj_put_self] at ho2; cases ho2
    · rw [obj_put_ne h _ hF] at ho2; exact hr.miter F2 m a b c ho2
  dis := fun F1 F2 L1 L2 q1 q2 q3 => by
    by_cases hlow : f.low ≤ f.gen + 1
    · exact hr.dis F1 F2 L1 L2 (q1.put (f' := { f with low := f.gen + 1 }) ho hlow rfl) (q2.put (f' := { f with low := f.gen + 1 }) ho hlow rfl) q3
    · have key : ∀ F3 L3, Own (h.put F (.cells { f with low := f.gen + 1 })).obj ι F3 L3 → Own h.obj ι F3 L3 := by
        intro F3 L3 hw
        by_cases hF : F3 = F
        · subst hF
          rcases hw with ⟨f3, g3, a, b, c, _⟩ | ⟨a, _, _⟩
          · rw [obj_put_self] at a; cases a; simp only at b c; omega
          · exact absurd (obj_put_self h F3 _) (a _)
        · rcases hw with ⟨f3, g3, a, b, c, d⟩ | ⟨a, b, c⟩
          · rw [obj_put_ne h _ hF] at a; exact .inl ⟨f3, g3, a, b, c, d⟩
          · rw [obj_put_ne h _ hF] at b
            exact .inr ⟨fun f2 => by have := a f2; rwa [obj_put_ne h _ hF] at this, b, c⟩
      exact hr.dis F1 F2 L1 L2 (key _ _ q1) (key _ _ q2) q3
  gens := by
    intro F2 f2 g2 ho2 hlt
    by_cases hF : F2 = F
    · subst hF; rw [obj_put_self] at ho2; cases ho2; exact hr.gens F2 f g2 ho hlt
    · rw [obj_put_ne h _ hF] at ho2; exact hr.gens F2 f2 g2 ho2 hlt
  root := hr.root
  emb := by
    intro F2 o2 h2
    by_cases hF : F2 = F
    · subst hF; exact hr.emb F2 _ ho
    · rw [obj_put_ne h _ hF] at h2; exact hr.emb F2 o2 h2

/-- a family ends, and another one takes its place, or a place of its own -/
theorem HRel.retake (hr : HRel P h.obj ι w) (hb : Bd h ι) {F g : Nat} {f : Fam} {L : Loc} (hf : h.fam F g = some f) (hi : ι F g = some L) (er : f.ro = false)
    (f' : Fam) (L' : Loc) (w' : World) (e1 : f'.gen = 0) (e2 : f'.low = 0) (hnew : LocOk P (upd ι h.nx 0 L') w' f' L') (hm : L'.m = f'.sz)
    (hkeep : ∀ b, b < w.heap.size → b ≠ L'.b → w'.heap[b]? = w.heap[b]?) (hmine : L'.b < w.heap.size → L'.b = L.b)
    (hsize : w.heap.size ≤ w'.heap.size) (hos : w'.os = w.os) (htp : w'.tape = w.tape) (hout : w'.output = w.output) :
    HRel P ((h.put F (.cells { f with low := f.gen + 1 })).new (.cells f')).obj (upd ι h.nx 0 L') w' ∧
    Grow h.obj ι h.nx w ((h.put F (.cells { f with low := f.gen + 1 })).new (.cells f')).obj (upd ι h.nx 0 L') w' ∧
    Bd ((h.put F (.cells { f with low := f.gen + 1 })).new (.cells f')) (upd ι h.nx 0 L') := by
  obtain ⟨ho, hlo, hgn, _, _, _, _, hown⟩ := hr.at hf hi
  have hFnx := hb.lt hi
  have hrK := hr.kill ho
  have hbK : Bd (h.put F (.cells { f with low := f.gen + 1 })) ι := hb
  have hlow : f.low ≤ f.gen + 1 := by omega
  have hOK : ∀ F2 L2, Own (h.put F (.cells { f with low := f.gen + 1 })).obj ι F2 L2 → F2 ≠ F ∧ Own h.obj ι F2 L2 := by
    intro F2 L2 hw
    refine ⟨?_, hw.put (f' := { f with low := f.gen + 1 }) ho hlow rfl⟩
    intro hF
    subst hF
    rcases hw with ⟨f3, g3, a, b, c, _⟩ | ⟨a, _, _⟩
    · rw [obj_put_self] at a; cases a; simp only at b c; omega
    · exact absurd (obj_put_self h F2 _) (a _)
  obtain ⟨arr, fr, hg, _⟩ := hnew.ex
  obtain ⟨r1, r2⟩ := hrK.lay hbK (.cells f') _ L' w' hg (by
      intro F2 L2 hw hbb
      obtain ⟨hne, hw2⟩ := hOK F2 L2 hw
      have hlt := hr.lt hw2
      rw [hbb] at hlt
      exact hne (hr.dis F2 F L2 L hw2 hown (by rw [hbb]; exact hmine hlt)))
    hkeep (fun f2 e => by cases e; exact ⟨e1, e2, hnew, hm⟩) (fun _ _ e => by cases e) (fun _ _ _ e => by cases e) (fun _ _ _ _ e => by cases e)
  have hro : ¬ Ro h.obj F := fun ⟨f1, a1, a2⟩ => by rw [ho] at a1; cases a1; rw [er] at a2; cases a2
  refine ⟨r1, ?_, r2⟩
  exact {
    le := upd_le ι L' (hb h.nx 0 (Nat.le_refl _))
    fresh := by
      intro F2 a b
      by_cases hF : F2 = h.nx
      · omega
      · rw [upd_ne ι L' (.inl hF)] at b; exact absurd a b
    os := hos
    tape := htp
    output := hout
    size := hsize
    keep := by
      intro b hlt hw
      by_cases hbl : b = L'.b
      · exact absurd ⟨F, L, hown, by rw [← hmine (by omega)]; omega, hro⟩ hw
      · exact hkeep b hlt hbl
    wown := by
      rintro b hlt ⟨F2, L2, q1, q2, q3⟩
      by_cases hF : F2 = h.nx
      · subst hF
        have := Own.newest (h := h.put F (.cells { f with low := f.gen + 1 })) (fun f2 e => by cases e; exact e1) q1
        subst this
        exact ⟨F, L, hown, by rw [← hmine (by omega)]; exact q2, hro⟩
      · have q4 := Own.new (h := h.put F (.cells { f with low := f.gen + 1 })) hbK hF q1
        obtain ⟨hne, q5⟩ := hOK F2 L2 q4
        refine ⟨F2, L2, q5, q2, fun ⟨f2, a1, a2⟩ => q3 ⟨f2, ?_, a2⟩⟩
        have e3 := obj_new_ne (h.put F (.cells { f with low := f.gen + 1 })) (.cells f') (F' := F2) hF
        rw [e3, obj_put_ne h _ hne]
        exact a1
    own := by
      rintro b hlt ⟨F2, L2, q1, q2⟩
      by_cases hF : F2 = h.nx
      · subst hF
        have := Own.newest (h := h.put F (.cells { f with low := f.gen + 1 })) (fun f2 e => by cases e; exact e1) q1
        subst this
        exact ⟨F, L, hown, by rw [← hmine (by omega)]; exact q2⟩
      · have q4 := Own.new (h := h.put F (.cells { f with low := f.gen + 1 })) hbK hF q1
        exact ⟨F2, L2, (hOK F2 L2 q4).2, q2⟩
    absent := fun F2 hF hN => by
      have hne : F2 ≠ h.nx := by omega
      have hne2 : F2 ≠ F := fun e => by subst e; rw [ho] at hN; cases hN
      refine ⟨?_, fun g => upd_ne ι L' (.inl hne)⟩
      have e3 := obj_new_ne (h.put F (.cells { f with low := f.gen + 1 })) (.cells f') (F' := F2) hne
      rw [e3, obj_put_ne h _ hne2]
      exact hN }

/-- an object that is no row of cells, turned where it lies -/
theorem HRel.setO (hr : HRel P h.obj ι w) {F : Nat} {L : Loc} {o0 o : AO} {c : Obj} (ho : h.obj F = some o0) (hn0 : ∀ f, o0 ≠ .cells f) (hi : ι F 0 = some L)
    (w' : World) (hnew : w'.heap[L.b]? = some c) (hkeep : ∀ b, b ≠ L.b → w'.heap[b]? = w.heap[b]?) (hsize : w'.heap.size = w.heap.size)
    (hos : w'.os = w.os) (htp : w'.tape = w.tape) (hout : w'.output = w.output) (hn : ∀ f, o ≠ .cells f)
    (hmap : ∀ es ck, o = .map es ck → ∃ ces, c = .map ces ck ∧ EntsRel P ι es ces.toList)
    (hsit : ∀ l b p, o = .strIter l b p → L.p = 0 ∧ ∃ s : ByteArray, c = .stringIter s p ∧ strOf s.data.toList = .str l b)
    (hmi : ∀ m a b d, o ≠ .mapIter m a b d) (nx : Nat) :
    HRel P (h.put F o).obj ι w' ∧ Grow h.obj ι nx w (h.put F o).obj ι w' := by
  have hownF : Own h.obj ι F L := .inr ⟨fun f e => by rw [ho] at e; cases e; exact hn0 f rfl, by rw [ho]; simp, hi⟩
  have hOwn : ∀ F2 L2, Own (h.put F o).obj ι F2 L2 → Own h.obj ι F2 L2 := by
    intro F2 L2 hw
    by_cases hF : F2 = F
    · subst hF
      rcases hw with ⟨f3, g3, a, _⟩ | ⟨_, _, c⟩
      · rw [obj_put_self] at a; cases a; exact absurd rfl (hn f3)
      · exact .inr ⟨fun f e => by rw [ho] at e; cases e; exact hn0 f rfl, by rw [ho]; simp, c⟩
    · rcases hw with ⟨f3, g3, a, b, c, d⟩ | ⟨a, b, c⟩
      · rw [obj_put_ne h _ hF] at a; exact .inl ⟨f3, g3, a, b, c, d⟩
      · rw [obj_put_ne h _ hF] at b
        exact .inr ⟨fun f2 => by have := a f2; rwa [obj_put_ne h _ hF] at this, b, c⟩
  have hoth : ∀ F2 L2, F2 ≠ F → Own h.obj ι F2 L2 → w'.heap[L2.b]? = w.heap[L2.b]? := fun F2 L2 hF hw => hkeep _ (fun e => hF (hr.dis F2 F L2 L hw hownF e))
  refine ⟨{
    cells := by
      intro F2 f2 ho2 hp2 g h1 h2
      have hF : F2 ≠ F := fun e => by subst e; rw [obj_put_self] at ho2; cases ho2; exact hn f2 rfl
      rw [obj_put_ne h _ hF] at ho2
      obtain ⟨L2, a, b, c⟩ := hr.cells F2 f2 ho2 hp2 g h1 h2
      exact ⟨L2, a, b.heap (hoth F2 L2 hF (.inl ⟨f2, g, ho2, h1, h2, a⟩)), c⟩
    sameP := by
      intro F2 f2 g1 g2 L1 L2 ho2
      have hF : F2 ≠ F := fun e => by subst e; rw [obj_put_self] at ho2; cases ho2; exact hn f2 rfl
      rw [obj_put_ne h _ hF] at ho2
      exact hr.sameP F2 f2 g1 g2 L1 L2 ho2
    map := by
      intro F2 es ck L2 ho2 hl
      by_cases hF : F2 = F
      · subst hF
        rw [obj_put_self] at ho2
        cases ho2
        rw [hi] at hl
        cases hl
        obtain ⟨ces, a, b⟩ := hmap es ck rfl
        exact ⟨ces, by rw [hnew, a], b⟩
      · rw [obj_put_ne h _ hF] at ho2
        rw [hoth F2 L2 hF (.inr ⟨(fun f e => by rw [ho2] at e; cases e), (by rw [ho2]; simp), hl⟩)]
        exact hr.map F2 es ck L2 ho2 hl
    siter := by
      intro F2 l b p L2 ho2 hl
      by_cases hF : F2 = F
      · subst hF
        rw [obj_put_self] at ho2
        cases ho2
        rw [hi] at hl
        cases hl
        obtain ⟨q, s, a, b⟩ := hsit l b p rfl
        exact ⟨q, s, by rw [hnew, a], b⟩
      · rw [obj_put_ne h _ hF] at ho2
        rw [hoth F2 L2 hF (.inr ⟨(fun f e => by rw [ho2] at e; cases e), (by rw [ho2]; simp), hl⟩)]
        exact hr.siter F2 l b p L2 ho2 hl
    miter := by
      intro F2 m a b c ho2
      by_cases hF : F2 = F
      · subst hF; rw [obj_put_self] at ho2; cases ho2; exact hmi _ _ _ _ rfl
      · rw [obj_put_ne h _ hF] at ho2; exact hr.miter F2 m a b c ho2
    dis := fun F1 F2 L1 L2 q1 q2 q3 => hr.dis F1 F2 L1 L2 (hOwn _ _ q1) (hOwn _ _ q2) q3
    gens := by
      intro F2 f2 g2 ho2 hlt
      have hF : F2 ≠ F := fun e => by subst e; rw [obj_put_self] at ho2; cases ho2; exact hn f2 rfl
      rw [obj_put_ne h _ hF] at ho2
      exact hr.gens F2 f2 g2 ho2 hlt
    root := hr.root
    emb := by
      intro F2 o2 h2
      by_cases hF : F2 = F
      · subst hF; exact hr.root F2 _ L hi
      · rw [obj_put_ne h _ hF] at h2; exact hr.emb F2 o2 h2 }, ?_⟩
  have hro : ¬ Ro h.obj F := fun ⟨f1, a1, _⟩ => by rw [ho] at a1; cases a1; exact hn0 f1 rfl
  exact {
    le := .refl _
    fresh := fun _ a b => absurd a b
    os := hos
    tape := htp
    output := hout
    size := by omega
    keep := fun b hlt hw => hkeep b (fun e => hw ⟨F, L, hownF, e.symm, hro⟩)
    wown := by
      rintro b hlt ⟨F2, L2, q1, q2, q3⟩
      refine ⟨F2, L2, hOwn F2 L2 q1, q2, ?_⟩
      by_cases hF : F2 = F
      · subst hF; exact hro
      · exact fun ⟨f2, a1, a2⟩ => q3 ⟨f2, by rw [obj_put_ne h _ hF]; exact a1, a2⟩
    own := fun b _ ⟨F2, L2, q1, q2⟩ => ⟨F2, L2, hOwn F2 L2 q1, q2⟩
    absent := fun F2 _ hN => ⟨by rw [obj_put_ne h _ (fun e => by subst e; rw [ho] at hN; cases hN)]; exact hN, fun _ => rfl⟩ }

/-- cells that a string shares from now on -/
theorem HRel.freeze (hr : HRel P h.obj ι w) {F g o n : Nat} {f : Fam} {L : Loc} (hf : h.fam F g = some f) (hi : ι F g = some L) (hn : 0 < n) (er : f.ro = false) (es : f.sg = false) (nx : Nat) :
    HRel P (h.put F (.cells { f with frz := Nat.max f.frz (o + n) })).obj ι (w.freeze ⟨L.b, L.p + o, none⟩ n) ∧
    Grow h.obj ι nx w (h.put F (.cells { f with frz := Nat.max f.frz (o + n) })).obj ι (w.freeze ⟨L.b, L.p + o, none⟩ n) := by
  obtain ⟨ho, hlo, hgn, hk, _, _, _, hown⟩ := hr.at hf hi
  obtain ⟨arr, fr, hg, hN, hc, hz, hz2⟩ := hk.ex
  have hheap : (w.freeze ⟨L.b, L.p + o, none⟩ n).heap[L.b]? = some (.cells arr f.elem (if fr.1 == fr.2 then (L.p + o, L.p + o + n) else (min fr.1 (L.p + o), max fr.2 (L.p + o + n)))) := by
    unfold World.freeze
    rw [if_neg (by omega)]
    simp only [Array.getElem?_modify, if_pos, hg]
    obtain ⟨lo, hi⟩ := fr
    rfl
  have hoth : ∀ b, b ≠ L.b → (w.freeze ⟨L.b, L.p + o, none⟩ n).heap[b]? = w.heap[b]? := by
    intro b hb
    unfold World.freeze
    rw [if_neg (by omega)]
    simp only [Array.getElem?_modify]
    rw [if_neg (fun e => hb e.symm)]
  have hsz : (w.freeze ⟨L.b, L.p + o, none⟩ n).heap.size = w.heap.size := by
    unfold World.freeze
    rw [if_neg (by omega)]
    simp
  have hmax : f.frz ≤ Nat.max f.frz (o + n) ∧ o + n ≤ Nat.max f.frz (o + n) := ⟨Nat.le_max_left _ _, Nat.le_max_right _ _⟩
  have hL : ∀ (g' : Nat) (L' : Loc), f.low ≤ g' → g' ≤ f.gen → ι F g' = some L' → LocOk P ι w f L' → LocOk P ι (w.freeze ⟨L.b, L.p + o, none⟩ n) { f with frz := Nat.max f.frz (o + n) } L' := by
    intro g' L' q1 q2 q3 q4
    obtain ⟨arr2, fr2, p1, p2, p3, p4, p5⟩ := q4.ex
    by_cases hb : L'.b = L.b
    · have hp := hr.sameP F f g' g L' L ho q1 q2 hlo hgn q3 hi hb
      rw [hb, hg] at p1
      cases p1
      refine ⟨⟨arr, _, by rw [hb]; exact hheap, p2, p3, ?_, ?_⟩, q4.fit, q4.fix⟩
      · intro off h1 h2 h3
        have h1' : L'.p + Nat.max f.frz (o + n) ≤ off := h1
        have h4 := p4 off (by omega) h2
        have h5 := p4 (max fr.1 (L'.p + f.frz)) (by omega) (fun e => by rw [es] at e; cases e)
        by_cases he : fr.1 = fr.2
        · simp only [he, beq_self_eq_true, if_true] at h3
          omega
        · simp only [beq_iff_eq, he, if_false] at h3
          omega
      · by_cases he : fr.1 = fr.2
        · simp [he]
        · simp only [beq_iff_eq, he, if_false]
          omega
    · refine ⟨⟨arr2, fr2, by rw [hoth _ hb]; exact p1, p2, p3, ?_, p5⟩, q4.fit, q4.fix⟩
      intro off h1 h2
      exact p4 off (by have : L'.p + Nat.max f.frz (o + n) ≤ off := h1; omega) h2
  have hothO : ∀ (F' : Nat) (L' : Loc), F' ≠ F → Own h.obj ι F' L' → (w.freeze ⟨L.b, L.p + o, none⟩ n).heap[L'.b]? = w.heap[L'.b]? := fun F' L' hn hw => hoth _ (fun e => hn (hr.dis F' F L' L hw hown e))
  have hq : ∀ {F2 : Nat} {L2 : Loc}, Own (h.put F (.cells { f with frz := Nat.max f.frz (o + n) })).obj ι F2 L2 → Own h.obj ι F2 L2 := fun hw => hw.put (f' := { f with frz := Nat.max f.frz (o + n) }) ho (Nat.le_refl _) rfl
  refine ⟨{
    cells := by
      intro F2 f2 ho2 hp2 g2 h1 h2
      by_cases hF : F2 = F
      · subst hF
        rw [obj_put_self] at ho2
        cases ho2
        obtain ⟨L2, a, b, c⟩ := hr.cells F2 f ho hp2 g2 h1 h2
        exact ⟨L2, a, hL g2 L2 h1 h2 a b, c⟩
      · rw [obj_put_ne h _ hF] at ho2
        obtain ⟨L2, a, b, c⟩ := hr.cells F2 f2 ho2 hp2 g2 h1 h2
        exact ⟨L2, a, b.heap (hothO F2 L2 hF (.inl ⟨f2, g2, ho2, h1, h2, a⟩)), c⟩
    sameP := by
      intro F2 f2 g1 g2 L1 L2 ho2 q1 q2 q3 q4 q5 q6 q7
      by_cases hF : F2 = F
      · subst hF
        rw [obj_put_self] at ho2
        cases ho2
        exact hr.sameP F2 f g1 g2 L1 L2 ho q1 q2 q3 q4 q5 q6 q7
      · rw [obj_put_ne h _ hF] at ho2
        exact hr.sameP F2 f2 g1 g2 L1 L2 ho2 q1 q2 q3 q4 q5 q6 q7
    map := by
      intro F2 es ck L2 ho2 hl
      have hF : F2 ≠ F := fun e => by subst e; rw [obj_put_self] at ho2; cases ho2
      rw [obj_put_ne h _ hF] at ho2
      rw [hothO F2 L2 hF (.inr ⟨(fun f e => by rw [ho2] at e; cases e), (by rw [ho2]; simp), hl⟩)]
      exact hr.map F2 es ck L2 ho2 hl
    siter := by
      intro F2 l b p L2 ho2 hl
      have hF : F2 ≠ F := fun e => by subst e; rw [obj_put_self] at ho2; cases ho2
      rw [obj_put_ne h _ hF] at ho2
      rw [hothO F2 L2 hF (.inr ⟨(fun f e => by rw [ho2] at e; cases e), (by rw [ho2]; simp), hl⟩)]
      exact hr.siter F2 l b p L2 ho2 hl
    miter := by
      intro F2 m a b c ho2
      by_cases hF : F2 = F
      · subst hF; rw [obj_put_self] at ho2; cases ho2
      · rw [obj_put_ne h _ hF] at ho2; exact hr.miter F2 m a b c ho2
    dis := fun F1 F2 L1 L2 q1 q2 q3 => hr.dis F1 F2 L1 L2 (hq q1) (hq q2) q3
    gens := by
      intro F2 f2 g2 ho2 hlt
      by_cases hF : F2 = F
      · subst hF; rw [obj_put_self] at ho2; cases ho2; exact hr.gens F2 f g2 ho hlt
      · rw [obj_put_ne h _ hF] at ho2; exact hr.gens F2 f2 g2 ho2 hlt
    root := hr.root
    emb := by
      intro F2 o2 h2
      by_cases hF : F2 = F
      · subst hF; exact hr.root F2 _ L hi
      · rw [obj_put_ne h _ hF] at h2; exact hr.emb F2 o2 h2 }, ?_⟩
  have hro : ¬ Ro h.obj F := fun ⟨f1, a1, a2⟩ => by rw [ho] at a1; cases a1; rw [er] at a2; cases a2
  exact {
    le := .refl _
    fresh := fun _ a b => absurd a b
    os := by unfold World.freeze; split <;> rfl
    tape := by unfold World.freeze; split <;> rfl
    output := by unfold World.freeze; split <;> rfl
    size := by omega
    keep := fun b hlt hw => hoth b (fun e => hw ⟨F, L, hown, e.symm, hro⟩)
    wown := fun b _ hw => hw.put (f' := { f with frz := Nat.max f.frz (o + n) }) ho (Nat.le_refl _) rfl rfl
    own := fun b _ ⟨F2, L2, q1, q2⟩ => ⟨F2, L2, q1.put (f' := { f with frz := Nat.max f.frz (o + n) }) ho (Nat.le_refl _) rfl, q2⟩
    absent := fun F2 _ hN => ⟨by rw [obj_put_ne h _ (fun e => by subst e; rw [ho] at hN; cases hN)]; exact hN, fun _ => rfl⟩ }

end
end Go.Ai
