/- A part of the proof of ConsoleRuns: AiOps8. -/
import Derived.Test.YtngchkhbhcgmhaaGreatDoorAiOps7
set_option linter.unusedVariables false
set_option linter.unusedSimpArgs false
set_option linter.unusedSectionVars false
set_option linter.unnecessarySimpa false
/- append onto a slice. -/
namespace Go.Ai

section
variable {P : Program} {ι κ : Emb} {w w' : World} {h h' : H}

theorem VRelL.toList_append {a b : List AV} {x y : Array Value} (h1 : VRelL P ι a x.toList) (h2 : VRelL P ι b y.toList) : VRelL P ι (a ++ b) (x ++ y).toList := by
  rw [Array.toList_append]; exact h1.append h2

/-- a row of its own -/
theorem fresh_rel (hs : St P h ι w) {e : TypeId} {sz need cap : Nat} {all : List AV} {arr rest : Array Value} (hsz : 1 ≤ sz) (hv : VRelL P ι all arr.toList) (hl : all.length = need * sz) (hcap : need ≤ cap) (hr : rest.size = (cap - need) * sz) :
    ∃ κ, VRel P κ (freshA h e sz need all).1 (.slice (some ⟨w.heap.size, 0, none⟩) need cap) ∧ Done P h ι w (freshA h e sz need all).2 κ (w.drew.alloc (.cells (arr ++ rest) e)) := by
  have hal : arr.size = need * sz := by rw [← hl, hv.length]; simp
  have htot : (arr ++ rest).size = cap * sz := by
    rw [Array.size_append, hal, hr, ← Nat.add_mul]
    congr 1
    omega
  have hnc : need * sz ≤ cap * sz := Nat.mul_le_mul_right _ hcap
  have hd := new_rel hs { mkFam e all with fix := false } all (arr ++ rest) (0, 0) (w.drew.alloc (.cells (arr ++ rest) e)) rfl rfl rfl rfl
    (by
      have : (arr ++ rest).toList.take all.length = arr.toList := by
        rw [hv.length, Array.toList_append]
        exact List.take_left
      rw [this]
      exact hv) (by rw [htot, hl]; exact hnc) (fun q => by cases q) (fun off _ _ hh => by simp at hh) (Nat.le_refl _) rfl rfl rfl rfl
  refine ⟨_, ?_, hd⟩
  refine VRel.slc (upd_self _ _ _ _) hsz hcap ?_ ?_ (fun q hq => by cases hq) (fun _ => ?_) (fun _ => rfl)
  · show 0 + need * sz ≤ all.length
    omega
  · show 0 + 0 + cap * sz ≤ (arr ++ rest).size
    omega
  · show 0 + 0 + cap * sz = (arr ++ rest).size
    omega

/-- a row behind its known cells -/
theorem LocOk.grow_in {f : Fam} {L : Loc} (hk : LocOk P ι w f L) {o : Nat} {new : List AV} {news : List Value} (hv : VRelL P ι new news) (h1 : ∀ v ∈ news, v.oneCell' = true)
    (hfz : f.frz ≤ o) (hN : L.p + o + new.length ≤ L.N) :
    ∃ w' arr arr' fr, w.heap[L.b]? = some (.cells arr f.elem fr) ∧ (storeCells ⟨L.b, L.p + o, none⟩ news).run P w = .ok () w' ∧ w'.heap[L.b]? = some (.cells arr' f.elem fr) ∧ arr'.size = L.N ∧ arr.size = L.N ∧
      (∀ k, arr'[k]? = if L.p + o ≤ k ∧ k < L.p + o + news.length then news[k - (L.p + o)]? else arr[k]?) ∧
      (∀ off, L.p + f.frz ≤ off → (f.sg = true → off < L.N) → ¬ (fr.1 ≤ off ∧ off < fr.2)) ∧ fr.1 ≤ fr.2 ∧
      (∀ i, i < L.m → ∃ av v, f.c.get i = some av ∧ arr[L.p + i]? = some v ∧ VRel P ι av v) ∧
      (∀ c, c ≠ L.b → w'.heap[c]? = w.heap[c]?) ∧ w'.heap.size = w.heap.size ∧ w'.os = w.os ∧ w'.tape = w.tape ∧ w'.output = w.output := by
  obtain ⟨arr, fr, hg, hN', hc, hz, hz2⟩ := hk.ex
  have hlen := hv.length
  obtain ⟨w', arr', r1, r2, r3, r4, r5, r6, r7, r8, r9⟩ := run_storeA (P := P) L.b (L.p + o) news 0 w arr f.elem fr hg (by omega) (fun j hj => hz _ (by omega) (fun _ => by omega)) h1
  exact ⟨w', arr, arr', fr, hg, r1, r2, by omega, hN', by simpa using r4, hz, hz2, hc, r5, r6, r7, r8, r9⟩

theorem H.store_eq {F g o : Nat} {f : Fam} {vs : List AV} (hf : h.fam F g = some f) (hg : g = f.gen) (hz : f.frz ≤ o) (hs : o + vs.length ≤ f.sz) (hr : f.ro = false) :
    h.store F g o vs = some (h.put F (.cells (f.store o vs))) := by
  subst hg
  unfold H.store
  have a1 : Nat.beq f.gen f.gen = true := Nat.beq_refl _
  have a2 : Nat.ble f.frz o = true := Nat.ble_eq_true_of_le hz
  have a3 : Nat.ble (Nat.add o vs.length) f.sz = true := Nat.ble_eq_true_of_le hs
  rw [hf]
  simp only [a1, a2, a3, hr]

/-- a new row that holds an old one's cells, and more -/
theorem LocOk.fresh {f' : Fam} {w' : World} {κ : Emb} {all : List AV} {arr : Array Value} {b : Nat} (hg : w'.heap[b]? = some (.cells arr f'.elem (0, 0))) (hv : VRelL P κ all (arr.toList.take all.length))
    (hc : ∀ i, i < all.length → f'.c.get i = all[i]?) (hle : all.length ≤ arr.size) (hfx : f'.fix = false) : LocOk P κ w' f' ⟨b, 0, all.length, arr.size⟩ := by
  refine ⟨⟨arr, (0, 0), hg, rfl, ?_, fun off _ _ hh => by simp at hh, Nat.le_refl _⟩, ?_, fun q => by rw [hfx] at q; cases q⟩
  · intro i hi
    have hi' : i < all.length := hi
    obtain ⟨x, a, b⟩ := hv.get i _ (List.getElem?_eq_getElem hi')
    refine ⟨all[i], x, ?_, ?_, b⟩
    · rw [hc i hi']; exact List.getElem?_eq_getElem hi'
    · rw [List.getElem?_take_of_lt hi'] at a
      simpa using a
  · show 0 + all.length ≤ arr.size
    omega

theorem appendA_rel (hs : St P h ι w) {t u ty : TypeId} {d : TypeDesc} {v1 v2 r : AV} {x y : Value} (hu : P.underlying u = some d) (hv : appendA P h t (isIntTy P u) v1 v2 = some (r, h')) (hx : VRel P ι v1 x) (hy : VRel P ι v2 y) :
    Does P h ι w (Builtin.append_ #[t, u] ty #[x, y]) r h' := by
  unfold appendA at hv
  split at hv
  · rename_i e ht
    split at hv
    · rename_i sz by_ z hsz hby hz
      obtain ⟨i, hi, hisz⟩ := tsz_info hsz
      obtain ⟨i2, hi2, hiby⟩ := tby_info hby
      rw [hi] at hi2
      cases hi2
      obtain ⟨zx, hzx, hzr⟩ := run_zero hz
      have hcrz := cells_rel (hzr ι) (tzero_ne_junk hz)
      split at hv
      · -- nothing is appended
        rename_i new hsrc hzs hcond
        simp only [Bool.and_eq_true] at hcond
        have hs1 : 1 ≤ sz := Nat.le_of_ble_eq_true hcond.1
        obtain ⟨news, q1, q2, q3, q4⟩ := srcF_rel hs.rel hu hi hisz hs1 hzs hsrc hy (by omega)
        have hn0 : news = #[] := by
          have := q2.length
          have h3 : new.length = 0 := by omega
          rw [h3] at this
          exact Array.eq_empty_of_size_eq_zero (by simpa using this.symm)
        subst hn0
        split at hv
        · cases hv
          cases hx
          refine ⟨_, w, ι, run_app_room ht hi q1 (Nat.le_refl _) (base := none) rfl, .nils, .refl hs⟩
        · rename_i F g o s' n c
          cases hv
          have hx' := hx
          cases hx with
          | slc hi' hs' hn hm hN hc hu' ha =>
            refine ⟨_, w, ι, run_app_room ht hi q1 (by omega) (base := some _) rfl, hx', .refl hs⟩
        · cases hv
      · rename_i n new hne hsrc hzs hcond
        simp only [Bool.and_eq_true] at hcond
        have hs1 : 1 ≤ sz := Nat.le_of_ble_eq_true hcond.1
        have hzl : z.cells.length = sz := Nat.eq_of_beq_eq_true hcond.2
        have hzsz : zx.cells.size = sz := by rw [← hzl, hcrz.length]; simp
        have hn : 0 < n := by
          rcases Nat.eq_zero_or_pos n with q | q
          · exact absurd q hne
          · exact q
        have hrest : ∀ c k, (Builtin.zeroCells zx.cells (c - k)).size = (c - k) * sz := fun c k => by rw [size_zeroCells, hzsz]
        split at hv
        · -- onto nil
          split at hv
          · rename_i hbig
            have hbig' : n * (i.bytes + 1) ≤ 1000000000000 := by rw [hiby]; exact Nat.le_of_ble_eq_true hbig
            obtain ⟨news, q1, q2, q3, q4⟩ := srcF_rel hs.rel hu hi hisz hs1 hzs hsrc hy hbig'
            cases hv
            cases hx
            have hrun := run_app_grow (P := P) (w := w) (ty := ty) (base := none) (sLen := 0) (sCap := 0) (olds := #[]) ht hi hzx q1 hn (by omega) (by simpa using hbig') (fun w2 _ => run_firstCells_none w2 _ _ _ _)
            have h0n : 0 + n = n := Nat.zero_add n
            rw [h0n, show (#[] : Array Value) ++ news = news by simp] at hrun
            obtain ⟨κ, a, b⟩ := fresh_rel hs (e := e) hs1 q2 q3 (grownCap_ge w n 0 e) (hrest (grownCap w n 0 e) n)
            exact ⟨_, _, κ, hrun, a, b⟩
          · cases hv
        · rename_i F g o s' len c
          split at hv
          · rename_i hss hbig
            have hss' : s' = sz := Nat.eq_of_beq_eq_true hss
            subst hss'
            have hbig' : (n + len) * (i.bytes + 1) ≤ 1000000000000 := by rw [hiby]; exact Nat.le_of_ble_eq_true hbig
            have hbig'' : n * (i.bytes + 1) ≤ 1000000000000 := by
              have := Nat.mul_le_mul_right (i.bytes + 1) (show n ≤ n + len by omega)
              omega
            obtain ⟨news, q1, q2, q3, q4⟩ := srcF_rel hs.rel hu hi hisz hs1 hzs hsrc hy hbig''
            have hfl1 := flatL_rel q2 q4
            have hnl : news.toList.length = n * s' := by rw [← q2.length, q3]
            split at hv
            · -- the room is known
              rename_i c
              split at hv
              · rename_i hroom
                have hroom' : len + n ≤ c := Nat.le_of_ble_eq_true hroom
                split at hv
                · rename_i h1 hst
                  cases hv
                  cases hx with
                  | slc hi' hs' hn' hm hN hc hu' ha =>
                    rename_i L a k
                    obtain ⟨rfl, hkc⟩ := hc c rfl
                    have ha' := ha (by omega)
                    subst ha'
                    obtain ⟨w', r1, r2, r3, r4⟩ := hs.rel.store hst hi' q2 hfl1 h.nx
                    refine ⟨.slice (some ⟨L.b, L.p + o, none⟩) (len + n) k, w', ι, run_app_room ht hi q1 hroom' (base := some _) ?_, ?_, r2, r3, ?_, by omega, hs.fit⟩
                    · show (storeCells ((⟨L.b, L.p + o, none⟩ : Addr).add (len * i.size)) news.toList).run P w = _
                      rw [addr_add, hisz]
                      have : L.p + o + len * s' = L.p + (o + len * s') := by omega
                      rw [this]
                      exact r1
                    · exact .slc hi' hs' hroom' (by have q := Nat.mul_le_mul_right s' hroom'; show o + (len + n) * s' ≤ L.m; omega) hN hc hu' ha
                    · intro F' g' hF; exact hs.bd F' g' (by omega)
                · cases hv
              · rename_i hroom
                have hroom' : c < len + n := by
                  rcases Nat.lt_or_ge c (len + n) with q | q
                  · exact q
                  · have q' := Nat.ble_eq_true_of_le q
                    have hr2 : Nat.ble (len + n) c = false := hroom
                    rw [hr2] at q'
                    cases q'
                split at hv
                · rename_i l hl
                  cases hv
                  obtain ⟨a, k, vs, hxe, r1, r2, r3⟩ := slc_load hs.rel hx hl
                  subst hxe
                  have hk : k = c := by
                    cases hx with
                    | slc hi' hs' hn' hm hN hc hu' ha => exact (hc c rfl).1
                  subst hk
                  have hrun := run_app_grow (P := P) (w := w) (ty := ty) (base := some a) (sLen := len) (sCap := k) (olds := vs.toArray) ht hi hzx q1 hn hroom' (by rw [Nat.add_comm len n]; exact hbig')
                    (fun w2 hw => run_firstCells_some w2 _ _ _ _ _ vs (by rw [r2, hisz]) (fun j v hj => by
                      have := r3 j v hj
                      unfold World.cell? at this ⊢
                      rw [hw]
                      exact this))
                  have hva : VRelL P ι (l ++ new) (vs.toArray ++ news).toList := VRelL.toList_append (by simpa using r1) q2
                  have hla : (l ++ new).length = (len + n) * s' := by rw [List.length_append, r1.length, r2, q3, Nat.add_mul]
                  obtain ⟨κ, a', b⟩ := fresh_rel hs (e := e) hs1 hva hla (grownCap_ge w (len + n) k e) (hrest (grownCap w (len + n) k e) (len + n))
                  exact ⟨_, _, κ, hrun, a', b⟩
                · cases hv
            · -- the room is not known
              split at hv
              · rename_i f hfam
                split at hv
                · rename_i hcnd
                  simp only [Bool.and_eq_true, Bool.not_eq_true'] at hcnd
                  obtain ⟨⟨hel, hfz⟩, hro⟩ := hcnd
                  have hel' : f.elem = e := Nat.eq_of_beq_eq_true hel
                  have hfz' : f.frz ≤ o + len * s' := Nat.le_of_ble_eq_true hfz
                  cases hx with
                  | slc hi' hs' hn' hm hN hc hu' ha =>
                  rename_i L a k
                  obtain ⟨ho, hlo, hgn, hk, hmsz, hmgen, _, hown⟩ := hs.rel.at hfam hi'
                  have huk := hu' rfl
                  have hlb : L.b < w.heap.size := hs.rel.lt hown
                  have hnl2 : new.length = news.toList.length := q2.length
                  have hadd : (len + n) * s' = len * s' + n * s' := Nat.add_mul _ _ _
                  have hroomN : len + n ≤ k → L.p + (o + len * s') + new.length ≤ L.N := by
                    intro q
                    have := Nat.mul_le_mul_right s' q
                    omega
                  have hstA : ∀ w', (storeCells ⟨L.b, L.p + (o + len * s'), none⟩ news.toList).run P w = .ok () w' → len + n ≤ k →
                      (Builtin.append_ #[t, u] ty #[.slice (some a) len k, y]).run P w = .ok (.slice (some a) (len + n) k) w' ∧ a = ⟨L.b, L.p + o, none⟩ := by
                    intro w' r1 hroom'
                    have ha' := ha (by omega)
                    subst ha'
                    refine ⟨run_app_room ht hi q1 hroom' (base := some _) ?_, rfl⟩
                    show (storeCells ((⟨L.b, L.p + o, none⟩ : Addr).add (len * i.size)) news.toList).run P w = _
                    rw [addr_add, hisz]
                    have : L.p + o + len * s' = L.p + (o + len * s') := by omega
                    rw [this]
                    exact r1
                  have hgrowA : ∀ (l : List AV) (vs : List Value), VRelL P ι l vs → vs.length = len * s' → (∀ (j : Nat) v, vs[j]? = some v → w.cell? (a.add j) = some v) → k < len + n →
                      (Builtin.append_ #[t, u] ty #[.slice (some a) len k, y]).run P w = .ok (.slice (some ⟨w.heap.size, 0, none⟩) (len + n) (grownCap w (len + n) k e))
                        (w.drew.alloc (.cells (vs.toArray ++ news ++ Builtin.zeroCells zx.cells (grownCap w (len + n) k e - (len + n))) e)) := by
                    intro l vs _ r2 r3 hroom'
                    exact run_app_grow (P := P) (w := w) (ty := ty) (base := some a) (sLen := len) (sCap := k) (olds := vs.toArray) ht hi hzx q1 hn hroom' (by rw [Nat.add_comm len n]; exact hbig')
                      (fun w2 hw => run_firstCells_some w2 _ _ _ _ _ vs (by rw [r2, hisz]) (fun j v hj => by
                        have := r3 j v hj
                        unfold World.cell? at this ⊢
                        rw [hw]
                        exact this))
                  have hxk : VRel P ι (.slc F g o s' len none) (.slice (some a) len k) := .slc hi' hs' hn' hm hN hc hu' ha
                  split at hv
                  · -- within the known cells
                    rename_i _ hgg hin
                    cases hv
                    have hgg' : g = f.gen := Nat.eq_of_beq_eq_true hgg
                    have hin' : o + len * s' + new.length ≤ f.sz := Nat.le_of_ble_eq_true hin
                    have hLm := hmgen hgg'
                    have hfit := hk.fit
                    have hroom' : len + n ≤ k := by
                      apply Nat.le_of_mul_le_mul_right (c := s') _ hs'
                      omega
                    obtain ⟨w', r1, r2, r3, r4⟩ := hs.rel.store (H.store_eq hfam hgg' hfz' hin' hro) hi' q2 hfl1 h.nx
                    obtain ⟨hrun, hae⟩ := hstA w' r1 hroom'
                    refine ⟨_, w', ι, hrun, ?_, r2, r3, ?_, Nat.le_refl _, hs.fit⟩
                    · exact .slc hi' hs' hroom' (by show o + (len + n) * s' ≤ L.m; omega) hN (fun q hq => by cases hq) hu' ha
                    · intro F' g' hF; exact hs.bd F' g' hF
                  · -- a new generation
                    rename_i hgg hin hoff
                    cases hv
                    have hgg' : g = f.gen := Nat.eq_of_beq_eq_true hgg
                    simp only [Bool.and_eq_true] at hoff
                    have hoff' : o + len * s' = f.sz := Nat.eq_of_beq_eq_true hoff.1
                    have ho0 : o = 0 := Nat.eq_of_beq_eq_true hoff.2
                    subst ho0
                    subst hgg'
                    have hLm := hmgen rfl
                    have hcget : ∀ i, (stL f.c f.sz new).get i = if f.sz ≤ i ∧ i < f.sz + new.length then new[i - f.sz]? else f.c.get i := fun i => get_stL new f.c f.sz i
                    by_cases hroom' : len + n ≤ k
                    · have hNN := hroomN hroom'
                      obtain ⟨w', arr, arr', fr, g1, r1, g2, g3, g4, g5, g6, g7, g8, g9, g10, g11, g12, g13⟩ := hk.grow_in q2 hfl1 hfz' hNN
                      obtain ⟨hrun, hae⟩ := hstA w' r1 hroom'
                      have hle : Emb.le ι (upd ι F (f.gen + 1) ⟨L.b, L.p, f.sz + new.length, L.N⟩) := upd_le ι _ (hs.rel.gens F f _ ho (by omega))
                      obtain ⟨x1, x2, x3⟩ := hs.rel.regen hs.bd hfam hi' { f with gen := Nat.succ f.gen, fix := false, old := f.sz, sz := Nat.add f.sz new.length, c := stL f.c f.sz new }
                        ⟨L.b, L.p, f.sz + new.length, L.N⟩ w' rfl (Nat.le_refl _) (by show f.low ≤ f.gen + 1; omega) hro hro
                        (by
                          intro g' Lg p1 p2 p3 p4 p5 p6
                          refine ⟨?_, by show Lg.m ≤ f.sz + new.length; omega, p5, p6⟩
                          obtain ⟨arr2, fr2, o1, o2, o3, o4, o5⟩ := p4.ex
                          by_cases hb : Lg.b = L.b
                          · have hp := p6 hb
                            rw [hb, g1] at o1
                            cases o1
                            refine ⟨⟨arr', fr, by rw [hb]; exact g2, by rw [g3, ← o2, g4], ?_, ?_, o5⟩, p4.fit, fun q => by cases q⟩
                            · intro i hi
                              obtain ⟨av, v, c1, c2, c3⟩ := o3 i hi
                              refine ⟨av, v, ?_, ?_, c3.mono hle⟩
                              · show (stL f.c f.sz new).get i = _
                                rw [hcget, if_neg (by omega)]; exact c1
                              · rw [g5, if_neg (by omega)]; exact c2
                            · exact o4
                          · refine ⟨⟨arr2, fr2, by rw [g9 _ hb]; exact o1, o2, ?_, o4, o5⟩, p4.fit, fun q => by cases q⟩
                            intro i hi
                            obtain ⟨av, v, c1, c2, c3⟩ := o3 i hi
                            refine ⟨av, v, ?_, c2, c3.mono hle⟩
                            show (stL f.c f.sz new).get i = _
                            rw [hcget, if_neg (by omega)]; exact c1)
                        ⟨⟨⟨arr', fr, g2, g3, by
                            intro i hi
                            have hi2 : i < f.sz + new.length := hi
                            by_cases hlt : i < f.sz
                            · obtain ⟨av, v, c1, c2, c3⟩ := g8 i (by omega)
                              refine ⟨av, v, ?_, ?_, c3.mono hle⟩
                              · show (stL f.c f.sz new).get i = _
                                rw [hcget, if_neg (by omega)]; exact c1
                              · show arr'[L.p + i]? = _
                                rw [g5, if_neg (by omega)]; exact c2
                            · have hj : i - f.sz < new.length := by omega
                              obtain ⟨v, c1, c2⟩ := q2.get _ _ (List.getElem?_eq_getElem hj)
                              refine ⟨new[i - f.sz], v, ?_, ?_, c2.mono hle⟩
                              · show (stL f.c f.sz new).get i = _
                                rw [hcget, if_pos (by omega)]; exact List.getElem?_eq_getElem hj
                              · show arr'[L.p + i]? = _
                                rw [g5, if_pos (by omega), show L.p + i - (L.p + (0 + len * s')) = i - f.sz by omega]; exact c1, g6, g7⟩, by show L.p + (f.sz + new.length) ≤ L.N; omega, fun q => by cases q⟩, rfl⟩
                        (fun F2 L2 hne hw e => hne (hs.rel.dis F2 F L2 L hw hown e)) (fun b _ hb => g9 b hb) (fun _ => rfl) (by omega) g11 g12 g13 h.nx
                      refine ⟨_, w', _, hrun, ?_, x1, x2, x3, Nat.le_refl _, ?_⟩
                      · refine .slc (upd_self _ _ _ _) hs' hroom' ?_ hN (fun q hq => by cases hq) (fun _ => huk) ha
                        show 0 + (len + n) * s' ≤ f.sz + new.length
                        omega
                      · intro F' g' L' hL'
                        unfold upd at hL'
                        split at hL'
                        · cases hL'
                          show L.p + (f.sz + new.length) ≤ L.N
                          omega
                        · exact hs.fit F' g' L' hL'
                    · obtain ⟨l, hl⟩ : ∃ l, ldN f.c 0 (len * s') = some l := by
                        refine ⟨(List.range (len * s')).map fun i => (f.c.get i).getD .junk, ldN_of _ _ _ _ (by simp) (fun j hj => ?_)⟩
                        obtain ⟨arr, fr, _, _, c1, _⟩ := hk.ex
                        obtain ⟨av, v, d1, _⟩ := c1 j (by omega)
                        simp [hj, d1]
                      obtain ⟨hll, hlg⟩ := ldN_some _ _ _ _ hl
                      obtain ⟨a', k', vs, hxe, r1, r2, r3⟩ := slc_load hs.rel hxk (l := l) (by unfold H.load; rw [hfam]; exact hl)
                      cases hxe
                      have hrun := hgrowA _ vs r1 r2 r3 (by omega)
                      have hcap := grownCap_ge w (len + n) k e
                      have hva : VRelL P ι (l ++ new) (vs.toArray ++ news).toList := VRelL.toList_append (by simpa using r1) q2
                      have hla : (l ++ new).length = f.sz + new.length := by rw [List.length_append, hll]; omega
                      have hrs := hrest (grownCap w (len + n) k e) (len + n)
                      generalize hrr : Builtin.zeroCells zx.cells (grownCap w (len + n) k e - (len + n)) = rest at hrun hrs
                      have hsa : (vs.toArray ++ news).size = f.sz + new.length := by rw [← hla, hva.length]; simp
                      have htot : (vs.toArray ++ news ++ rest).size = grownCap w (len + n) k e * s' := by
                        rw [Array.size_append, hsa, hrs]
                        have := Nat.add_mul (grownCap w (len + n) k e - (len + n)) (len + n) s'
                        rw [Nat.sub_add_cancel hcap] at this
                        omega
                      have hle : Emb.le ι (upd ι F (f.gen + 1) ⟨w.heap.size, 0, (l ++ new).length, (vs.toArray ++ news ++ rest).size⟩) := upd_le ι _ (hs.rel.gens F f _ ho (by omega))
                      have hold : ∀ b, b < w.heap.size → (w.drew.alloc (.cells (vs.toArray ++ news ++ rest) e)).heap[b]? = w.heap[b]? := fun b hb => heap_alloc_old w.drew _ b hb
                      obtain ⟨x1, x2, x3⟩ := hs.rel.regen hs.bd hfam hi' { f with gen := Nat.succ f.gen, fix := false, old := f.sz, sz := Nat.add f.sz new.length, c := stL f.c f.sz new }
                        ⟨w.heap.size, 0, (l ++ new).length, (vs.toArray ++ news ++ rest).size⟩ (w.drew.alloc (.cells (vs.toArray ++ news ++ rest) e)) rfl (Nat.le_refl _) (by show f.low ≤ f.gen + 1; omega) hro hro
                        (by
                          intro g' Lg p1 p2 p3 p4 p5 p6
                          have hlt : Lg.b < w.heap.size := hs.rel.lt (.inl ⟨f, g', ho, by have p1' : f.low ≤ g' := p1; exact p1', p2, p3⟩)
                          refine ⟨?_, by show Lg.m ≤ f.sz + new.length; omega, p5, fun q => by have q' : Lg.b = w.heap.size := q; omega⟩
                          obtain ⟨arr2, fr2, o1, o2, o3, o4, o5⟩ := p4.ex
                          refine ⟨⟨arr2, fr2, by rw [hold _ hlt]; exact o1, o2, ?_, o4, o5⟩, p4.fit, fun q => by cases q⟩
                          intro i hi
                          obtain ⟨av, v, c1, c2, c3⟩ := o3 i hi
                          refine ⟨av, v, ?_, c2, c3.mono hle⟩
                          show (stL f.c f.sz new).get i = _
                          rw [hcget, if_neg (by omega)]; exact c1)
                        ⟨LocOk.fresh (all := l ++ new) (by rw [hel']; exact heap_alloc_new w.drew _) (by
                            have : (vs.toArray ++ news ++ rest).toList.take (l ++ new).length = (vs.toArray ++ news).toList := by
                              rw [hva.length, Array.toList_append (xs := vs.toArray ++ news)]
                              exact List.take_left
                            rw [this]
                            exact hva.mono hle) (by
                            intro i hi
                            show (stL f.c f.sz new).get i = _
                            rw [hcget]
                            by_cases hlt : i < f.sz
                            · rw [if_neg (by omega), List.getElem?_append_left (by omega), ← hlg i (by omega), Nat.zero_add]
                            · rw [if_pos (by omega), List.getElem?_append_right (by omega)]
                              congr 1
                              omega) (by rw [htot, hla]; have := Nat.mul_le_mul_right s' hcap; omega) rfl, hla⟩
                        (fun F2 L2 hne hw e => by have := hs.rel.lt hw; have e' : L2.b = w.heap.size := e; omega) (fun b hb _ => hold b hb) (fun q => absurd q (by show ¬ (w.heap.size < w.heap.size); omega)) (by simp) rfl rfl rfl h.nx
                      refine ⟨_, _, _, hrun, ?_, x1, x2, x3, Nat.le_refl _, ?_⟩
                      · refine .slc (upd_self _ _ _ _) hs' hcap ?_ ?_ (fun q hq => by cases hq) (fun _ => ?_) (fun _ => rfl)
                        · show 0 + (len + n) * s' ≤ (l ++ new).length
                          omega
                        · show 0 + 0 + grownCap w (len + n) k e * s' ≤ (vs.toArray ++ news ++ rest).size
                          omega
                        · show 0 + 0 + grownCap w (len + n) k e * s' = (vs.toArray ++ news ++ rest).size
                          omega
                      · intro F' g' L' hL'
                        unfold upd at hL'
                        split at hL'
                        · cases hL'
                          show 0 + (l ++ new).length ≤ (vs.toArray ++ news ++ rest).size
                          rw [htot, hla]; have := Nat.mul_le_mul_right s' hcap; omega
                        · exact hs.fit F' g' L' hL'
                  · -- a row of its own
                    split at hv
                    · rename_i l hl
                      cases hv
                      obtain ⟨hll, hlg⟩ := ldN_some _ _ _ _ hl
                      have hla : (l ++ new).length = (len + n) * s' := by rw [List.length_append]; have : l.length = len * s' := hll; omega
                      have hll' : l.length = len * s' := hll
                      have hnone := hs.bd h.nx 0 (Nat.le_refl _)
                      by_cases hroom' : len + n ≤ k
                      · have hNN := hroomN hroom'
                        obtain ⟨w', arr, arr', fr, g1, r1, g2, g3, g4, g5, g6, g7, g8, g9, g10, g11, g12, g13⟩ := hk.grow_in q2 hfl1 hfz' hNN
                        obtain ⟨hrun, hae⟩ := hstA w' r1 hroom'
                        have hle : Emb.le ι (upd ι h.nx 0 ⟨L.b, L.p + o, (l ++ new).length, L.N⟩) := upd_le ι _ hnone
                        obtain ⟨x1, x2, x3⟩ := hs.rel.retake hs.bd hfam hi' hro { mkFam e (l ++ new) with frz := f.frz, sg := f.sg, fix := false } ⟨L.b, L.p + o, (l ++ new).length, L.N⟩ w' rfl rfl
                          ⟨⟨arr', fr, by rw [← hel']; exact g2, g3, by
                            intro i hi
                            have hi2 : i < (l ++ new).length := hi
                            have hgc : (stL .lf 0 (l ++ new)).get i = (l ++ new)[i]? := by rw [get_stL, if_pos (by omega)]; simp
                            by_cases hlt : i < len * s'
                            · obtain ⟨av, v, c1, c2, c3⟩ := g8 (o + i) (by omega)
                              refine ⟨av, v, ?_, ?_, c3.mono hle⟩
                              · show (stL .lf 0 (l ++ new)).get i = _
                                rw [hgc, List.getElem?_append_left (by omega), ← hlg i hlt]; exact c1
                              · show arr'[L.p + o + i]? = _
                                rw [g5, if_neg (by omega), show L.p + o + i = L.p + (o + i) by omega]; exact c2
                            · have hj : i - l.length < new.length := by omega
                              obtain ⟨v, c1, c2⟩ := q2.get _ _ (List.getElem?_eq_getElem hj)
                              refine ⟨new[i - l.length], v, ?_, ?_, c2.mono hle⟩
                              · show (stL .lf 0 (l ++ new)).get i = _
                                rw [hgc, List.getElem?_append_right (by omega)]; exact List.getElem?_eq_getElem hj
                              · show arr'[L.p + o + i]? = _
                                rw [g5, if_pos (by omega), show L.p + o + i - (L.p + (o + len * s')) = i - l.length by omega]; exact c1,
                            by
                              intro off e1 e2
                              refine g6 off ?_ e2
                              have e1' : L.p + o + f.frz ≤ off := e1
                              omega, g7⟩, by show L.p + o + (l ++ new).length ≤ L.N; omega, fun q => by cases q⟩ rfl
                          (fun b _ hb => g9 b hb) (fun _ => rfl) (by omega) g11 g12 g13
                        refine ⟨_, w', _, hrun, ?_, x1, x2, x3, Nat.le_succ _, ?_⟩
                        · rw [hae]
                          refine VRel.slc (o := 0) (L := ⟨L.b, L.p + o, (l ++ new).length, L.N⟩) (upd_self _ _ _ _) hs' hroom' ?_ ?_ (fun q hq => by cases hq) (fun _ => ?_) (fun _ => rfl)
                          · show 0 + (len + n) * s' ≤ (l ++ new).length
                            omega
                          · show L.p + o + 0 + k * s' ≤ L.N
                            omega
                          · show L.p + o + 0 + k * s' = L.N
                            omega
                        · intro F' g' L' hL'
                          unfold upd at hL'
                          split at hL'
                          · cases hL'
                            show L.p + o + (l ++ new).length ≤ L.N
                            omega
                          · exact hs.fit F' g' L' hL'
                      · obtain ⟨a', k', vs, hxe, r1, r2, r3⟩ := slc_load hs.rel hxk (l := l) (by unfold H.load; rw [hfam]; exact hl)
                        cases hxe
                        have hrun := hgrowA _ vs r1 r2 r3 (by omega)
                        have hcap := grownCap_ge w (len + n) k e
                        have hva : VRelL P ι (l ++ new) (vs.toArray ++ news).toList := VRelL.toList_append (by simpa using r1) q2
                        have hrs := hrest (grownCap w (len + n) k e) (len + n)
                        generalize hrr : Builtin.zeroCells zx.cells (grownCap w (len + n) k e - (len + n)) = rest at hrun hrs
                        have hsa : (vs.toArray ++ news).size = (len + n) * s' := by rw [← hla, hva.length]; simp
                        have htot : (vs.toArray ++ news ++ rest).size = grownCap w (len + n) k e * s' := by
                          rw [Array.size_append, hsa, hrs]
                          have := Nat.add_mul (grownCap w (len + n) k e - (len + n)) (len + n) s'
                          rw [Nat.sub_add_cancel hcap] at this
                          omega
                        have hle : Emb.le ι (upd ι h.nx 0 ⟨w.heap.size, 0, (l ++ new).length, (vs.toArray ++ news ++ rest).size⟩) := upd_le ι _ hnone
                        have hold : ∀ b, b < w.heap.size → (w.drew.alloc (.cells (vs.toArray ++ news ++ rest) e)).heap[b]? = w.heap[b]? := fun b hb => heap_alloc_old w.drew _ b hb
                        have hcm := Nat.mul_le_mul_right s' hcap
                        obtain ⟨x1, x2, x3⟩ := hs.rel.retake hs.bd hfam hi' hro { mkFam e (l ++ new) with frz := f.frz, sg := f.sg, fix := false } ⟨w.heap.size, 0, (l ++ new).length, (vs.toArray ++ news ++ rest).size⟩
                          (w.drew.alloc (.cells (vs.toArray ++ news ++ rest) e)) rfl rfl
                          (LocOk.fresh (all := l ++ new) (heap_alloc_new w.drew _) (by
                            have : (vs.toArray ++ news ++ rest).toList.take (l ++ new).length = (vs.toArray ++ news).toList := by
                              rw [hva.length, Array.toList_append (xs := vs.toArray ++ news)]
                              exact List.take_left
                            rw [this]
                            exact hva.mono hle) (by
                            intro i hi
                            show (stL .lf 0 (l ++ new)).get i = _
                            rw [get_stL, if_pos (by omega)]; simp) (by omega) rfl) rfl
                          (fun b hb _ => hold b hb) (fun q => absurd q (by show ¬ (w.heap.size < w.heap.size); omega)) (by simp) rfl rfl rfl
                        refine ⟨_, _, _, hrun, ?_, x1, x2, x3, Nat.le_succ _, ?_⟩
                        · refine VRel.slc (o := 0) (L := ⟨w.heap.size, 0, (l ++ new).length, (vs.toArray ++ news ++ rest).size⟩) (upd_self _ _ _ _) hs' hcap ?_ ?_ (fun q hq => by cases hq) (fun _ => ?_) (fun _ => rfl)
                          · show 0 + (len + n) * s' ≤ (l ++ new).length
                            omega
                          · show 0 + 0 + grownCap w (len + n) k e * s' ≤ (vs.toArray ++ news ++ rest).size
                            omega
                          · show 0 + 0 + grownCap w (len + n) k e * s' = (vs.toArray ++ news ++ rest).size
                            omega
                        · intro F' g' L' hL'
                          unfold upd at hL'
                          split at hL'
                          · cases hL'
                            show 0 + (l ++ new).length ≤ (vs.toArray ++ news ++ rest).size
                            omega
                          · exact hs.fit F' g' L' hL'
                    · cases hv
                · cases hv
              · cases hv
          · cases hv
        · cases hv
      · cases hv
    · cases hv
  · cases hv
end
end Go.Ai
