/- A part of the proof of ConsoleRuns: AiOps10. -/
import Derived.Test.YtngchkhbhcgmhaaGreatDoorAiOps9
set_option linter.unusedVariables false
set_option linter.unusedSimpArgs false
set_option linter.unusedSectionVars false
set_option linter.unnecessarySimpa false
/- Conversions. -/
namespace Go.Ai

section
variable {P : Program} {ι κ : Emb} {w w' : World} {h h' : H}

theorem bytesAV_flat (l : List UInt8) : (bytesAV l).length = l.length := by simp [bytesAV]

theorem freeze_push (w : World) (arr : Array Value) (e : TypeId) (n : Nat) (hn : arr.size = n) :
    ((w.alloc (.cells arr e)).freeze ⟨w.heap.size, n, none⟩ 1).heap = w.heap.push (.cells arr e (n, n + 1)) := by
  unfold World.freeze
  rw [if_neg (by omega)]
  apply Array.ext_getElem?
  intro i
  simp only [Array.getElem?_modify]
  by_cases hi : i = w.heap.size
  · subst hi
    have h1 : (w.alloc (.cells arr e)).heap[w.heap.size]? = some (.cells arr e (0, 0)) := heap_alloc_new w _
    rw [if_pos rfl, h1]
    simp
  · rw [if_neg (fun q => hi q.symm)]
    show (w.heap.push _)[i]? = _
    rw [Array.getElem?_push, Array.getElem?_push, if_neg hi, if_neg hi]

theorem conv_rel (hs : St P h ι w) {src dst : TypeId} {x r : AV} {y : Value} (hv : convA P h src dst x = some (r, h')) (hy : VRel P ι x y) : Does P h ι w (convert src dst y) r h' := by
  unfold convA at hv
  split at hv
  · rename_i d1 k kk n hu hw
    cases hv
    cases hy
    refine ⟨.int k (k.wrap n), w, ι, ?_, .int _ _, .refl hs⟩
    simp [convert, run_underlying hu, run_underlying hw, Conv.intToInt]
  · rename_i d1 kk n hu hw
    cases hv
    cases hy
    refine ⟨.string (Utf8.encode n), w, ι, ?_, .str _, .refl hs⟩
    simp [convert, run_underlying hu, run_underlying hw, Conv.intToString]
  · rename_i d1 l b hu hw
    cases hv
    obtain ⟨s, rfl, rfl, rfl⟩ := str_inv hy
    refine ⟨.string s, w, ι, ?_, hy, .refl hs⟩
    simp [convert, run_underlying hu, run_underlying hw]
  · rename_i d1 e l b hu hw
    split at hv
    · rename_i he
      cases hv
      obtain ⟨s, rfl, rfl, rfl⟩ := str_inv hy
      rw [unpack_pack]
      have hcap := grownCap_ge w s.size 0 e
      generalize hgc : grownCap w s.size 0 e = cap at hcap
      let arr : Array Value := (s.data.map fun b => Value.int .u8 b.toNat) ++ Array.replicate (cap - s.size) (.int .u8 0)
      have hss : s.data.toList.length = s.size := by simp
      have hsz : arr.size = cap := by
        simp only [arr, Array.size_append, Array.size_map, Array.size_replicate, ByteArray.size_data]
        omega
      have hd := new_rel hs { mkFam e (bytesAV s.data.toList) with sg := true, fix := false } (bytesAV s.data.toList) arr (cap, cap + 1)
        ((w.drew.alloc (.cells arr e)).freeze ⟨w.heap.size, cap, none⟩ 1) rfl rfl rfl rfl
        (by
          rw [bytesAV_flat]
          have : arr.toList.take s.data.toList.length = s.data.toList.map fun b => Value.int .u8 (b.toNat : Int) := by
            simp only [arr, Array.toList_append, Array.toList_map]
            rw [List.take_append_of_le_length (by simp)]
            rw [List.take_of_length_le (by simp)]
          rw [this]
          exact bytesAV_rel _)
        (by rw [bytesAV_flat, hss, hsz]; exact hcap) (fun q => by cases q)
        (fun off _ h2 hh => by have := h2 rfl; omega) (by simp)
        (freeze_push w.drew arr e cap hsz) (by unfold World.freeze; rw [if_neg (by omega)]; rfl) (by unfold World.freeze; rw [if_neg (by omega)]; rfl) (by unfold World.freeze; rw [if_neg (by omega)]; rfl)
      refine ⟨.slice (some ⟨w.heap.size, 0, none⟩) s.size cap, _, _, ?_, ?_, hd⟩
      · have hsh : (w.drew.alloc (.cells arr e)).shape? w.heap.size = some (e, arr.size) := shape_of (heap_alloc_new w.drew _)
        have hgc' : (Question.appendCap s.size 0 e).cut (w.tape w.drawn (.appendCap s.size 0 e)) = cap := hgc
        have hsh' : World.shape? { heap := w.heap.push (.cells arr e), tape := w.tape, drawn := w.drawn + 1, os := w.os, output := w.output } w.heap.size = some (e, arr.size) := hsh
        simp only [convert, Sem.run_bind, run_underlying hu w, run_underlying hw w, run_underlying he w, Result.andThen_ok, Conv.stringToBytes, run_choose, Question.forced, Bool.false_eq_true, if_false, hgc', newRow, run_newObj, Sem.run_pure, markStringish, run_shape]
        rw [show World.shape? _ _ = some (e, arr.size) from hsh']
        simp only [run_freeze, hsz, Result.andThen_ok]
        rfl
      · rw [hss]
        refine VRel.slc (upd_self _ _ _ _) (by omega) hcap ?_ ?_ (fun q hq => by cases hq) (fun _ => ?_) (fun _ => rfl)
        · show 0 + s.size * 1 ≤ (bytesAV s.data.toList).length
          rw [bytesAV_flat, hss]; omega
        · show 0 + 0 + cap * 1 ≤ arr.size
          omega
        · show 0 + 0 + cap * 1 = arr.size
          omega
    · cases hv
  · rename_i e hu hw
    split at hv
    · rename_i he
      cases hv
      cases hy
      refine ⟨.string .empty, w, ι, ?_, str_rel _ rfl rfl, .refl hs⟩
      simp [convert, run_underlying hu, run_underlying hw, run_underlying he, Conv.bytesToString]
    · cases hv
  · rename_i e F g o s n c hu hw
    split at hv
    · rename_i he h1
      have h1' : s = 1 := Nat.eq_of_beq_eq_true h1
      subst h1'
      split at hv
      · rename_i l hl
        split at hv
        · rename_i bs hb
          cases hv
          obtain ⟨a, k, vs, rfl, r1, r2, r3⟩ := slc_load hs.rel hy (by rw [Nat.mul_one]; exact hl)
          obtain ⟨ns, rfl, rfl⟩ := bytesOfL_rel hb r1
          have hld := run_loadCells_list (P := P) w a _ r3
          rw [r2, Nat.mul_one] at hld
          have hrun := run_bytesToString w a n k ns hld
          refine ⟨.string (ns.foldl (fun r n => r.push (UInt8.ofNat n.toNat)) ByteArray.empty), w, ι, ?_, ?_, .refl hs⟩
          rotate_left
          · have hr := VRel.str (P := P) (ι := ι) (ns.foldl (fun r n => r.push (UInt8.ofNat n.toNat)) ByteArray.empty)
            rw [foldl_push] at hr
            simpa using hr
          · simp [convert, run_underlying hu, run_underlying hw, run_underlying he, hrun]
        · cases hv
      · cases hv
    · cases hv
  · rename_i t F g o e hu hw
    split at hv
    · rename_i n hn
      split at hv
      · rename_i f hc hf
        cases hv
        simp only [Bool.and_eq_true] at hc
        have c1 : 1 ≤ n := Nat.le_of_ble_eq_true hc.1
        have c2 : n ≤ e := Nat.le_of_ble_eq_true hc.2
        cases hy with
        | ptr hi he =>
        rename_i L
        obtain ⟨ho, hlo, hgn, hk, _, _, _, hown⟩ := hs.rel.at hf hi
        obtain ⟨arr, fr, hg, hN, hcell, hz1, hz2⟩ := hk.ex
        have hfit := hk.fit
        refine ⟨.pointer (some ⟨L.b, L.p + o, none⟩), w, ι, ?_, .ptr hi he, .refl hs⟩
        have hci : (cellsIn L.b).run P w = .ok (some arr.size) w := by simp [cellsIn, shape_of hg]
        have hlt : ¬ (arr.size ≤ L.p + o) := by omega
        have hn0 : ¬ (n = 0) := by omega
        have hsa : (Conv.seenAt ⟨L.b, L.p + o, none⟩).run P w = .ok ⟨L.b, L.p + o, none⟩ w := run_seenAt hg
        simp [convert, run_underlying hu, run_underlying hw, Conv.unsafePointer, hsa, hci, run_sizeOf' hn, hlt, hn0]
      · cases hv
    · cases hv
  · rename_i u F g o e hu hw
    split at hv
    · rename_i f hf
      split at hv
      · rename_i n hc hn
        cases hv
        simp only [Bool.and_eq_true] at hc
        cases hy with
        | ptr hi he =>
        rename_i L
        obtain ⟨ho, hlo, hgn, hk, _, _, _, hown⟩ := hs.rel.at hf hi
        obtain ⟨arr, fr, hg, hN, hcell, hz1, hz2⟩ := hk.ex
        obtain ⟨p0, pN⟩ := hk.fix hc.1
        refine ⟨.pointer (some ⟨L.b, L.p + o, none⟩), w, ι, ?_, .ptr hi he, .refl hs⟩
        have hsa : (Conv.seenAt ⟨L.b, L.p + o, none⟩).run P w = .ok ⟨L.b, L.p + o, none⟩ w := run_seenAt hg
        have hva : (variablesAt ⟨L.b, L.p + o, none⟩ u 1).run P w = .ok true w := by
          simp only [variablesAt, Sem.run_bind, run_program, Result.andThen_ok, run_shape, shape_of hg, Sem.run_pure, hN, pN, p0, Nat.zero_add]
          congr 1
          exact hc.2
        simp [convert, run_underlying hu, run_underlying hw, Conv.unsafePointer, hsa, hva, run_sizeOf' hn]
      · cases hv
    · cases hv
  · cases hv
end
end Go.Ai
