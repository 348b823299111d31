/- A part of the proof of ConsoleRuns: AiExt. -/
import Derived.Test.YtngchkhbhcgmhaaGreatDoorAiCall
import Derived.Lib.Bytealg
set_option linter.unusedVariables false
set_option linter.unusedSimpArgs false
set_option linter.unusedSectionVars false
set_option linter.unnecessarySimpa false
/- Externs: the model's rows and the table. -/
namespace Go.Ai

section
variable {P : Program}

theorem args1 {ι : Emb} {a : AV} {xs : Array Value} (ha : VRelL P ι [a] xs.toList) : ∃ x, xs = #[x] ∧ VRel P ι a x := by
  generalize hl : xs.toList = l at ha
  cases ha with
  | cons h1 h2 =>
  cases h2
  exact ⟨_, by rw [← hl], h1⟩

theorem args2 {ι : Emb} {a b : AV} {xs : Array Value} (ha : VRelL P ι [a, b] xs.toList) : ∃ x y, xs = #[x, y] ∧ VRel P ι a x ∧ VRel P ι b y := by
  generalize hl : xs.toList = l at ha
  cases ha with
  | cons h1 h2 =>
  cases h2 with
  | cons h2 h3 =>
  cases h3
  exact ⟨_, _, by rw [← hl], h1, h2⟩

theorem ext_noEsc : ExtSem P Extern.AbiNoEscape.same .noEsc := by
  intro h ι w args xs v h' hs he ha
  rcases args with _ | ⟨a0, _ | ⟨a1, args⟩⟩
  · simp [externA] at he
  · simp only [externA, Option.some.injEq, Prod.mk.injEq] at he
    obtain ⟨rfl, rfl⟩ := he
    obtain ⟨x, rfl, hx⟩ := args1 ha
    exact ⟨x, w, ι, rfl, hx, .refl hs⟩
  · simp [externA] at he

theorem idxByteL_eq (c : UInt8) : ∀ (l : List UInt8) (i : Nat), idxByteL c l i = if Lib.indexByte l c = -1 then -1 else Lib.indexByte l c + i
  | [], i => by simp [idxByteL, Lib.indexByte]
  | b :: l, i => by
    unfold idxByteL Lib.indexByte
    have hge := Lib.indexByte_ge l c
    cases hb : b == c with
    | true => simp
    | false =>
      simp only [Bool.false_eq_true, if_false]
      rw [idxByteL_eq c l]
      by_cases h1 : Lib.indexByte l c = -1
      · simp [h1]
      · have h2 : (Lib.indexByte l c == -1) = false := by simpa using h1
        rw [if_neg h1, h2]
        simp only [Bool.false_eq_true, if_false]
        rw [if_neg (by omega)]
        simp only [Nat.succ_eq_add_one, Int.natCast_add]
        omega

theorem ext_idxByte : ExtSem P Extern.BytealgIndexByte.indexByte .idxByte := by
  intro h ι w args xs v h' hs he ha
  rcases args with _ | ⟨a0, _ | ⟨a1, _ | ⟨a2, args⟩⟩⟩
  · simp [externA] at he
  · simp [externA] at he
  · cases a0 <;> try (simp [externA] at he; done)
    cases a1 <;> try (simp [externA] at he; done)
    rename_i l b k n
    cases k <;> try (simp [externA] at he; done)
    simp only [externA, Option.some.injEq, Prod.mk.injEq] at he
    obtain ⟨rfl, rfl⟩ := he
    obtain ⟨x, y, rfl, hx, hy⟩ := args2 ha
    obtain ⟨s, rfl, rfl, rfl⟩ := str_inv hx
    cases hy
    refine ⟨_, w, ι, Lib.run_indexByteString s n w, ?_, .refl hs⟩
    rw [unpack_pack, idxByteL_eq]
    have hc : UInt8.ofNat n.toNat = n.toNat.toUInt8 := rfl
    rw [hc]
    by_cases h1 : Lib.indexByte s.data.toList n.toNat.toUInt8 = -1
    · rw [if_pos h1, h1]; exact .int _ _
    · rw [if_neg h1]
      simp only [Int.natCast_zero, Int.add_zero]
      exact .int _ _
  · simp [externA] at he

theorem ext_cntStr : ExtSem P Extern.BytealgCount.count .cntStr := by
  intro h ι w args xs v h' hs he ha
  rcases args with _ | ⟨a0, _ | ⟨a1, _ | ⟨a2, args⟩⟩⟩
  · simp [externA] at he
  · simp [externA] at he
  · cases a0 <;> try (simp [externA] at he; done)
    cases a1 <;> try (simp [externA] at he; done)
    rename_i l b k n
    cases k <;> try (simp [externA] at he; done)
    simp only [externA, Option.some.injEq, Prod.mk.injEq] at he
    obtain ⟨rfl, rfl⟩ := he
    obtain ⟨x, y, rfl, hx, hy⟩ := args2 ha
    obtain ⟨s, rfl, rfl, rfl⟩ := str_inv hx
    cases hy
    refine ⟨_, w, ι, Lib.run_countString s n w, ?_, .refl hs⟩
    rw [unpack_pack]
    have hc : ((s.data.toList.filter (· == UInt8.ofNat n.toNat)).length : Int) = (Lib.countByte s.data.toList n.toNat.toUInt8 : Int) := by
      unfold Lib.countByte
      rw [List.count_eq_length_filter]
    show VRel P ι (.int .i64 ((s.data.toList.filter (· == UInt8.ofNat n.toNat)).length : Int)) _
    rw [hc]
    exact .int _ _
  · simp [externA] at he

theorem compare_less : ∀ (a b : List UInt8), Lib.compareBytes a b = if Op.bytesLess a b then -1 else if Op.bytesLess b a then 1 else 0
  | [], [] => by simp [Lib.compareBytes, Op.bytesLess]
  | [], _ :: _ => by simp [Lib.compareBytes, Op.bytesLess]
  | _ :: _, [] => by simp [Lib.compareBytes, Op.bytesLess]
  | a :: as, b :: bs => by
    unfold Lib.compareBytes
    have ih := compare_less as bs
    rw [Op.bytesLess, Op.bytesLess]
    by_cases h1 : a < b
    · simp [h1]
    · by_cases h2 : b < a
      · have h3 : ¬ (a == b) = true := by
          intro q
          have : a = b := by simpa using q
          subst this
          exact h1 h2
        simp [h1, h2, h3]
      · have h3 : a = b := by
          have := UInt8.le_antisymm (UInt8.not_lt.1 h2) (UInt8.not_lt.1 h1)
          exact this
        subst h3
        simp [h1, ih]

theorem ext_cmpStr : ExtSem P Extern.BytealgCompare.compare .cmpStr := by
  intro h ι w args xs v h' hs he ha
  rcases args with _ | ⟨a0, _ | ⟨a1, _ | ⟨a2, args⟩⟩⟩
  · simp [externA] at he
  · simp [externA] at he
  · cases a0 <;> try (simp [externA] at he; done)
    cases a1 <;> try (simp [externA] at he; done)
    simp only [externA, Option.some.injEq, Prod.mk.injEq] at he
    obtain ⟨rfl, rfl⟩ := he
    obtain ⟨x, y, rfl, hx, hy⟩ := args2 ha
    obtain ⟨s, rfl, rfl, rfl⟩ := str_inv hx
    obtain ⟨u, rfl, rfl, rfl⟩ := str_inv hy
    refine ⟨goInt (Extern.BytealgCompare.cmp s u), w, ι, rfl, ?_, .refl hs⟩
    rw [Lib.cmp_eq, compare_less]
    unfold strLess
    rw [unpack_pack, unpack_pack]
    cases Op.bytesLess s.data.toList u.data.toList <;> cases Op.bytesLess u.data.toList s.data.toList <;> exact .int _ _
  · simp [externA] at he

theorem digits_size : ∀ (n t : Nat) (acc : Array Value), (Extern.BytealgMakeNoZero.digits n t acc).size = acc.size + n
  | 0, _, _ => rfl
  | n + 1, t, acc => by
    rw [Extern.BytealgMakeNoZero.digits, digits_size n]
    simp
    omega

theorem junk_rel {ι : Emb} : ∀ (l : List Value), VRelL P ι (List.replicate l.length .junk) l
  | [] => .nil
  | x :: l => .cons (.junk x) (junk_rel l)

theorem ext_makeNZ {ps rs : Array TypeId} {t e : TypeId} (hr : rs[0]? = some t) (ht : P.underlying t = some (.slice e)) : ExtSem P (Extern.BytealgMakeNoZero.makeNoZero ps rs) (.makeNZ e) := by
  intro h ι w args xs v h' hs he ha
  rcases args with _ | ⟨a0, _ | ⟨a1, args⟩⟩
  · simp [externA] at he
  · cases a0 <;> try (simp [externA] at he; done)
    rename_i k n
    cases k <;> try (simp [externA] at he; done)
    cases n with
    | negSucc n => simp [externA] at he
    | ofNat n =>
    simp only [externA] at he
    split at he
    · rename_i h1 hb
      have hb' : n ≤ 1000000000000 := Nat.le_of_ble_eq_true hb
      simp only [Option.some.injEq, Prod.mk.injEq] at he
      obtain ⟨rfl, rfl⟩ := he
      obtain ⟨x, rfl, hx⟩ := args1 ha
      cases hx
      have hcap := grownCap_ge w n 0 e
      generalize hgc : grownCap w n 0 e = cap at hcap
      generalize hby : (Question.extern "internal/bytealg.MakeNoZero.bytes" 0).cut (w.tape (w.drawn + 1) (.extern "internal/bytealg.MakeNoZero.bytes" 0)) = by_
      have hsz : (Extern.BytealgMakeNoZero.digits cap by_ #[]).size = cap := by rw [digits_size]; simp
      have hd := new_rel hs { mkFam e (List.replicate n .junk) with fix := false } (List.replicate n .junk) (Extern.BytealgMakeNoZero.digits cap by_ #[]) (0, 0)
        (w.drew.drew.alloc (.cells (Extern.BytealgMakeNoZero.digits cap by_ #[]) e)) rfl rfl rfl rfl
        (by
          have hl : ((Extern.BytealgMakeNoZero.digits cap by_ #[]).toList.take n).length = n := by simp [hsz]; omega
          have := junk_rel (P := P) (ι := ι) ((Extern.BytealgMakeNoZero.digits cap by_ #[]).toList.take n)
          rw [hl] at this
          simpa using this)
        (by simp [hsz]; exact hcap) (fun q => by cases q) (fun off _ _ hh => by simp at hh) (Nat.le_refl _) rfl rfl rfl rfl
      refine ⟨.slice (some ⟨w.heap.size, 0, none⟩) n cap, _, _, ?_, ?_, hd⟩
      · have hgc' : (Question.appendCap n 0 e).cut (w.tape w.drawn (.appendCap n 0 e)) = cap := hgc
        have hdef : Extern.BytealgMakeNoZero.makeNoZero ps rs #[.int .i64 (Int.ofNat n)] = (do
            let some t := rs[0]? | stuck "bytealg.MakeNoZero: no result type"
            let .slice elem ← underlying t | stuck "bytealg.MakeNoZero: slice type expected"
            if (Int.ofNat n) < 0 || (Int.ofNat n) > 2 ^ 48 then runtimePanic (.error "makeslice: len out of range")
            let cap ← choose (.appendCap (Int.ofNat n).toNat 0 elem)
            askRoom cap
            let bytes ← choose (.extern "internal/bytealg.MakeNoZero.bytes" 0)
            let a ← newRow elem (Extern.BytealgMakeNoZero.digits cap bytes #[])
            pure (.slice (some a) (Int.ofNat n).toNat cap)) := rfl
        rw [hdef]
        have c1 : ¬ ((n : Int) < 0) := by omega
        have c2 : ¬ ((n : Int) > 2 ^ 48) := by omega
        have c2' : ¬ (281474976710656 < (n : Int)) := by omega
        simp [hr, run_underlying ht, c1, c2', Question.forced, hgc', hby, newRow]
        try rfl
      · refine VRel.slc (upd_self _ _ _ _) (by omega) hcap ?_ ?_ (fun q hq => by cases hq) (fun _ => ?_) (fun _ => rfl)
        · show 0 + n * 1 ≤ (List.replicate n AV.junk).length
          simp
        · show 0 + 0 + cap * 1 ≤ (Extern.BytealgMakeNoZero.digits cap by_ #[]).size
          omega
        · show 0 + 0 + cap * 1 = (Extern.BytealgMakeNoZero.digits cap by_ #[]).size
          omega
    · cases he
  · simp [externA] at he
end
end Go.Ai
