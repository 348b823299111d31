/- PROVED: the console's runs in emendlaw19.ConsoleRuns all answer as the statement says, without condition: the tied card of the row. -/
import Derived.Test.YtngchkhbhcgmhaaGreatDoorYEnd
import Derived.JoinedOf
import Derived.Test.YtngchkhbhcgmhaaGreatDoorYJoin0
import Derived.Test.YtngchkhbhcgmhaaGreatDoorYRowB
import Derived.Test.YtngchkhbhcgmhaaGreatDoorYRowC
import Derived.Test.YtngchkhbhcgmhaaGreatDoorRows
import Derived.LaidByTextLater
import Derived.SevenTiedAt
import Derived.Test.YtngchkhbhcgmhaaGreatDoorYTieA
import Derived.Test.YtngchkhbhcgmhaaGreatDoorYTieB
import Derived.Test.YtngchkhbhcgmhaaGreatDoorYTieC
import Derived.Test.YtngchkhbhcgmhaaGreatDoorYAll
import Derived.Test.YtngchkhbhcgmhaaGreatDoorYMemo
import Derived.Test.YtngchkhbhcgmhaaGreatDoorYRun
import Derived.Test.YtngchkhbhcgmhaaGreatDoorYGoes
import Derived.Test.YtngchkhbhcgmhaaGreatDoorCards
set_option linter.unusedVariables false
set_option linter.unusedSimpArgs false
set_option linter.unusedSectionVars false
set_option linter.unnecessarySimpa false
namespace Go.Proofs.YtngchkhbhcgmhaaGreatDoor
open Go Go.Ai Go.ChangeShapes Go.WideShapes Go.ChangeAt Go.RowKit
theorem holds (hA : AllOk Tryz.prog) (h1 : allK E1 100 8 282 memo282 = .yes) (h2 : allK E1 100 8 64 memo64 = .yes) (h3 : allK E1 100 8 36 memo36 = .yes) (hrun : ∀ m, callNK E0 200 3 [] (h0 m) isTrue = .yes)
    (closed : joinedFacts Tryz.prog 3 Tryz.f3 Rows.consoleRunsSpec Rows.consoleRunsRow = true) (hfn : Tryz.prog.funcNamed "emend/emendlaw19.ConsoleRuns" = some 3) : Rows.ConsoleRunsSaid :=
  OpenClaim.holds_of_wide 3 Tryz.f3 rfl rfl rfl rfl rfl rfl rfl ⟨rfl, rfl, rfl, rfl, rfl⟩ rfl rfl rfl rfl rfl hfn Tryz.func3 closed
    (of_decide_eq_true (by kernel_rfl)) (by unfold Func.isWrapper; first | (rw [if_pos (by decide +kernel)]; kernel_rfl) | (rw [if_neg (by decide +kernel)]; exact ⟨rfl, rfl⟩))
    (fun os started H enc _ => lifted hA h1 h2 h3 hrun os started H enc)
end Go.Proofs.YtngchkhbhcgmhaaGreatDoor
namespace Go.Proofs.YtngchkhbhcgmhaaGreatDoor
open Go
set_option maxHeartbeats 0
set_option maxRecDepth 100000
theorem tt_and {a b : Bool} (h : a = true) (g : b = true) : (a && b) = true := by rw [h, g]; rfl
theorem closed : joinedFacts Tryz.prog 3 Tryz.f3 Rows.consoleRunsSpec Rows.consoleRunsRow = true :=
  (tt_and (tt_and (tt_and (tt_and (tt_and (tt_and (tt_and (tt_and (tt_and (tt_and (tt_and (tt_and (tt_and (tt_and (tt_and (tt_and (tt_and (tt_and (tt_and (tt_and (tt_and (tt_and (tt_and (tt_and (tt_and (tt_and (tt_and (tt_and (tt_and (tt_and (tt_and jf0 k2) k3) jf3) jf4) jf5) jf6) jf7) jf8) (beq_iff_eq.2 k10)) (beq_iff_eq.2 k11)) (beq_iff_eq.2 k12)) (beq_iff_eq.2 k13)) jf13) jf14) jf15) jf16) jf17) jf18) jf19) jf20) jf21) jf22) jf23) jf24) jf25) jf26) jf27) jf28) jf29) jf30) jf31)
theorem hfn : Tryz.prog.funcNamed "emend/emendlaw19.ConsoleRuns" = some 3 := by kernel_rfl
end Go.Proofs.YtngchkhbhcgmhaaGreatDoor
namespace Go.Proofs.YtngchkhbhcgmhaaGreatDoor
open Go
set_option maxHeartbeats 0
theorem pin_laid_unicode_utf8_first : Tryz.pinned.checked.prog.pinnedFits "unicode/utf8.first" = true := by kernel_rfl
theorem noOwnUnsafe : Tryz.pinned.checked.prog.headLifts.contains "ownunsafe" = false := by kernel_rfl
theorem fits1 : Tryz.pinned.checked.prog.listedFits [("internal/strconv.uint64pow10", Rows.laid_internal_strconv_uint64pow10), ("math/bits.deBruijn32tab", Rows.laid_math_bits_deBruijn32tab), ("math/bits.deBruijn64tab", Rows.laid_math_bits_deBruijn64tab), ("unicode/utf8.first", Rows.laid_unicode_utf8_first), ("unicode/utf8.acceptRanges", Rows.laid_unicode_utf8_acceptRanges), ("strconv.ErrSyntax", Rows.laid_strconv_ErrSyntax), ("strconv.ErrRange", Rows.laid_strconv_ErrRange)] = true := by
  unfold Program.listedFits
  rw [noOwnUnsafe]
  kernel_rfl
theorem tie : Tryz.prog.laidByTextLater [("internal/strconv.uint64pow10", Rows.laid_internal_strconv_uint64pow10), ("math/bits.deBruijn32tab", Rows.laid_math_bits_deBruijn32tab), ("math/bits.deBruijn64tab", Rows.laid_math_bits_deBruijn64tab), ("unicode/utf8.acceptRanges", Rows.laid_unicode_utf8_acceptRanges), ("strconv.ErrSyntax", Rows.laid_strconv_ErrSyntax), ("strconv.ErrRange", Rows.laid_strconv_ErrRange)] [.data, .data, .data, .data, .sentinel, .sentinel] true :=
  Program.laidByTextLater_of_run 750 400 8 tie_hw tie_hw2 tie_hroot tie_hk tie_hg tie_hn tie_hd tie_h1 tie_h2 tie_hp
theorem consoleRuns_row_tie : Rows.consoleRunsRow.laidByTextAt .later Tryz.pinned [.data, .data, .data, .pinned, .data, .sentinel, .sentinel] true :=
  OpenClaim.laidByTextAt_pinned rfl rfl tie rfl rfl rfl rfl (fun y hy _e => by
    simp only [Rows.consoleRunsRow, List.zip_cons_cons, List.zip_nil_right, List.mem_cons, List.mem_nil_iff, or_false] at hy
    rcases hy with rfl | rfl | rfl | rfl | rfl | rfl | rfl
    · cases _e
    · cases _e
    · cases _e
    · exact ⟨pin_laid_unicode_utf8_first, by kernel_rfl⟩
    · cases _e
    · cases _e
    · cases _e) fits1
end Go.Proofs.YtngchkhbhcgmhaaGreatDoor
namespace Go.Proofs.YtngchkhbhcgmhaaGreatDoor
open Go Go.Ai Go.ChangeShapes Go.WideShapes Go.ChangeAt Go.RowKit
set_option maxHeartbeats 0
set_option maxRecDepth 100000
theorem card_wf : Rows.consoleRunsRow.wfByText (OpenSpec.ofChange Rows.consoleRunsSpec) = true := by kernel_rfl
theorem card_main : Tryz.pinned.checked.prog.mainIs = some (true, "e65b0115184964a1514fe6d999d9d42a499c78ca254358307f6a23b3d4a1f90c".toList) := by kernel_rfl
theorem card_looks : true = Tryz.pinned.checked.prog.looks [] := by kernel_rfl
theorem row_holds : Rows.ConsoleRunsSaid := holds allOk run282 run64 run36 run closed hfn
theorem card_holds : Rows.ConsoleRunsCardSaid :=
  Claim7.holds_tied_plain_at .later [] [.data, .data, .data, .pinned, .data, .sentinel, .sentinel] true (true, "e65b0115184964a1514fe6d999d9d42a499c78ca254358307f6a23b3d4a1f90c") true row_holds (fun _ h => by cases h) card_wf (fun _ h => by cases h) consoleRuns_row_tie rfl ⟨rfl, rfl⟩ card_main rfl
    (fun f fn hf hfn' => by
      obtain rfl : f = 3 := Option.some.inj (hf.symm.trans hfn)
      obtain rfl : fn = Tryz.f3 := (Option.some.inj (Tryz.func3.symm.trans hfn')).symm
      exact ⟨card_looks, fun j t ht => by
        rw [show Tryz.f3.params = #[] from by kernel_rfl] at ht
        simp at ht⟩) card_goes
end Go.Proofs.YtngchkhbhcgmhaaGreatDoor
