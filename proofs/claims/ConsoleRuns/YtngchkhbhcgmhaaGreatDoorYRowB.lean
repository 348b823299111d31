/- A part of the proof of ConsoleRuns: YRowB. -/
import Derived.Test.YtngchkhbhcgmhaaGreatDoorYRowA
import Derived.Test.YtngchkhbhcgmhaaGreatDoorAiRow
import Derived.ClosedOfChecked
import Derived.Test.YtngchkhbhcgmhaaGreatDoorRows
namespace Go.Proofs.YtngchkhbhcgmhaaGreatDoor
open Go Go.Ai
set_option maxHeartbeats 0
set_option maxRecDepth 100000
noncomputable def rowG0 : List Nat := [1,4,5,2,3,6,7,0,0,0]
noncomputable def rowG1 : List Nat := []
noncomputable def rowG2 : List Nat := []
noncomputable def rowG3 : List Nat := []
theorem fm_parts {α β : Type} {f : α → Option β} {l : List α} {a b : List β} (n : Nat) (h1 : (l.take n).filterMap f = a) (h2 : (l.drop n).filterMap f = b) : l.filterMap f = a ++ b := by
  rw [← h1, ← h2, ← List.filterMap_append, List.take_append_drop]
theorem fl_parts {α β : Type} {f : α → List β} {l : List α} {a b : List β} (n : Nat) (h1 : (l.take n).flatMap f = a) (h2 : (l.drop n).flatMap f = b) : l.flatMap f = a ++ b := by
  rw [← h1, ← h2, ← List.flatMap_append, List.take_append_drop]
theorem ip0 : ((rowC).take 179).filterMap (fun g => (Tryz.prog.funcs[g]?).bind ipOf) = ["internal/bytealg.IndexByteString", "internal/bytealg.IndexString", "internal/abi.NoEscape", "internal/bytealg.abigen_runtime_cmpstring"] := by kernel_rfl
theorem gl0 : (((rowC).take 179).flatMap fun g => ((Tryz.prog.funcs[g]?).bind (·.body)).elim [] Code.globalsNamed) = rowG0 := by kernel_rfl
theorem ip1 : (((rowC).drop 179).take 179).filterMap (fun g => (Tryz.prog.funcs[g]?).bind ipOf) = ["internal/bytealg.MakeNoZero"] := by kernel_rfl
theorem gl1 : ((((rowC).drop 179).take 179).flatMap fun g => ((Tryz.prog.funcs[g]?).bind (·.body)).elim [] Code.globalsNamed) = rowG1 := by kernel_rfl
theorem ip2 : ((((rowC).drop 179).drop 179).take 179).filterMap (fun g => (Tryz.prog.funcs[g]?).bind ipOf) = [] := by kernel_rfl
theorem gl2 : (((((rowC).drop 179).drop 179).take 179).flatMap fun g => ((Tryz.prog.funcs[g]?).bind (·.body)).elim [] Code.globalsNamed) = rowG2 := by kernel_rfl
theorem ip3 : ((((rowC).drop 179).drop 179).drop 179).filterMap (fun g => (Tryz.prog.funcs[g]?).bind ipOf) = ["internal/bytealg.CountString", "slices.overlaps[*emend/delta.spot]"] := by kernel_rfl
theorem gl3 : (((((rowC).drop 179).drop 179).drop 179).flatMap fun g => ((Tryz.prog.funcs[g]?).bind (·.body)).elim [] Code.globalsNamed) = rowG3 := by kernel_rfl
theorem k10 : Rows.consoleRunsRow.inPlace = Tryz.prog.inPlace 3 := (inPlace_of clos ((fm_parts 179 ip0 (fm_parts 179 ip1 (fm_parts 179 ip2 (ip3)))).trans (by kernel_rfl))).symm
theorem glE : (rowG0 ++ (rowG1 ++ (rowG2 ++ rowG3))).eraseDups = [1,4,5,2,3,6,7,0] := by kernel_rfl
theorem er : (rowC).filterMap (fun g => (Tryz.prog.funcs[g]?).bind fun fn => if fn.body.isNone then entryReads.lookup fn.name else none) = ["internal/bytealg.MaxLen"] := by kernel_rfl
theorem gn : ([1,4,5,2,3,6,7,0] : List Nat).filterMap (fun g => (Tryz.prog.globals[g]?).map (·.name)) = ["internal/strconv.uint64pow10", "math/bits.deBruijn32tab", "math/bits.deBruijn64tab", "unicode/utf8.first", "unicode/utf8.acceptRanges", "strconv.ErrSyntax", "strconv.ErrRange", "internal/bytealg.MaxLen"] := by kernel_rfl
theorem k13 : Rows.consoleRunsRow.named = Tryz.prog.varsNamed 3 := (varsNamed_of clos (fl_parts 179 gl0 (fl_parts 179 gl1 (fl_parts 179 gl2 (gl3)))) glE gn er (by kernel_rfl)).symm
end Go.Proofs.YtngchkhbhcgmhaaGreatDoor
