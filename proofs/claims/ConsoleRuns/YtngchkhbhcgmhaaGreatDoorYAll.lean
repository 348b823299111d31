/- A part of the proof of ConsoleRuns: YAll. -/
import Derived.Test.YtngchkhbhcgmhaaGreatDoorAiAll
import Derived.Test.YtngchkhbhcgmhaaGreatDoorRows
namespace Go.Proofs.YtngchkhbhcgmhaaGreatDoor
open Go Go.Ai
set_option maxHeartbeats 0
set_option maxRecDepth 100000
theorem allP0 : ((Tryz.prog.funcs.toList).take 190).all (okF Tryz.prog) = true := by kernel_rfl
theorem allP1 : (((Tryz.prog.funcs.toList).drop 190).take 190).all (okF Tryz.prog) = true := by kernel_rfl
theorem allP2 : ((((Tryz.prog.funcs.toList).drop 190).drop 190).take 190).all (okF Tryz.prog) = true := by kernel_rfl
theorem allP3 : ((((Tryz.prog.funcs.toList).drop 190).drop 190).drop 190).all (okF Tryz.prog) = true := by kernel_rfl
theorem allOk : AllOk Tryz.prog := allOk_of (all_parts 190 allP0 (all_parts 190 allP1 (all_parts 190 allP2 allP3)))
end Go.Proofs.YtngchkhbhcgmhaaGreatDoor
