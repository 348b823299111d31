/- A part of the proof of ConsoleRuns: YTieB. -/
import Derived.Test.YtngchkhbhcgmhaaGreatDoorRows
import Derived.LaidByTextLater
import Derived.SevenTiedAt
import Derived.Test.YtngchkhbhcgmhaaGreatDoorYTie0
namespace Go.Proofs.YtngchkhbhcgmhaaGreatDoor
open Go
set_option maxHeartbeats 0
theorem tie_hroot : Tryz.prog.worded rootWordLater = true := by kernel_rfl
theorem tie_hg : Tryz.prog.funcNamed "gosem.cut.vars" = some 750 := by kernel_rfl
theorem tie_hk : tieL.map (fun x => Tryz.prog.kindOfLater x.1) = [LaidKind.data, .data, .data, .data, .sentinel, .sentinel].map some := by kernel_rfl
end Go.Proofs.YtngchkhbhcgmhaaGreatDoor
