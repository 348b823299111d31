/- A part of the proof of ConsoleRuns: YTieA. -/
import Derived.Test.YtngchkhbhcgmhaaGreatDoorRows
import Derived.LaidByTextLater
import Derived.SevenTiedAt
import Derived.Test.YtngchkhbhcgmhaaGreatDoorYTie0
namespace Go.Proofs.YtngchkhbhcgmhaaGreatDoor
open Go
set_option maxHeartbeats 0
theorem tie_hw : Tryz.prog.worded (varsWordLater true) = true := by kernel_rfl
theorem tie_hw2 : Tryz.prog.worded (varsWordLater !true) = false := by kernel_rfl
end Go.Proofs.YtngchkhbhcgmhaaGreatDoor
