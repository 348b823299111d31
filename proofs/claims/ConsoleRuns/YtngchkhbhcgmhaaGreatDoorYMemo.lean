/- A part of the proof of ConsoleRuns: YMemo. -/
import Derived.Test.YtngchkhbhcgmhaaGreatDoorYCon0
namespace Go.Proofs.YtngchkhbhcgmhaaGreatDoor
open Go Go.Ai
set_option maxHeartbeats 0
set_option maxRecDepth 100000
theorem run282 : allK E1 100 8 282 memo282 = .yes := by kernel_rfl
theorem run64 : allK E1 100 8 64 memo64 = .yes := by kernel_rfl
theorem run36 : allK E1 100 8 36 memo36 = .yes := by kernel_rfl
end Go.Proofs.YtngchkhbhcgmhaaGreatDoor
