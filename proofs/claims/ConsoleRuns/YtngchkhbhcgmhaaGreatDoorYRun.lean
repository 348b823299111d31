/- A part of the proof of ConsoleRuns: YRun. -/
import Derived.Test.YtngchkhbhcgmhaaGreatDoorYCon0
namespace Go.Proofs.YtngchkhbhcgmhaaGreatDoor
open Go Go.Ai
set_option maxHeartbeats 0
set_option maxRecDepth 100000
theorem run (m : Int) : callNK E0 200 3 [] (h0 m) isTrue = .yes := by kernel_rfl
end Go.Proofs.YtngchkhbhcgmhaaGreatDoor
