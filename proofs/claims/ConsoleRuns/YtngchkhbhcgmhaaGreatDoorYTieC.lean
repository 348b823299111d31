/- A part of the proof of ConsoleRuns: YTieC. -/
import Derived.Test.YtngchkhbhcgmhaaGreatDoorRows
import Derived.LaidByTextLater
import Derived.SevenTiedAt
import Derived.Test.YtngchkhbhcgmhaaGreatDoorYTie0
namespace Go.Proofs.YtngchkhbhcgmhaaGreatDoor
open Go
set_option maxHeartbeats 0
theorem tie_hn : varsNamedLaterB Tryz.prog 750 tieL = true := by kernel_rfl
theorem tie_hd : ∀ os tape, varsDone Tryz.prog 400 750 os tape = true := fun _ _ => by kernel_rfl
theorem tie_h1 : ∀ os tape, (DataW.laidRun Tryz.prog (varsWorld Tryz.prog 400 750 os tape).memory 8 (tieL.map (·.1))).map (·.1) = some tieL := fun _ _ => by kernel_rfl
theorem tie_h2 : ∀ os tape, (DataW.laidRun Tryz.prog (varsWorld Tryz.prog 400 750 os tape).memory 8 (tieL.map (·.1))).map (fun x => decide x.2.Nodup && laidRowsB Tryz.prog (varsWorld Tryz.prog 400 750 os tape).memory x.2) = some true := fun _ _ => by kernel_rfl
theorem tie_hp : (tieL.all fun x => x.2.handleName?.isNone) = true := by kernel_rfl
end Go.Proofs.YtngchkhbhcgmhaaGreatDoor
