/- A part of the proof of ConsoleRuns: YRowC. -/
import Derived.Test.YtngchkhbhcgmhaaGreatDoorChecked
import Derived.Test.YtngchkhbhcgmhaaGreatDoorAiRow
import Derived.ClosedOfChecked
import Derived.Test.YtngchkhbhcgmhaaGreatDoorRows
namespace Go.Proofs.YtngchkhbhcgmhaaGreatDoor
open Go Go.Ai
set_option maxHeartbeats 0
set_option maxRecDepth 100000
theorem rest : (Tryz.checked.prog.globals.all (fun g => decide (g.type < Tryz.checked.prog.types.size)) && Tryz.checked.prog.funcs.all (fun f => f.params.all fun t => decide (t < Tryz.checked.prog.types.size))) = true := by kernel_rfl
theorem hty : Tryz.checked.prog.types = Tryz.checked.src.types := by kernel_rfl
theorem allSpec : ClosedOfChecked.AllSpec Tryz.checked.prog := ClosedOfChecked.allSpec_of Tryz.checked.wellFormed hty
theorem k2 : laidOutB Tryz.prog = true := ClosedOfChecked.laidOutB_of allSpec rest
theorem k3 : mapsRowed Tryz.prog = true := ClosedOfChecked.mapsRowed_of allSpec
end Go.Proofs.YtngchkhbhcgmhaaGreatDoor
