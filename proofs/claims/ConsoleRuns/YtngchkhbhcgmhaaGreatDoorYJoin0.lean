/- A part of the proof of ConsoleRuns: YJoin0. -/
import Derived.JoinedOf
import Derived.Test.YtngchkhbhcgmhaaGreatDoorRows
namespace Go.Proofs.YtngchkhbhcgmhaaGreatDoor
open Go
set_option maxHeartbeats 0
set_option maxRecDepth 100000
theorem jf0 : (Rows.consoleRunsRow.wf (OpenSpec.ofChange Rows.consoleRunsSpec)) = true := by kernel_rfl
theorem jf3 : (Tryz.f3.params.all (Tryz.prog.readableRec ·)) = true := by kernel_rfl
theorem jf4 : (namedTie Tryz.prog Rows.consoleRunsRow.named Rows.consoleRunsSpec.vars) = true := by kernel_rfl
theorem jf5 : ((Rows.consoleRunsRow.stops == [])) = true := by kernel_rfl
theorem jf6 : ((Tryz.prog.stops == [])) = true := by kernel_rfl
theorem jf7 : ((Rows.consoleRunsRow.knobs == [])) = true := by kernel_rfl
theorem jf8 : ((Tryz.prog.stopKnobs == [])) = true := by kernel_rfl
theorem jf13 : ((Rows.consoleRunsRow.maps == (Tryz.f3.params.toList ++ Rows.consoleRunsSpec.plain.varTypes Tryz.prog).any (Tryz.prog.mapsRec ·))) = true := by kernel_rfl
theorem jf14 : ((Rows.consoleRunsRow.ifaces == (Tryz.f3.params.toList ++ Rows.consoleRunsSpec.plain.varTypes Tryz.prog).any (Tryz.prog.ifacesRec ·))) = true := by kernel_rfl
theorem jf15 : ((Rows.consoleRunsRow.mapsOut == Tryz.prog.mapsAmong Tryz.f3.resultTypes.toList)) = true := by kernel_rfl
theorem jf16 : ((Rows.consoleRunsRow.loops == (Tryz.f3.params.toList ++ Rows.consoleRunsSpec.plain.varTypes Tryz.prog).any (Tryz.prog.loopsFrom ·))) = true := by kernel_rfl
theorem jf17 : ((Rows.consoleRunsRow.wideKeys == (Tryz.f3.params.toList ++ Rows.consoleRunsSpec.plain.varTypes Tryz.prog ++ Tryz.f3.resultTypes.toList).any (Tryz.prog.wideKeysFrom ·))) = true := by kernel_rfl
theorem jf18 : (Rows.consoleRunsSpec.vars.all (Tryz.prog.varReadable ·)) = true := by kernel_rfl
theorem jf19 : (Tryz.f3.resultTypes.all (fun t => Tryz.prog.readableRec t && decide (t < Tryz.prog.types.size))) = true := by kernel_rfl
theorem jf20 : ((Rows.consoleRunsRow.ifacesOut == Tryz.f3.resultTypes.toList.any (Tryz.prog.ifacesRec ·))) = true := by kernel_rfl
theorem jf21 : ((Rows.consoleRunsRow.loopsOut == Tryz.f3.resultTypes.toList.any (Tryz.prog.loopsFrom ·))) = true := by kernel_rfl
theorem jf22 : ((Rows.consoleRunsRow.plainKeys == Tryz.prog.plainKeys)) = true := by kernel_rfl
theorem jf23 : (Rows.consoleRunsRow.shortTexts.isNone) = true := by kernel_rfl
theorem jf24 : (Tryz.prog.stopsHeard) = true := by kernel_rfl
theorem jf25 : (Tryz.prog.mayEnter) = true := by kernel_rfl
theorem jf26 : ((Rows.consoleRunsRow.lifted == Tryz.prog.liftsFinal)) = true := by kernel_rfl
theorem jf27 : ((Tryz.prog.make == some Rows.consoleRunsRow.make)) = true := by kernel_rfl
theorem jf28 : ((Rows.consoleRunsRow.kinds == (if Rows.consoleRunsRow.domain.isEmpty then [] else Tryz.f3.params.toList.map fun t => match Tryz.prog.underlying t with | some (.int k) => some k | _ => none))) = true := by kernel_rfl
theorem jf29 : ((Rows.consoleRunsRow.pinned == Rows.consoleRunsRow.pinnedBy)) = true := by kernel_rfl
theorem jf30 : ((Rows.consoleRunsRow.veiled == (Tryz.f3.params.toList ++ Rows.consoleRunsSpec.plain.varTypes Tryz.prog ++ Tryz.f3.resultTypes.toList).any (Tryz.prog.veiledRec ·))) = true := by kernel_rfl
theorem jf31 : (Rows.consoleRunsRow.veiledFits Tryz.prog Tryz.f3.params.toList (Tryz.f3.params.toList ++ Rows.consoleRunsSpec.plain.varTypes Tryz.prog ++ Tryz.f3.resultTypes.toList)) = true := by kernel_rfl
end Go.Proofs.YtngchkhbhcgmhaaGreatDoor
