/- A part of the proof of ConsoleRuns: YGoes. -/
import Derived.Test.YtngchkhbhcgmhaaGreatDoorAiAll
import Derived.Test.YtngchkhbhcgmhaaGreatDoorAiRow
import Derived.Test.YtngchkhbhcgmhaaGreatDoorRows
import Derived.Test.YtngchkhbhcgmhaaGreatDoorCards
import Derived.LaidByTextLater
import Derived.SevenTiedAt
set_option linter.unusedVariables false
set_option linter.unusedSimpArgs false
set_option linter.unusedSectionVars false
set_option linter.unnecessarySimpa false
namespace Go.Proofs.YtngchkhbhcgmhaaGreatDoor
open Go Go.Ai
set_option maxHeartbeats 0
set_option maxRecDepth 100000
theorem goes_none {P : Program} (h : P.funcs.toList.all (fun fn => !fn.goes) = true) (f : FuncId) : P.goes f = false := by
  have hm : ∀ fn ∈ P.funcs.toList, fn.goes = false := fun fn hfn => by simpa using List.all_eq_true.1 h fn hfn
  unfold Program.goes
  have h1 : ((P.closure f).any fun g => (P.funcs[g]?).any Func.goes) = false := by
    rw [List.any_eq_false]
    intro g _
    cases hg : P.funcs[g]? with
    | none => simp
    | some fn =>
      have := hm fn (List.mem_of_getElem? (by simpa using hg))
      simp [this]
  have h2 : P.funcs.any Func.goes = false := by
    rw [← Array.any_toList, List.any_eq_false]
    intro fn hfn
    simp [hm fn hfn]
  rw [h1, h2]
  simp
theorem goesBy_none {P : Program} {c : OpenClaim} (h : P.funcs.toList.all (fun fn => !fn.goes) = true) (hs : c.start = .entering) : c.goesBy P = false := by
  unfold OpenClaim.goesBy Program.goesAt Program.goesFrom
  rw [hs]
  cases P.funcNamed c.func with
  | none => rfl
  | some f => simp [goes_none h f]
theorem goes0 : (Tryz.prog.funcs.toList.take 190).all (fun fn => !fn.goes) = true := by kernel_rfl
theorem goes1 : ((Tryz.prog.funcs.toList.drop 190).take 190).all (fun fn => !fn.goes) = true := by kernel_rfl
theorem goes2 : (((Tryz.prog.funcs.toList.drop 190).drop 190).take 190).all (fun fn => !fn.goes) = true := by kernel_rfl
theorem goes3 : (((Tryz.prog.funcs.toList.drop 190).drop 190).drop 190).all (fun fn => !fn.goes) = true := by kernel_rfl
theorem goesAll : Tryz.prog.funcs.toList.all (fun fn => !fn.goes) = true := all_parts 190 goes0 (all_parts 190 goes1 (all_parts 190 goes2 goes3))
theorem card_goes : false = Rows.consoleRunsRow.goesBy Tryz.pinned.checked.prog := (goesBy_none (P := Tryz.prog) goesAll rfl).symm
end Go.Proofs.YtngchkhbhcgmhaaGreatDoor
