/- A part of the proof of ConsoleRuns: AiAll. -/
import Derived.Test.YtngchkhbhcgmhaaGreatDoorAiFok4
set_option linter.unusedVariables false
set_option linter.unusedSimpArgs false
set_option linter.unusedSectionVars false
set_option linter.unnecessarySimpa false
/- Every function of a program, looked at ahead. -/
namespace Go.Ai

def okF (P : Program) (fn : Func) : Bool := match fn.body with
  | some c => dstOk fn.ntmps c && regOk P c
  | none => true

theorem allOk_of {P : Program} (h : P.funcs.toList.all (okF P) = true) : AllOk P := by
  intro f fn c hf hb
  have := List.all_eq_true.1 h fn (List.mem_of_getElem? (by simpa using hf))
  unfold okF at this
  rw [hb] at this
  simpa using this

theorem all_parts {α : Type} {f : α → Bool} {l : List α} (n : Nat) (h1 : (l.take n).all f = true) (h2 : (l.drop n).all f = true) : l.all f = true := by
  rw [← List.take_append_drop n l, List.all_append, h1, h2]
  rfl
end Go.Ai
