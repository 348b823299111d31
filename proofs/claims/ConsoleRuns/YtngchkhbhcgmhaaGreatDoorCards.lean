/-
  DERIVED. GIVEN WITH THE SEED: THE CARDS: each row of YtngchkhbhcgmhaaGreatDoorRows.lean that lists a variable, with what it lists TIED to the program's text (the seventh form; the later family's looks); each row that meets fmt, with fmt's text TOLD by the authors' own Lean function (tested against real Go, not proved from fmt's source: count such statements apart). THE CARD IS WHAT COUNTS. Prove the row's statement (the work); the ties are given (YtngchkhbhcgmhaaGreatDoorTie.lean); close each card by the builder's one call (the guide's Derived/Test/ToyasCard.lean, 'card_holds'). Laid BY PROGRAM, IN A SANDBOX (cutbox-door.mjs). By AI agents, Wed Nov 11 2026. No macro, syntax, notation, axiom, sorry.
-/
import Derived.Test.YtngchkhbhcgmhaaGreatDoorRows
import GoSem.ClaimSeven
namespace Go.Proofs.YtngchkhbhcgmhaaGreatDoor
namespace Rows

/-- THE TIED CARD OF 'emendlaw19.ConsoleRuns'. -/
def consoleRunsCard : Claim7 := { stood := { row := consoleRunsRow, standIns := [], harness := (true, "e65b0115184964a1514fe6d999d9d42a499c78ca254358307f6a23b3d4a1f90c"), looks := true }, kinds := [], alts := [], laidByText := true, laidKinds := [.data, .data, .data, .pinned, .data, .sentinel, .sentinel], laidTests := true, laidLooks := .later }
def ConsoleRunsCardSaid : Prop := Claim7.holds Tryz.pinned (.plain (OpenSpec.ofChange consoleRunsSpec)) consoleRunsCard

/-- THE SECOND FORM's CARD OF 'emendlaw19.ConsoleRuns'. -/
def consoleRunsUptoCard : Claim7 := { stood := { row := consoleRunsUptoRow, standIns := [], harness := (true, "e65b0115184964a1514fe6d999d9d42a499c78ca254358307f6a23b3d4a1f90c"), looks := true }, kinds := [], alts := [], laidByText := true, laidKinds := [.data, .data, .data, .pinned, .data, .sentinel, .sentinel], laidTests := true, laidLooks := .later }
def ConsoleRunsUptoCardSaid : Prop := Claim7.holds Tryz.pinned (.plain (OpenSpec.upto consoleRunsSpec)) consoleRunsUptoCard
end Rows
end Go.Proofs.YtngchkhbhcgmhaaGreatDoor
