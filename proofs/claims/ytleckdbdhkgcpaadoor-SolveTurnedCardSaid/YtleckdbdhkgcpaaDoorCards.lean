/-
  DERIVED. GIVEN WITH THE SEED: THE CARDS: each row of YtleckdbdhkgcpaaDoorRows.lean that lists a variable, with what it lists TIED to the program's text (the seventh form; the later family's looks); each row that meets fmt, with fmt's text TOLD by the authors' own Lean function (tested against real Go, not proved from fmt's source: count such statements apart). THE CARD IS WHAT COUNTS. Prove the row's statement (the work); the ties are given (YtleckdbdhkgcpaaDoorTie.lean); close each card by the builder's one call (the guide's Derived/Test/ToyasCard.lean, 'card_holds'). Laid BY PROGRAM, IN A SANDBOX (cutbox-door.mjs). By AI agents, Wed Nov 11 2026. No macro, syntax, notation, axiom, sorry.
-/
import Derived.Test.YtleckdbdhkgcpaaDoorRows
import GoSem.ClaimSeven
namespace Go.Proofs.YtleckdbdhkgcpaaDoor
namespace Rows

/-- THE TIED CARD OF 'interdictlaw17.SolveGrows'. -/
def solveGrowsCard : Claim7 := { stood := { row := solveGrowsRow, standIns := [], harness := (true, "47e4513c0f2ebed140c9bd021c2f901f6ae1a4dc05e1492a5622f0d7cafa6cf1"), looks := true }, kinds := [], alts := [], laidByText := true, laidKinds := [.data], laidTests := true, laidLooks := .later }
def SolveGrowsCardSaid : Prop := Claim7.holds Tryd.pinned (.plain (OpenSpec.ofChange solveGrowsSpec)) solveGrowsCard

/-- THE TIED CARD OF 'interdictlaw17.SolveTurned'. -/
def solveTurnedCard : Claim7 := { stood := { row := solveTurnedRow, standIns := [], harness := (true, "47e4513c0f2ebed140c9bd021c2f901f6ae1a4dc05e1492a5622f0d7cafa6cf1"), looks := true }, kinds := [], alts := [], laidByText := true, laidKinds := [.data], laidTests := true, laidLooks := .later }
def SolveTurnedCardSaid : Prop := Claim7.holds Tryd.pinned (.plain (OpenSpec.ofChange solveTurnedSpec)) solveTurnedCard

/-- THE TIED CARD OF 'interdictlaw17.SolveBounds'. -/
def solveBoundsCard : Claim7 := { stood := { row := solveBoundsRow, standIns := [], harness := (true, "47e4513c0f2ebed140c9bd021c2f901f6ae1a4dc05e1492a5622f0d7cafa6cf1"), looks := true }, kinds := [], alts := [], laidByText := true, laidKinds := [.data], laidTests := true, laidLooks := .later }
def SolveBoundsCardSaid : Prop := Claim7.holds Tryd.pinned (.plain (OpenSpec.ofChange solveBoundsSpec)) solveBoundsCard

/-- THE TIED CARD OF 'interdictlaw17.SolveBelow'. -/
def solveBelowCard : Claim7 := { stood := { row := solveBelowRow, standIns := [], harness := (true, "47e4513c0f2ebed140c9bd021c2f901f6ae1a4dc05e1492a5622f0d7cafa6cf1"), looks := true }, kinds := [], alts := [], laidByText := true, laidKinds := [.data], laidTests := true, laidLooks := .later }
def SolveBelowCardSaid : Prop := Claim7.holds Tryd.pinned (.plain (OpenSpec.ofChange solveBelowSpec)) solveBelowCard

/-- THE TIED CARD OF 'interdictlaw17.SolveLeast'. -/
def solveLeastCard : Claim7 := { stood := { row := solveLeastRow, standIns := [], harness := (true, "47e4513c0f2ebed140c9bd021c2f901f6ae1a4dc05e1492a5622f0d7cafa6cf1"), looks := true }, kinds := [], alts := [], laidByText := true, laidKinds := [.data], laidTests := true, laidLooks := .later }
def SolveLeastCardSaid : Prop := Claim7.holds Tryd.pinned (.plain (OpenSpec.ofChange solveLeastSpec)) solveLeastCard

/-- THE SECOND FORM's CARD OF 'interdictlaw17.SolveGrows'. -/
def solveGrowsUptoCard : Claim7 := { stood := { row := solveGrowsUptoRow, standIns := [], harness := (true, "47e4513c0f2ebed140c9bd021c2f901f6ae1a4dc05e1492a5622f0d7cafa6cf1"), looks := true }, kinds := [], alts := [], laidByText := true, laidKinds := [.data], laidTests := true, laidLooks := .later }
def SolveGrowsUptoCardSaid : Prop := Claim7.holds Tryd.pinned (.plain (OpenSpec.upto solveGrowsSpec)) solveGrowsUptoCard

/-- THE SECOND FORM's CARD OF 'interdictlaw17.SolveTurned'. -/
def solveTurnedUptoCard : Claim7 := { stood := { row := solveTurnedUptoRow, standIns := [], harness := (true, "47e4513c0f2ebed140c9bd021c2f901f6ae1a4dc05e1492a5622f0d7cafa6cf1"), looks := true }, kinds := [], alts := [], laidByText := true, laidKinds := [.data], laidTests := true, laidLooks := .later }
def SolveTurnedUptoCardSaid : Prop := Claim7.holds Tryd.pinned (.plain (OpenSpec.upto solveTurnedSpec)) solveTurnedUptoCard

/-- THE SECOND FORM's CARD OF 'interdictlaw17.SolveBounds'. -/
def solveBoundsUptoCard : Claim7 := { stood := { row := solveBoundsUptoRow, standIns := [], harness := (true, "47e4513c0f2ebed140c9bd021c2f901f6ae1a4dc05e1492a5622f0d7cafa6cf1"), looks := true }, kinds := [], alts := [], laidByText := true, laidKinds := [.data], laidTests := true, laidLooks := .later }
def SolveBoundsUptoCardSaid : Prop := Claim7.holds Tryd.pinned (.plain (OpenSpec.upto solveBoundsSpec)) solveBoundsUptoCard

/-- THE SECOND FORM's CARD OF 'interdictlaw17.SolveBelow'. -/
def solveBelowUptoCard : Claim7 := { stood := { row := solveBelowUptoRow, standIns := [], harness := (true, "47e4513c0f2ebed140c9bd021c2f901f6ae1a4dc05e1492a5622f0d7cafa6cf1"), looks := true }, kinds := [], alts := [], laidByText := true, laidKinds := [.data], laidTests := true, laidLooks := .later }
def SolveBelowUptoCardSaid : Prop := Claim7.holds Tryd.pinned (.plain (OpenSpec.upto solveBelowSpec)) solveBelowUptoCard

/-- THE SECOND FORM's CARD OF 'interdictlaw17.SolveLeast'. -/
def solveLeastUptoCard : Claim7 := { stood := { row := solveLeastUptoRow, standIns := [], harness := (true, "47e4513c0f2ebed140c9bd021c2f901f6ae1a4dc05e1492a5622f0d7cafa6cf1"), looks := true }, kinds := [], alts := [], laidByText := true, laidKinds := [.data], laidTests := true, laidLooks := .later }
def SolveLeastUptoCardSaid : Prop := Claim7.holds Tryd.pinned (.plain (OpenSpec.upto solveLeastSpec)) solveLeastUptoCard
end Rows
end Go.Proofs.YtleckdbdhkgcpaaDoor
