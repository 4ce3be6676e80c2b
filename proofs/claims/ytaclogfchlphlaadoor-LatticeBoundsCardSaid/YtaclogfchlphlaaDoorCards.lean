/-
  DERIVED. GIVEN WITH THE SEED: THE CARDS: each row of YtaclogfchlphlaaDoorRows.lean that lists a variable, with what it lists TIED to the program's text (the seventh form; the later family's looks); each row that meets fmt, with fmt's text TOLD by the authors' own Lean function (tested against real Go, not proved from fmt's source: count such statements apart). THE CARD IS WHAT COUNTS. Prove the row's statement (the work); the ties are given (YtaclogfchlphlaaDoorTie.lean); close each card by the builder's one call (the guide's Derived/Test/ToyasCard.lean, 'card_holds'). Laid BY PROGRAM, IN A SANDBOX (cutbox-door.mjs). By AI agents, Wed Nov 11 2026. No macro, syntax, notation, axiom, sorry.
-/
import Derived.Test.YtaclogfchlphlaaDoorRows
import GoSem.ClaimSeven
namespace Go.Proofs.YtaclogfchlphlaaDoor
namespace Rows

/-- THE TIED CARD OF 'interdictlaw05.LatticeBuilds'. -/
def latticeBuildsCard : Claim7 := { stood := { row := latticeBuildsRow, standIns := [], harness := (true, "10cb6ef104a79b5a4e6db6593bc91b162b859c165604885ace6a3a39e2cfad83"), looks := false }, kinds := [], alts := [], laidByText := true, laidKinds := [.data], laidTests := true, laidLooks := .later }
def LatticeBuildsCardSaid : Prop := Claim7.holds Tryd.pinned (.plain (OpenSpec.ofChange latticeBuildsSpec)) latticeBuildsCard

/-- THE TIED CARD OF 'interdictlaw05.LatticeRights'. -/
def latticeRightsCard : Claim7 := { stood := { row := latticeRightsRow, standIns := [], harness := (true, "10cb6ef104a79b5a4e6db6593bc91b162b859c165604885ace6a3a39e2cfad83"), looks := false }, kinds := [], alts := [], laidByText := true, laidKinds := [.data], laidTests := true, laidLooks := .later }
def LatticeRightsCardSaid : Prop := Claim7.holds Tryd.pinned (.plain (OpenSpec.ofChange latticeRightsSpec)) latticeRightsCard

/-- THE TIED CARD OF 'interdictlaw05.LatticeChains'. -/
def latticeChainsCard : Claim7 := { stood := { row := latticeChainsRow, standIns := [], harness := (true, "10cb6ef104a79b5a4e6db6593bc91b162b859c165604885ace6a3a39e2cfad83"), looks := false }, kinds := [], alts := [], laidByText := true, laidKinds := [.data], laidTests := true, laidLooks := .later }
def LatticeChainsCardSaid : Prop := Claim7.holds Tryd.pinned (.plain (OpenSpec.ofChange latticeChainsSpec)) latticeChainsCard

/-- THE TIED CARD OF 'interdictlaw05.LatticeEnds'. -/
def latticeEndsCard : Claim7 := { stood := { row := latticeEndsRow, standIns := [], harness := (true, "10cb6ef104a79b5a4e6db6593bc91b162b859c165604885ace6a3a39e2cfad83"), looks := false }, kinds := [], alts := [], laidByText := true, laidKinds := [.data], laidTests := true, laidLooks := .later }
def LatticeEndsCardSaid : Prop := Claim7.holds Tryd.pinned (.plain (OpenSpec.ofChange latticeEndsSpec)) latticeEndsCard

/-- THE TIED CARD OF 'interdictlaw05.LatticeCovers'. -/
def latticeCoversCard : Claim7 := { stood := { row := latticeCoversRow, standIns := [], harness := (true, "10cb6ef104a79b5a4e6db6593bc91b162b859c165604885ace6a3a39e2cfad83"), looks := false }, kinds := [], alts := [], laidByText := true, laidKinds := [.data], laidTests := true, laidLooks := .later }
def LatticeCoversCardSaid : Prop := Claim7.holds Tryd.pinned (.plain (OpenSpec.ofChange latticeCoversSpec)) latticeCoversCard

/-- THE TIED CARD OF 'interdictlaw05.LatticeBack'. -/
def latticeBackCard : Claim7 := { stood := { row := latticeBackRow, standIns := [], harness := (true, "10cb6ef104a79b5a4e6db6593bc91b162b859c165604885ace6a3a39e2cfad83"), looks := false }, kinds := [], alts := [], laidByText := true, laidKinds := [.data], laidTests := true, laidLooks := .later }
def LatticeBackCardSaid : Prop := Claim7.holds Tryd.pinned (.plain (OpenSpec.ofChange latticeBackSpec)) latticeBackCard

/-- THE TIED CARD OF 'interdictlaw05.LatticeJoins'. -/
def latticeJoinsCard : Claim7 := { stood := { row := latticeJoinsRow, standIns := [], harness := (true, "10cb6ef104a79b5a4e6db6593bc91b162b859c165604885ace6a3a39e2cfad83"), looks := false }, kinds := [], alts := [], laidByText := true, laidKinds := [.data], laidTests := true, laidLooks := .later }
def LatticeJoinsCardSaid : Prop := Claim7.holds Tryd.pinned (.plain (OpenSpec.ofChange latticeJoinsSpec)) latticeJoinsCard

/-- THE TIED CARD OF 'interdictlaw05.LatticeLaws'. -/
def latticeLawsCard : Claim7 := { stood := { row := latticeLawsRow, standIns := [], harness := (true, "10cb6ef104a79b5a4e6db6593bc91b162b859c165604885ace6a3a39e2cfad83"), looks := false }, kinds := [], alts := [], laidByText := true, laidKinds := [.data], laidTests := true, laidLooks := .later }
def LatticeLawsCardSaid : Prop := Claim7.holds Tryd.pinned (.plain (OpenSpec.ofChange latticeLawsSpec)) latticeLawsCard

/-- THE TIED CARD OF 'interdictlaw05.LatticeBounds'. -/
def latticeBoundsCard : Claim7 := { stood := { row := latticeBoundsRow, standIns := [], harness := (true, "10cb6ef104a79b5a4e6db6593bc91b162b859c165604885ace6a3a39e2cfad83"), looks := false }, kinds := [], alts := [], laidByText := true, laidKinds := [.data], laidTests := true, laidLooks := .later }
def LatticeBoundsCardSaid : Prop := Claim7.holds Tryd.pinned (.plain (OpenSpec.ofChange latticeBoundsSpec)) latticeBoundsCard

/-- THE SECOND FORM's CARD OF 'interdictlaw05.LatticeBuilds'. -/
def latticeBuildsUptoCard : Claim7 := { stood := { row := latticeBuildsUptoRow, standIns := [], harness := (true, "10cb6ef104a79b5a4e6db6593bc91b162b859c165604885ace6a3a39e2cfad83"), looks := false }, kinds := [], alts := [], laidByText := true, laidKinds := [.data], laidTests := true, laidLooks := .later }
def LatticeBuildsUptoCardSaid : Prop := Claim7.holds Tryd.pinned (.plain (OpenSpec.upto latticeBuildsSpec)) latticeBuildsUptoCard

/-- THE SECOND FORM's CARD OF 'interdictlaw05.LatticeRights'. -/
def latticeRightsUptoCard : Claim7 := { stood := { row := latticeRightsUptoRow, standIns := [], harness := (true, "10cb6ef104a79b5a4e6db6593bc91b162b859c165604885ace6a3a39e2cfad83"), looks := false }, kinds := [], alts := [], laidByText := true, laidKinds := [.data], laidTests := true, laidLooks := .later }
def LatticeRightsUptoCardSaid : Prop := Claim7.holds Tryd.pinned (.plain (OpenSpec.upto latticeRightsSpec)) latticeRightsUptoCard

/-- THE SECOND FORM's CARD OF 'interdictlaw05.LatticeChains'. -/
def latticeChainsUptoCard : Claim7 := { stood := { row := latticeChainsUptoRow, standIns := [], harness := (true, "10cb6ef104a79b5a4e6db6593bc91b162b859c165604885ace6a3a39e2cfad83"), looks := false }, kinds := [], alts := [], laidByText := true, laidKinds := [.data], laidTests := true, laidLooks := .later }
def LatticeChainsUptoCardSaid : Prop := Claim7.holds Tryd.pinned (.plain (OpenSpec.upto latticeChainsSpec)) latticeChainsUptoCard

/-- THE SECOND FORM's CARD OF 'interdictlaw05.LatticeEnds'. -/
def latticeEndsUptoCard : Claim7 := { stood := { row := latticeEndsUptoRow, standIns := [], harness := (true, "10cb6ef104a79b5a4e6db6593bc91b162b859c165604885ace6a3a39e2cfad83"), looks := false }, kinds := [], alts := [], laidByText := true, laidKinds := [.data], laidTests := true, laidLooks := .later }
def LatticeEndsUptoCardSaid : Prop := Claim7.holds Tryd.pinned (.plain (OpenSpec.upto latticeEndsSpec)) latticeEndsUptoCard

/-- THE SECOND FORM's CARD OF 'interdictlaw05.LatticeCovers'. -/
def latticeCoversUptoCard : Claim7 := { stood := { row := latticeCoversUptoRow, standIns := [], harness := (true, "10cb6ef104a79b5a4e6db6593bc91b162b859c165604885ace6a3a39e2cfad83"), looks := false }, kinds := [], alts := [], laidByText := true, laidKinds := [.data], laidTests := true, laidLooks := .later }
def LatticeCoversUptoCardSaid : Prop := Claim7.holds Tryd.pinned (.plain (OpenSpec.upto latticeCoversSpec)) latticeCoversUptoCard

/-- THE SECOND FORM's CARD OF 'interdictlaw05.LatticeBack'. -/
def latticeBackUptoCard : Claim7 := { stood := { row := latticeBackUptoRow, standIns := [], harness := (true, "10cb6ef104a79b5a4e6db6593bc91b162b859c165604885ace6a3a39e2cfad83"), looks := false }, kinds := [], alts := [], laidByText := true, laidKinds := [.data], laidTests := true, laidLooks := .later }
def LatticeBackUptoCardSaid : Prop := Claim7.holds Tryd.pinned (.plain (OpenSpec.upto latticeBackSpec)) latticeBackUptoCard

/-- THE SECOND FORM's CARD OF 'interdictlaw05.LatticeJoins'. -/
def latticeJoinsUptoCard : Claim7 := { stood := { row := latticeJoinsUptoRow, standIns := [], harness := (true, "10cb6ef104a79b5a4e6db6593bc91b162b859c165604885ace6a3a39e2cfad83"), looks := false }, kinds := [], alts := [], laidByText := true, laidKinds := [.data], laidTests := true, laidLooks := .later }
def LatticeJoinsUptoCardSaid : Prop := Claim7.holds Tryd.pinned (.plain (OpenSpec.upto latticeJoinsSpec)) latticeJoinsUptoCard

/-- THE SECOND FORM's CARD OF 'interdictlaw05.LatticeLaws'. -/
def latticeLawsUptoCard : Claim7 := { stood := { row := latticeLawsUptoRow, standIns := [], harness := (true, "10cb6ef104a79b5a4e6db6593bc91b162b859c165604885ace6a3a39e2cfad83"), looks := false }, kinds := [], alts := [], laidByText := true, laidKinds := [.data], laidTests := true, laidLooks := .later }
def LatticeLawsUptoCardSaid : Prop := Claim7.holds Tryd.pinned (.plain (OpenSpec.upto latticeLawsSpec)) latticeLawsUptoCard

/-- THE SECOND FORM's CARD OF 'interdictlaw05.LatticeBounds'. -/
def latticeBoundsUptoCard : Claim7 := { stood := { row := latticeBoundsUptoRow, standIns := [], harness := (true, "10cb6ef104a79b5a4e6db6593bc91b162b859c165604885ace6a3a39e2cfad83"), looks := false }, kinds := [], alts := [], laidByText := true, laidKinds := [.data], laidTests := true, laidLooks := .later }
def LatticeBoundsUptoCardSaid : Prop := Claim7.holds Tryd.pinned (.plain (OpenSpec.upto latticeBoundsSpec)) latticeBoundsUptoCard
end Rows
end Go.Proofs.YtaclogfchlphlaaDoor
