/-
  DERIVED. GIVEN WITH THE SEED: THE CARDS: each row of YtfloonpchjbmnaaDoorRows.lean that lists a variable, with what it lists TIED to the program's text (the seventh form; the later family's looks); each row that meets fmt, with fmt's text TOLD by the authors' own Lean function (tested against real Go, not proved from fmt's source: count such statements apart). THE CARD IS WHAT COUNTS. Prove the row's statement (the work); the ties are given (YtfloonpchjbmnaaDoorTie.lean); close each card by the builder's one call (the guide's Derived/Test/ToyasCard.lean, 'card_holds'). Laid BY PROGRAM, IN A SANDBOX (cutbox-door.mjs). By AI agents, Wed Nov 11 2026. No macro, syntax, notation, axiom, sorry.
-/
import Derived.Test.YtfloonpchjbmnaaDoorRows
import GoSem.ClaimSeven
namespace Go.Proofs.YtfloonpchjbmnaaDoor
namespace Rows

/-- THE TIED CARD OF 'interdictlaw19.SymPuts'. -/
def symPutsCard : Claim7 := { stood := { row := symPutsRow, standIns := [], harness := (true, "5475ddd0adc5b2c2a136d327fbd16eff1ec2acfcabaf05ad73499d1b7002f7d0"), looks := false }, kinds := [], alts := [], laidByText := true, laidKinds := [.data], laidTests := true, laidLooks := .later }
def SymPutsCardSaid : Prop := Claim7.holds Tryd.pinned (.plain (OpenSpec.ofChange symPutsSpec)) symPutsCard

/-- THE TIED CARD OF 'interdictlaw19.SymLows'. -/
def symLowsCard : Claim7 := { stood := { row := symLowsRow, standIns := [], harness := (true, "5475ddd0adc5b2c2a136d327fbd16eff1ec2acfcabaf05ad73499d1b7002f7d0"), looks := false }, kinds := [], alts := [], laidByText := true, laidKinds := [.data], laidTests := true, laidLooks := .later }
def SymLowsCardSaid : Prop := Claim7.holds Tryd.pinned (.plain (OpenSpec.ofChange symLowsSpec)) symLowsCard

/-- THE TIED CARD OF 'interdictlaw19.SymTwice'. -/
def symTwiceCard : Claim7 := { stood := { row := symTwiceRow, standIns := [], harness := (true, "5475ddd0adc5b2c2a136d327fbd16eff1ec2acfcabaf05ad73499d1b7002f7d0"), looks := false }, kinds := [], alts := [], laidByText := true, laidKinds := [.data], laidTests := true, laidLooks := .later }
def SymTwiceCardSaid : Prop := Claim7.holds Tryd.pinned (.plain (OpenSpec.ofChange symTwiceSpec)) symTwiceCard

/-- THE TIED CARD OF 'interdictlaw19.SymJoins'. -/
def symJoinsCard : Claim7 := { stood := { row := symJoinsRow, standIns := [], harness := (true, "5475ddd0adc5b2c2a136d327fbd16eff1ec2acfcabaf05ad73499d1b7002f7d0"), looks := false }, kinds := [], alts := [], laidByText := true, laidKinds := [.data], laidTests := true, laidLooks := .later }
def SymJoinsCardSaid : Prop := Claim7.holds Tryd.pinned (.plain (OpenSpec.ofChange symJoinsSpec)) symJoinsCard

/-- THE TIED CARD OF 'interdictlaw19.SymGrows'. -/
def symGrowsCard : Claim7 := { stood := { row := symGrowsRow, standIns := [], harness := (true, "5475ddd0adc5b2c2a136d327fbd16eff1ec2acfcabaf05ad73499d1b7002f7d0"), looks := false }, kinds := [], alts := [], laidByText := true, laidKinds := [.data], laidTests := true, laidLooks := .later }
def SymGrowsCardSaid : Prop := Claim7.holds Tryd.pinned (.plain (OpenSpec.ofChange symGrowsSpec)) symGrowsCard

/-- THE TIED CARD OF 'interdictlaw19.SymCaps'. -/
def symCapsCard : Claim7 := { stood := { row := symCapsRow, standIns := [], harness := (true, "5475ddd0adc5b2c2a136d327fbd16eff1ec2acfcabaf05ad73499d1b7002f7d0"), looks := false }, kinds := [], alts := [], laidByText := true, laidKinds := [.data], laidTests := true, laidLooks := .later }
def SymCapsCardSaid : Prop := Claim7.holds Tryd.pinned (.plain (OpenSpec.ofChange symCapsSpec)) symCapsCard

/-- THE TIED CARD OF 'interdictlaw19.SymUnder'. -/
def symUnderCard : Claim7 := { stood := { row := symUnderRow, standIns := [], harness := (true, "5475ddd0adc5b2c2a136d327fbd16eff1ec2acfcabaf05ad73499d1b7002f7d0"), looks := false }, kinds := [], alts := [], laidByText := true, laidKinds := [.data], laidTests := true, laidLooks := .later }
def SymUnderCardSaid : Prop := Claim7.holds Tryd.pinned (.plain (OpenSpec.ofChange symUnderSpec)) symUnderCard

/-- THE SECOND FORM's CARD OF 'interdictlaw19.SymPuts'. -/
def symPutsUptoCard : Claim7 := { stood := { row := symPutsUptoRow, standIns := [], harness := (true, "5475ddd0adc5b2c2a136d327fbd16eff1ec2acfcabaf05ad73499d1b7002f7d0"), looks := false }, kinds := [], alts := [], laidByText := true, laidKinds := [.data], laidTests := true, laidLooks := .later }
def SymPutsUptoCardSaid : Prop := Claim7.holds Tryd.pinned (.plain (OpenSpec.upto symPutsSpec)) symPutsUptoCard

/-- THE SECOND FORM's CARD OF 'interdictlaw19.SymLows'. -/
def symLowsUptoCard : Claim7 := { stood := { row := symLowsUptoRow, standIns := [], harness := (true, "5475ddd0adc5b2c2a136d327fbd16eff1ec2acfcabaf05ad73499d1b7002f7d0"), looks := false }, kinds := [], alts := [], laidByText := true, laidKinds := [.data], laidTests := true, laidLooks := .later }
def SymLowsUptoCardSaid : Prop := Claim7.holds Tryd.pinned (.plain (OpenSpec.upto symLowsSpec)) symLowsUptoCard

/-- THE SECOND FORM's CARD OF 'interdictlaw19.SymTwice'. -/
def symTwiceUptoCard : Claim7 := { stood := { row := symTwiceUptoRow, standIns := [], harness := (true, "5475ddd0adc5b2c2a136d327fbd16eff1ec2acfcabaf05ad73499d1b7002f7d0"), looks := false }, kinds := [], alts := [], laidByText := true, laidKinds := [.data], laidTests := true, laidLooks := .later }
def SymTwiceUptoCardSaid : Prop := Claim7.holds Tryd.pinned (.plain (OpenSpec.upto symTwiceSpec)) symTwiceUptoCard

/-- THE SECOND FORM's CARD OF 'interdictlaw19.SymJoins'. -/
def symJoinsUptoCard : Claim7 := { stood := { row := symJoinsUptoRow, standIns := [], harness := (true, "5475ddd0adc5b2c2a136d327fbd16eff1ec2acfcabaf05ad73499d1b7002f7d0"), looks := false }, kinds := [], alts := [], laidByText := true, laidKinds := [.data], laidTests := true, laidLooks := .later }
def SymJoinsUptoCardSaid : Prop := Claim7.holds Tryd.pinned (.plain (OpenSpec.upto symJoinsSpec)) symJoinsUptoCard

/-- THE SECOND FORM's CARD OF 'interdictlaw19.SymGrows'. -/
def symGrowsUptoCard : Claim7 := { stood := { row := symGrowsUptoRow, standIns := [], harness := (true, "5475ddd0adc5b2c2a136d327fbd16eff1ec2acfcabaf05ad73499d1b7002f7d0"), looks := false }, kinds := [], alts := [], laidByText := true, laidKinds := [.data], laidTests := true, laidLooks := .later }
def SymGrowsUptoCardSaid : Prop := Claim7.holds Tryd.pinned (.plain (OpenSpec.upto symGrowsSpec)) symGrowsUptoCard

/-- THE SECOND FORM's CARD OF 'interdictlaw19.SymCaps'. -/
def symCapsUptoCard : Claim7 := { stood := { row := symCapsUptoRow, standIns := [], harness := (true, "5475ddd0adc5b2c2a136d327fbd16eff1ec2acfcabaf05ad73499d1b7002f7d0"), looks := false }, kinds := [], alts := [], laidByText := true, laidKinds := [.data], laidTests := true, laidLooks := .later }
def SymCapsUptoCardSaid : Prop := Claim7.holds Tryd.pinned (.plain (OpenSpec.upto symCapsSpec)) symCapsUptoCard

/-- THE SECOND FORM's CARD OF 'interdictlaw19.SymUnder'. -/
def symUnderUptoCard : Claim7 := { stood := { row := symUnderUptoRow, standIns := [], harness := (true, "5475ddd0adc5b2c2a136d327fbd16eff1ec2acfcabaf05ad73499d1b7002f7d0"), looks := false }, kinds := [], alts := [], laidByText := true, laidKinds := [.data], laidTests := true, laidLooks := .later }
def SymUnderUptoCardSaid : Prop := Claim7.holds Tryd.pinned (.plain (OpenSpec.upto symUnderSpec)) symUnderUptoCard
end Rows
end Go.Proofs.YtfloonpchjbmnaaDoor
