/-
  DERIVED. GIVEN WITH THE SEED: THE CARDS: each row of YtmfgonjlkehkoaaDoorRows.lean that lists a variable, with what it lists TIED to the program's text (the seventh form; the later family's looks); each row that meets fmt, with fmt's text TOLD by the authors' own Lean function (tested against real Go, not proved from fmt's source: count such statements apart). THE CARD IS WHAT COUNTS. Prove the row's statement (the work); the ties are given (YtmfgonjlkehkoaaDoorTie.lean); close each card by the builder's one call (the guide's Derived/Test/ToyasCard.lean, 'card_holds'). Laid BY PROGRAM, IN A SANDBOX (cutbox-door.mjs). By AI agents, Wed Nov 11 2026. No macro, syntax, notation, axiom, sorry.
-/
import Derived.Test.YtmfgonjlkehkoaaDoorRows
import GoSem.ClaimSeven
namespace Go.Proofs.YtmfgonjlkehkoaaDoor
namespace Rows

/-- THE TIED CARD OF 'interdictlaw02.MaskAll'. -/
def maskAllCard : Claim7 := { stood := { row := maskAllRow, standIns := [], harness := (true, "c9bbfa762c54aec8738e779afe17a60e3bbfc8c2c5053f20b9754ce32d77a26a"), looks := false }, kinds := [], alts := [], laidByText := true, laidKinds := [.data], laidTests := true, laidLooks := .later }
def MaskAllCardSaid : Prop := Claim7.holds Tryd.pinned (.plain (OpenSpec.ofChange maskAllSpec)) maskAllCard

/-- THE TIED CARD OF 'interdictlaw02.MaskSums'. -/
def maskSumsCard : Claim7 := { stood := { row := maskSumsRow, standIns := [], harness := (true, "c9bbfa762c54aec8738e779afe17a60e3bbfc8c2c5053f20b9754ce32d77a26a"), looks := false }, kinds := [], alts := [], laidByText := true, laidKinds := [.data], laidTests := true, laidLooks := .later }
def MaskSumsCardSaid : Prop := Claim7.holds Tryd.pinned (.plain (OpenSpec.ofChange maskSumsSpec)) maskSumsCard

/-- THE TIED CARD OF 'interdictlaw02.MaskCounts'. -/
def maskCountsCard : Claim7 := { stood := { row := maskCountsRow, standIns := [], harness := (true, "c9bbfa762c54aec8738e779afe17a60e3bbfc8c2c5053f20b9754ce32d77a26a"), looks := false }, kinds := [], alts := [], laidByText := true, laidKinds := [.data], laidTests := true, laidLooks := .later }
def MaskCountsCardSaid : Prop := Claim7.holds Tryd.pinned (.plain (OpenSpec.ofChange maskCountsSpec)) maskCountsCard

/-- THE TIED CARD OF 'interdictlaw02.MaskBack'. -/
def maskBackCard : Claim7 := { stood := { row := maskBackRow, standIns := [], harness := (true, "c9bbfa762c54aec8738e779afe17a60e3bbfc8c2c5053f20b9754ce32d77a26a"), looks := false }, kinds := [], alts := [], laidByText := true, laidKinds := [.data], laidTests := true, laidLooks := .later }
def MaskBackCardSaid : Prop := Claim7.holds Tryd.pinned (.plain (OpenSpec.ofChange maskBackSpec)) maskBackCard

/-- THE SECOND FORM's CARD OF 'interdictlaw02.MaskAll'. -/
def maskAllUptoCard : Claim7 := { stood := { row := maskAllUptoRow, standIns := [], harness := (true, "c9bbfa762c54aec8738e779afe17a60e3bbfc8c2c5053f20b9754ce32d77a26a"), looks := false }, kinds := [], alts := [], laidByText := true, laidKinds := [.data], laidTests := true, laidLooks := .later }
def MaskAllUptoCardSaid : Prop := Claim7.holds Tryd.pinned (.plain (OpenSpec.upto maskAllSpec)) maskAllUptoCard

/-- THE SECOND FORM's CARD OF 'interdictlaw02.MaskSums'. -/
def maskSumsUptoCard : Claim7 := { stood := { row := maskSumsUptoRow, standIns := [], harness := (true, "c9bbfa762c54aec8738e779afe17a60e3bbfc8c2c5053f20b9754ce32d77a26a"), looks := false }, kinds := [], alts := [], laidByText := true, laidKinds := [.data], laidTests := true, laidLooks := .later }
def MaskSumsUptoCardSaid : Prop := Claim7.holds Tryd.pinned (.plain (OpenSpec.upto maskSumsSpec)) maskSumsUptoCard

/-- THE SECOND FORM's CARD OF 'interdictlaw02.MaskCounts'. -/
def maskCountsUptoCard : Claim7 := { stood := { row := maskCountsUptoRow, standIns := [], harness := (true, "c9bbfa762c54aec8738e779afe17a60e3bbfc8c2c5053f20b9754ce32d77a26a"), looks := false }, kinds := [], alts := [], laidByText := true, laidKinds := [.data], laidTests := true, laidLooks := .later }
def MaskCountsUptoCardSaid : Prop := Claim7.holds Tryd.pinned (.plain (OpenSpec.upto maskCountsSpec)) maskCountsUptoCard

/-- THE SECOND FORM's CARD OF 'interdictlaw02.MaskBack'. -/
def maskBackUptoCard : Claim7 := { stood := { row := maskBackUptoRow, standIns := [], harness := (true, "c9bbfa762c54aec8738e779afe17a60e3bbfc8c2c5053f20b9754ce32d77a26a"), looks := false }, kinds := [], alts := [], laidByText := true, laidKinds := [.data], laidTests := true, laidLooks := .later }
def MaskBackUptoCardSaid : Prop := Claim7.holds Tryd.pinned (.plain (OpenSpec.upto maskBackSpec)) maskBackUptoCard
end Rows
end Go.Proofs.YtmfgonjlkehkoaaDoor
