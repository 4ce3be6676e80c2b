/-
  NARROWER THAN 'FOR EVERY INPUT', by the rows' own cells (each row's printed sentence says how): LatticeBuilds: laid · LatticeRights: laid · LatticeChains: laid · LatticeEnds: laid · LatticeCovers: laid · LatticeBack: laid · LatticeJoins: laid · LatticeLaws: laid · LatticeBounds: laid.
  DERIVED. THE GIVEN ROWS OF THIS SEAT. 9 by the template 'for every input the law returns true; each argument reads behind the call as it read before'; 0 by the template 'total and deterministic' (their statements: YtaclogfchlphlaaDoorTotals.lean).
  GIVEN WITH THE SEED: the statements are not yours to turn. If you find one false, say at which input.
  Laid BY PROGRAM, IN A SANDBOX (cutbox-rows.mjs): the forced cells as the released guide's own fill.sh prints them over the translation 603e1f71398d2eae… (all of the seat's roots in one cut). By AI agents, Wed Nov 11 2026. No macro, syntax, notation, axiom, sorry.
-/
import Derived.Test.YtaclogfchlphlaaDoorChecked
import GoSem.Claim
import GoSem.ClaimJoined
import GoSem.ClaimMapViews
import Derived.JoinedTies
import Derived.KernelRfl
namespace Go.Proofs.YtaclogfchlphlaaDoor
/- THE CELL 'sum', in the pinned program and in every row, IS THE sha256 OF THE DUMP (.gsa) THAT YtaclogfchlphlaaDoorProg.lean LOADS. Nothing in Lean hashes anything: it is a label: what it is worth is what the hold of that sum in a sandbox is worth. -/
noncomputable def Tryd.pinned : Pinned := { name := "ytaclogfchlphlaadoor", sum := "603e1f71398d2eae3db64a04f767ec36038fc656b1043ad2797739394e577f5e", checked := Tryd.checked }
namespace Rows
def none {H : Type} : Left H := { results := [], args := [] }

/- WHAT THE LISTED PACKAGE-LEVEL VARIABLES READ AS WHEN THE CALL BEGINS. Each datum BY PROGRAM (the guide's laid-datum.mjs) off the statement by which the dump's own 'gosem.cut.vars' lays the variable. In a bare row this is a premise. The card (YtaclogfchlphlaaDoorCards.lean) ties it to the program's text. -/
def laid_math_bits_deBruijn64tab {H : Type} : DataW H := .agg [.lit (.int .u8 0), .lit (.int .u8 1), .lit (.int .u8 56), .lit (.int .u8 2), .lit (.int .u8 57), .lit (.int .u8 49), .lit (.int .u8 28), .lit (.int .u8 3), .lit (.int .u8 61), .lit (.int .u8 58), .lit (.int .u8 42), .lit (.int .u8 50), .lit (.int .u8 38), .lit (.int .u8 29), .lit (.int .u8 17), .lit (.int .u8 4), .lit (.int .u8 62), .lit (.int .u8 47), .lit (.int .u8 59), .lit (.int .u8 36), .lit (.int .u8 45), .lit (.int .u8 43), .lit (.int .u8 51), .lit (.int .u8 22), .lit (.int .u8 53), .lit (.int .u8 39), .lit (.int .u8 33), .lit (.int .u8 30), .lit (.int .u8 24), .lit (.int .u8 18), .lit (.int .u8 12), .lit (.int .u8 5), .lit (.int .u8 63), .lit (.int .u8 55), .lit (.int .u8 48), .lit (.int .u8 27), .lit (.int .u8 60), .lit (.int .u8 41), .lit (.int .u8 37), .lit (.int .u8 16), .lit (.int .u8 46), .lit (.int .u8 35), .lit (.int .u8 44), .lit (.int .u8 21), .lit (.int .u8 52), .lit (.int .u8 32), .lit (.int .u8 23), .lit (.int .u8 11), .lit (.int .u8 54), .lit (.int .u8 26), .lit (.int .u8 40), .lit (.int .u8 15), .lit (.int .u8 34), .lit (.int .u8 20), .lit (.int .u8 31), .lit (.int .u8 10), .lit (.int .u8 25), .lit (.int .u8 14), .lit (.int .u8 19), .lit (.int .u8 9), .lit (.int .u8 13), .lit (.int .u8 8), .lit (.int .u8 7), .lit (.int .u8 6)]

/-- 'interdictlaw05.LatticeBuilds': WHATEVER THE INPUT: true; the input reads as it did. -/
def latticeBuildsSpec : ChangeSpec := { name := "latticeBuilds", fn := fun _ => fun
  | [d1, d2] => { results := [.lit (.bool true)], args := [d1, d2] }
  | _ => none }
def latticeBuildsRow : OpenClaim := { program := "ytaclogfchlphlaadoor", sum := "603e1f71398d2eae3db64a04f767ec36038fc656b1043ad2797739394e577f5e", func := "interdict/interdictlaw05.LatticeBuilds", spec := "latticeBuilds", unfollowed := true, recurses := true, named := ["math/bits.deBruijn64tab"], apart := false, laid := [("math/bits.deBruijn64tab", laid_math_bits_deBruijn64tab)] }
def LatticeBuildsSaid : Prop := latticeBuildsRow.holds Tryd.pinned (OpenSpec.ofChange latticeBuildsSpec)

/-- ITS FALSE NEIGHBOUR: 'it returns false'. Refute it at one input. -/
def latticeBuildsWrong : ChangeSpec := { name := "latticeBuilds", fn := fun _ => fun
  | [d1, d2] => { results := [.lit (.bool false)], args := [d1, d2] }
  | _ => none }
def LatticeBuildsWrongFalsely : Prop := latticeBuildsRow.holds Tryd.pinned (OpenSpec.ofChange latticeBuildsWrong)

/-- 'interdictlaw05.LatticeRights': WHATEVER THE INPUT: true; the input reads as it did. -/
def latticeRightsSpec : ChangeSpec := { name := "latticeRights", fn := fun _ => fun
  | [d] => { results := [.lit (.bool true)], args := [d] }
  | _ => none }
def latticeRightsRow : OpenClaim := { program := "ytaclogfchlphlaadoor", sum := "603e1f71398d2eae3db64a04f767ec36038fc656b1043ad2797739394e577f5e", func := "interdict/interdictlaw05.LatticeRights", spec := "latticeRights", unfollowed := true, recurses := true, named := ["math/bits.deBruijn64tab"], apart := false, laid := [("math/bits.deBruijn64tab", laid_math_bits_deBruijn64tab)] }
def LatticeRightsSaid : Prop := latticeRightsRow.holds Tryd.pinned (OpenSpec.ofChange latticeRightsSpec)

/-- ITS FALSE NEIGHBOUR: 'it returns false'. Refute it at one input. -/
def latticeRightsWrong : ChangeSpec := { name := "latticeRights", fn := fun _ => fun
  | [d] => { results := [.lit (.bool false)], args := [d] }
  | _ => none }
def LatticeRightsWrongFalsely : Prop := latticeRightsRow.holds Tryd.pinned (OpenSpec.ofChange latticeRightsWrong)

/-- 'interdictlaw05.LatticeChains': WHATEVER THE INPUT: true; the input reads as it did. -/
def latticeChainsSpec : ChangeSpec := { name := "latticeChains", fn := fun _ => fun
  | [d] => { results := [.lit (.bool true)], args := [d] }
  | _ => none }
def latticeChainsRow : OpenClaim := { program := "ytaclogfchlphlaadoor", sum := "603e1f71398d2eae3db64a04f767ec36038fc656b1043ad2797739394e577f5e", func := "interdict/interdictlaw05.LatticeChains", spec := "latticeChains", unfollowed := true, recurses := true, named := ["math/bits.deBruijn64tab"], apart := false, laid := [("math/bits.deBruijn64tab", laid_math_bits_deBruijn64tab)] }
def LatticeChainsSaid : Prop := latticeChainsRow.holds Tryd.pinned (OpenSpec.ofChange latticeChainsSpec)

/-- ITS FALSE NEIGHBOUR: 'it returns false'. Refute it at one input. -/
def latticeChainsWrong : ChangeSpec := { name := "latticeChains", fn := fun _ => fun
  | [d] => { results := [.lit (.bool false)], args := [d] }
  | _ => none }
def LatticeChainsWrongFalsely : Prop := latticeChainsRow.holds Tryd.pinned (OpenSpec.ofChange latticeChainsWrong)

/-- 'interdictlaw05.LatticeEnds': WHATEVER THE INPUT: true; the input reads as it did. -/
def latticeEndsSpec : ChangeSpec := { name := "latticeEnds", fn := fun _ => fun
  | [d] => { results := [.lit (.bool true)], args := [d] }
  | _ => none }
def latticeEndsRow : OpenClaim := { program := "ytaclogfchlphlaadoor", sum := "603e1f71398d2eae3db64a04f767ec36038fc656b1043ad2797739394e577f5e", func := "interdict/interdictlaw05.LatticeEnds", spec := "latticeEnds", unfollowed := true, recurses := true, named := ["math/bits.deBruijn64tab"], apart := false, laid := [("math/bits.deBruijn64tab", laid_math_bits_deBruijn64tab)] }
def LatticeEndsSaid : Prop := latticeEndsRow.holds Tryd.pinned (OpenSpec.ofChange latticeEndsSpec)

/-- ITS FALSE NEIGHBOUR: 'it returns false'. Refute it at one input. -/
def latticeEndsWrong : ChangeSpec := { name := "latticeEnds", fn := fun _ => fun
  | [d] => { results := [.lit (.bool false)], args := [d] }
  | _ => none }
def LatticeEndsWrongFalsely : Prop := latticeEndsRow.holds Tryd.pinned (OpenSpec.ofChange latticeEndsWrong)

/-- 'interdictlaw05.LatticeCovers': WHATEVER THE INPUT: true; the input reads as it did. -/
def latticeCoversSpec : ChangeSpec := { name := "latticeCovers", fn := fun _ => fun
  | [d] => { results := [.lit (.bool true)], args := [d] }
  | _ => none }
def latticeCoversRow : OpenClaim := { program := "ytaclogfchlphlaadoor", sum := "603e1f71398d2eae3db64a04f767ec36038fc656b1043ad2797739394e577f5e", func := "interdict/interdictlaw05.LatticeCovers", spec := "latticeCovers", unfollowed := true, recurses := true, named := ["math/bits.deBruijn64tab"], apart := false, laid := [("math/bits.deBruijn64tab", laid_math_bits_deBruijn64tab)] }
def LatticeCoversSaid : Prop := latticeCoversRow.holds Tryd.pinned (OpenSpec.ofChange latticeCoversSpec)

/-- ITS FALSE NEIGHBOUR: 'it returns false'. Refute it at one input. -/
def latticeCoversWrong : ChangeSpec := { name := "latticeCovers", fn := fun _ => fun
  | [d] => { results := [.lit (.bool false)], args := [d] }
  | _ => none }
def LatticeCoversWrongFalsely : Prop := latticeCoversRow.holds Tryd.pinned (OpenSpec.ofChange latticeCoversWrong)

/-- 'interdictlaw05.LatticeBack': WHATEVER THE INPUT: true; the input reads as it did. -/
def latticeBackSpec : ChangeSpec := { name := "latticeBack", fn := fun _ => fun
  | [d1, d2] => { results := [.lit (.bool true)], args := [d1, d2] }
  | _ => none }
def latticeBackRow : OpenClaim := { program := "ytaclogfchlphlaadoor", sum := "603e1f71398d2eae3db64a04f767ec36038fc656b1043ad2797739394e577f5e", func := "interdict/interdictlaw05.LatticeBack", spec := "latticeBack", unfollowed := true, recurses := true, named := ["math/bits.deBruijn64tab"], apart := false, laid := [("math/bits.deBruijn64tab", laid_math_bits_deBruijn64tab)] }
def LatticeBackSaid : Prop := latticeBackRow.holds Tryd.pinned (OpenSpec.ofChange latticeBackSpec)

/-- ITS FALSE NEIGHBOUR: 'it returns false'. Refute it at one input. -/
def latticeBackWrong : ChangeSpec := { name := "latticeBack", fn := fun _ => fun
  | [d1, d2] => { results := [.lit (.bool false)], args := [d1, d2] }
  | _ => none }
def LatticeBackWrongFalsely : Prop := latticeBackRow.holds Tryd.pinned (OpenSpec.ofChange latticeBackWrong)

/-- 'interdictlaw05.LatticeJoins': WHATEVER THE INPUT: true; the input reads as it did. -/
def latticeJoinsSpec : ChangeSpec := { name := "latticeJoins", fn := fun _ => fun
  | [d1, d2, d3] => { results := [.lit (.bool true)], args := [d1, d2, d3] }
  | _ => none }
def latticeJoinsRow : OpenClaim := { program := "ytaclogfchlphlaadoor", sum := "603e1f71398d2eae3db64a04f767ec36038fc656b1043ad2797739394e577f5e", func := "interdict/interdictlaw05.LatticeJoins", spec := "latticeJoins", unfollowed := true, recurses := true, named := ["math/bits.deBruijn64tab"], apart := false, laid := [("math/bits.deBruijn64tab", laid_math_bits_deBruijn64tab)] }
def LatticeJoinsSaid : Prop := latticeJoinsRow.holds Tryd.pinned (OpenSpec.ofChange latticeJoinsSpec)

/-- ITS FALSE NEIGHBOUR: 'it returns false'. Refute it at one input. -/
def latticeJoinsWrong : ChangeSpec := { name := "latticeJoins", fn := fun _ => fun
  | [d1, d2, d3] => { results := [.lit (.bool false)], args := [d1, d2, d3] }
  | _ => none }
def LatticeJoinsWrongFalsely : Prop := latticeJoinsRow.holds Tryd.pinned (OpenSpec.ofChange latticeJoinsWrong)

/-- 'interdictlaw05.LatticeLaws': WHATEVER THE INPUT: true; the input reads as it did. -/
def latticeLawsSpec : ChangeSpec := { name := "latticeLaws", fn := fun _ => fun
  | [d] => { results := [.lit (.bool true)], args := [d] }
  | _ => none }
def latticeLawsRow : OpenClaim := { program := "ytaclogfchlphlaadoor", sum := "603e1f71398d2eae3db64a04f767ec36038fc656b1043ad2797739394e577f5e", func := "interdict/interdictlaw05.LatticeLaws", spec := "latticeLaws", unfollowed := true, recurses := true, named := ["math/bits.deBruijn64tab"], apart := false, laid := [("math/bits.deBruijn64tab", laid_math_bits_deBruijn64tab)] }
def LatticeLawsSaid : Prop := latticeLawsRow.holds Tryd.pinned (OpenSpec.ofChange latticeLawsSpec)

/-- ITS FALSE NEIGHBOUR: 'it returns false'. Refute it at one input. -/
def latticeLawsWrong : ChangeSpec := { name := "latticeLaws", fn := fun _ => fun
  | [d] => { results := [.lit (.bool false)], args := [d] }
  | _ => none }
def LatticeLawsWrongFalsely : Prop := latticeLawsRow.holds Tryd.pinned (OpenSpec.ofChange latticeLawsWrong)

/-- 'interdictlaw05.LatticeBounds': WHATEVER THE INPUT: true; the input reads as it did. -/
def latticeBoundsSpec : ChangeSpec := { name := "latticeBounds", fn := fun _ => fun
  | [d] => { results := [.lit (.bool true)], args := [d] }
  | _ => none }
def latticeBoundsRow : OpenClaim := { program := "ytaclogfchlphlaadoor", sum := "603e1f71398d2eae3db64a04f767ec36038fc656b1043ad2797739394e577f5e", func := "interdict/interdictlaw05.LatticeBounds", spec := "latticeBounds", unfollowed := true, recurses := true, named := ["math/bits.deBruijn64tab"], apart := false, laid := [("math/bits.deBruijn64tab", laid_math_bits_deBruijn64tab)] }
def LatticeBoundsSaid : Prop := latticeBoundsRow.holds Tryd.pinned (OpenSpec.ofChange latticeBoundsSpec)

/-- ITS FALSE NEIGHBOUR: 'it returns false'. Refute it at one input. -/
def latticeBoundsWrong : ChangeSpec := { name := "latticeBounds", fn := fun _ => fun
  | [d] => { results := [.lit (.bool false)], args := [d] }
  | _ => none }
def LatticeBoundsWrongFalsely : Prop := latticeBoundsRow.holds Tryd.pinned (OpenSpec.ofChange latticeBoundsWrong)

/- THE SECOND FORM. 'bulk': how many values and letters a reading holds, each counted each time it is reached (what is shared counts as often as it is met; a slice's spare places count too). A statement '..UptoSaid' is the law's where the arguments, and the package variables that the reading takes, are together of bulk at most 1048576: NARROWER than '..Said'. Prove '..Said' where nothing that the law and all that it calls make is longer than what came in: it says more and counts as full. Else prove '..UptoSaid'. A law counts once. -/
mutual
def uptoBulk {H : Type} : DataW H → Nat
  | .lit (.string bytes) => bytes.length + 1
  | .lit _ => 1
  | .nil => 1
  | .ptr d => uptoBulk d + 1
  | .slice elems spare => uptoBulkAll elems + uptoBulkAll spare + 1
  | .agg parts => uptoBulkAll parts + 1
  | .iface _ d => uptoBulk d + 1
  | .map entries => uptoBulkEntries entries + 1
  | .held _ => 1
def uptoBulkAll {H : Type} : List (DataW H) → Nat
  | [] => 0
  | d :: r => uptoBulk d + uptoBulkAll r
def uptoBulkEntries {H : Type} : List (Lit × DataW H) → Nat
  | [] => 0
  | x :: r => uptoBulkEntry x + uptoBulkEntries r
def uptoBulkEntry {H : Type} : Lit × DataW H → Nat
  | (.string bytes, d) => bytes.length + uptoBulk d + 1
  | (_, d) => uptoBulk d + 1
 end
def uptoSmall : (H : Type) → List (DataW H) → Bool := fun _ ds => decide (uptoBulkAll ds ≤ 1048576)
def OpenSpec.upto (s : _root_.Go.ChangeSpec) : _root_.Go.OpenSpec := { _root_.Go.OpenSpec.ofChange s with cond := some uptoSmall }

/-- 'interdictlaw05.LatticeBuilds', WHERE WHAT IT READS IS OF BULK AT MOST 1048576: true; the input reads as it did. -/
def latticeBuildsUptoRow : OpenClaim := { program := "ytaclogfchlphlaadoor", sum := "603e1f71398d2eae3db64a04f767ec36038fc656b1043ad2797739394e577f5e", func := "interdict/interdictlaw05.LatticeBuilds", spec := "latticeBuilds", unfollowed := true, recurses := true, named := ["math/bits.deBruijn64tab"], apart := false, laid := [("math/bits.deBruijn64tab", laid_math_bits_deBruijn64tab)], narrowed := true }
def LatticeBuildsUptoSaid : Prop := latticeBuildsUptoRow.holds Tryd.pinned (OpenSpec.upto latticeBuildsSpec)

/-- 'interdictlaw05.LatticeRights', WHERE WHAT IT READS IS OF BULK AT MOST 1048576: true; the input reads as it did. -/
def latticeRightsUptoRow : OpenClaim := { program := "ytaclogfchlphlaadoor", sum := "603e1f71398d2eae3db64a04f767ec36038fc656b1043ad2797739394e577f5e", func := "interdict/interdictlaw05.LatticeRights", spec := "latticeRights", unfollowed := true, recurses := true, named := ["math/bits.deBruijn64tab"], apart := false, laid := [("math/bits.deBruijn64tab", laid_math_bits_deBruijn64tab)], narrowed := true }
def LatticeRightsUptoSaid : Prop := latticeRightsUptoRow.holds Tryd.pinned (OpenSpec.upto latticeRightsSpec)

/-- 'interdictlaw05.LatticeChains', WHERE WHAT IT READS IS OF BULK AT MOST 1048576: true; the input reads as it did. -/
def latticeChainsUptoRow : OpenClaim := { program := "ytaclogfchlphlaadoor", sum := "603e1f71398d2eae3db64a04f767ec36038fc656b1043ad2797739394e577f5e", func := "interdict/interdictlaw05.LatticeChains", spec := "latticeChains", unfollowed := true, recurses := true, named := ["math/bits.deBruijn64tab"], apart := false, laid := [("math/bits.deBruijn64tab", laid_math_bits_deBruijn64tab)], narrowed := true }
def LatticeChainsUptoSaid : Prop := latticeChainsUptoRow.holds Tryd.pinned (OpenSpec.upto latticeChainsSpec)

/-- 'interdictlaw05.LatticeEnds', WHERE WHAT IT READS IS OF BULK AT MOST 1048576: true; the input reads as it did. -/
def latticeEndsUptoRow : OpenClaim := { program := "ytaclogfchlphlaadoor", sum := "603e1f71398d2eae3db64a04f767ec36038fc656b1043ad2797739394e577f5e", func := "interdict/interdictlaw05.LatticeEnds", spec := "latticeEnds", unfollowed := true, recurses := true, named := ["math/bits.deBruijn64tab"], apart := false, laid := [("math/bits.deBruijn64tab", laid_math_bits_deBruijn64tab)], narrowed := true }
def LatticeEndsUptoSaid : Prop := latticeEndsUptoRow.holds Tryd.pinned (OpenSpec.upto latticeEndsSpec)

/-- 'interdictlaw05.LatticeCovers', WHERE WHAT IT READS IS OF BULK AT MOST 1048576: true; the input reads as it did. -/
def latticeCoversUptoRow : OpenClaim := { program := "ytaclogfchlphlaadoor", sum := "603e1f71398d2eae3db64a04f767ec36038fc656b1043ad2797739394e577f5e", func := "interdict/interdictlaw05.LatticeCovers", spec := "latticeCovers", unfollowed := true, recurses := true, named := ["math/bits.deBruijn64tab"], apart := false, laid := [("math/bits.deBruijn64tab", laid_math_bits_deBruijn64tab)], narrowed := true }
def LatticeCoversUptoSaid : Prop := latticeCoversUptoRow.holds Tryd.pinned (OpenSpec.upto latticeCoversSpec)

/-- 'interdictlaw05.LatticeBack', WHERE WHAT IT READS IS OF BULK AT MOST 1048576: true; the input reads as it did. -/
def latticeBackUptoRow : OpenClaim := { program := "ytaclogfchlphlaadoor", sum := "603e1f71398d2eae3db64a04f767ec36038fc656b1043ad2797739394e577f5e", func := "interdict/interdictlaw05.LatticeBack", spec := "latticeBack", unfollowed := true, recurses := true, named := ["math/bits.deBruijn64tab"], apart := false, laid := [("math/bits.deBruijn64tab", laid_math_bits_deBruijn64tab)], narrowed := true }
def LatticeBackUptoSaid : Prop := latticeBackUptoRow.holds Tryd.pinned (OpenSpec.upto latticeBackSpec)

/-- 'interdictlaw05.LatticeJoins', WHERE WHAT IT READS IS OF BULK AT MOST 1048576: true; the input reads as it did. -/
def latticeJoinsUptoRow : OpenClaim := { program := "ytaclogfchlphlaadoor", sum := "603e1f71398d2eae3db64a04f767ec36038fc656b1043ad2797739394e577f5e", func := "interdict/interdictlaw05.LatticeJoins", spec := "latticeJoins", unfollowed := true, recurses := true, named := ["math/bits.deBruijn64tab"], apart := false, laid := [("math/bits.deBruijn64tab", laid_math_bits_deBruijn64tab)], narrowed := true }
def LatticeJoinsUptoSaid : Prop := latticeJoinsUptoRow.holds Tryd.pinned (OpenSpec.upto latticeJoinsSpec)

/-- 'interdictlaw05.LatticeLaws', WHERE WHAT IT READS IS OF BULK AT MOST 1048576: true; the input reads as it did. -/
def latticeLawsUptoRow : OpenClaim := { program := "ytaclogfchlphlaadoor", sum := "603e1f71398d2eae3db64a04f767ec36038fc656b1043ad2797739394e577f5e", func := "interdict/interdictlaw05.LatticeLaws", spec := "latticeLaws", unfollowed := true, recurses := true, named := ["math/bits.deBruijn64tab"], apart := false, laid := [("math/bits.deBruijn64tab", laid_math_bits_deBruijn64tab)], narrowed := true }
def LatticeLawsUptoSaid : Prop := latticeLawsUptoRow.holds Tryd.pinned (OpenSpec.upto latticeLawsSpec)

/-- 'interdictlaw05.LatticeBounds', WHERE WHAT IT READS IS OF BULK AT MOST 1048576: true; the input reads as it did. -/
def latticeBoundsUptoRow : OpenClaim := { program := "ytaclogfchlphlaadoor", sum := "603e1f71398d2eae3db64a04f767ec36038fc656b1043ad2797739394e577f5e", func := "interdict/interdictlaw05.LatticeBounds", spec := "latticeBounds", unfollowed := true, recurses := true, named := ["math/bits.deBruijn64tab"], apart := false, laid := [("math/bits.deBruijn64tab", laid_math_bits_deBruijn64tab)], narrowed := true }
def LatticeBoundsUptoSaid : Prop := latticeBoundsUptoRow.holds Tryd.pinned (OpenSpec.upto latticeBoundsSpec)

end Rows
end Go.Proofs.YtaclogfchlphlaaDoor
