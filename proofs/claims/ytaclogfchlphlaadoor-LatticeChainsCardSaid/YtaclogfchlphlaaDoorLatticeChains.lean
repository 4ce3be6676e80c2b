/- LatticeChains: a chain of n levels has the height n less one, and levels beside one another make a lattice of the height 2, for every input; what math/bits.deBruijn64tab holds is tied to the program's text. -/
import Derived.Test.YtaclogfchlphlaaDoorDr
import Derived.Test.YtaclogfchlphlaaDoorLatticeChainsW
import Derived.Test.YtaclogfchlphlaaDoorCards
import Derived.Test.YtaclogfchlphlaaDoorTie
import Derived.SevenTiedAt
namespace Go.Proofs.YtaclogfchlphlaaDoor
open Go.ChangeShapes Go.WideShapes Go.ChangeAt Go.RowKit Go.Idl

set_option maxRecDepth 100000 in
theorem latticeChains_lifted (os : Os) (started : os.Started) (H : Type) (enc : TypeId × Value → H) :
    ReturnsInHanded {} Tryd.checked os 5 .any (fun w args => (Rows.latticeChainsSpec.pre enc Tryd.prog Tryd.f5 [] false w args ∧ laidMetH Tryd.prog laidT w) ∧ sizedMet enc Tryd.prog Tryd.f5 (OpenSpec.ofChange Rows.latticeChainsSpec) false w args)
      (Rows.latticeChainsSpec.post enc Tryd.prog Tryd.f5 false true false false) := by
  refine law_lifted_laid (C := Tryd.checked) (tb := 4) (fun w => laidMetH Tryd.prog laidT w) (fun _ _ hh h => h.of_heap hh) own started (by kernel_rfl) Tryd.func5
    (ChangeSpec.witness_shaped (enc := enc) (C := Tryd.checked) (os := os) (X := fun w _ => laidMetH Tryd.prog laidT w) false (World.doorLaid Tryd.prog 400 os) #[.int .u8 0] 12 rfl (World.shaped_of_RefB (by kernel_rfl) (by kernel_rfl)) (by kernel_rfl) (by kernel_rfl) (by kernel_rfl) (door_met os _))
    (by kernel_rfl) (by kernel_rfl) (by kernel_rfl) Tryd.underlying4 rfl (fun ds h => by match ds, h with | [_], _ => rfl) ?_
  intro W base args ds ps hval hA hlt hsz hx
  have hT := tab_of_laid hx
  rw [Tryd.params5] at hA hval hsz
  obtain ⟨v0, d0, rfl, rfl, h0⟩ := trodAll_one hA
  obtain ⟨q, rfl, _, _, wn⟩ := open_int Tryd.underlying5 (hval 0 5 v0 rfl rfl) h0
  have hq := bounds_u8 wn
  obtain ⟨q, rfl⟩ : ∃ i : Nat, q = i := ⟨q.toNat, by omega⟩
  exact walkLatticeChains q (by omega) W hT

theorem latticeChains_row : Rows.LatticeChainsSaid :=
  OpenClaim.holds_of_wide 5 Tryd.f5 rfl rfl rfl rfl rfl rfl rfl ⟨rfl, rfl, rfl, rfl, rfl⟩ rfl rfl rfl rfl rfl (by kernel_rfl) Tryd.func5 (by kernel_rfl)
    (of_decide_eq_true (by kernel_rfl)) (by unfold Func.isWrapper; first | (rw [if_pos (by decide +kernel)]; kernel_rfl) | (rw [if_neg (by decide +kernel)]; exact ⟨rfl, rfl⟩))
    (fun os started H enc _ => latticeChains_lifted os started H enc)

theorem latticeChains_holds : Rows.LatticeChainsCardSaid :=
  Claim7.holds_tied_plain_at .later [] [.data] true Rows.latticeChainsCard.stood.harness Rows.latticeChainsCard.stood.looks
    latticeChains_row (fun _ h => by cases h) (by kernel_rfl) (fun _ h => by cases h) latticeChains_row_tie rfl ⟨rfl, rfl⟩ (by kernel_rfl) rfl
    (fun f fn hf hfn => by
      obtain rfl : f = 5 := Option.some.inj ((show Tryd.prog.funcNamed "interdict/interdictlaw05.LatticeChains" = some 5 by kernel_rfl).symm.trans hf) |>.symm
      obtain rfl : fn = Tryd.f5 := (Option.some.inj (Tryd.func5.symm.trans hfn)).symm
      exact ⟨by kernel_rfl, fun j t ht => by
        rw [Tryd.params5] at ht
        have hm := Array.mem_of_getElem? ht
        have hall : (Tryd.f5.params.all fun u => !Tryd.prog.wantsStandIn u) = true := by kernel_rfl
        rw [Tryd.params5] at hall
        have h1 := Array.all_eq_true_iff_forall_mem.1 hall t hm
        exact (show Tryd.prog.wantsStandIn t = false by simpa using h1)⟩)
    (by kernel_rfl)
#print axioms latticeChains_holds
end Go.Proofs.YtaclogfchlphlaaDoor
