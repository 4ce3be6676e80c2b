/- LatticeBack: the covers of a lattice make it again, and none of them is too many, for every input; what math/bits.deBruijn64tab holds is tied to the program's text. -/
import Derived.Test.YtaclogfchlphlaaDoorOm
import Derived.Test.YtaclogfchlphlaaDoorLatticeBackW
import Derived.Test.YtaclogfchlphlaaDoorCards
import Derived.Test.YtaclogfchlphlaaDoorTie
import Derived.SevenTiedAt
namespace Go.Proofs.YtaclogfchlphlaaDoor
open Go.ChangeShapes Go.WideShapes Go.ChangeAt Go.RowKit Go.Idl

set_option maxRecDepth 100000 in
theorem latticeBack_lifted (os : Os) (started : os.Started) (H : Type) (enc : TypeId × Value → H) :
    ReturnsInHanded {} Tryd.checked os 8 .any (fun w args => (Rows.latticeBackSpec.pre enc Tryd.prog Tryd.f8 [] false w args ∧ laidMetH Tryd.prog laidT w) ∧ sizedMet enc Tryd.prog Tryd.f8 (OpenSpec.ofChange Rows.latticeBackSpec) false w args)
      (Rows.latticeBackSpec.post enc Tryd.prog Tryd.f8 false true false false) := by
  refine law_lifted_laid (C := Tryd.checked) (tb := 4) (fun w => laidMetH Tryd.prog laidT w) (fun _ _ hh h => h.of_heap hh) own started (by kernel_rfl) Tryd.func8
    (ChangeSpec.witness_shaped (enc := enc) (C := Tryd.checked) (os := os) (X := fun w _ => laidMetH Tryd.prog laidT w) false (World.doorLaid Tryd.prog 400 os) #[.slice none 0 0, .int .i64 0] 12 rfl (World.shaped_of_RefB (by kernel_rfl) (by kernel_rfl)) (by kernel_rfl) (by kernel_rfl) (by kernel_rfl) (door_met os _))
    (by kernel_rfl) (by kernel_rfl) (by kernel_rfl) Tryd.underlying4 rfl (fun ds h => by match ds, h with | [_, _], _ => rfl) ?_
  intro W base args ds ps hval hA hlt hsz hx
  have hT := tab_of_laid hx
  rw [Tryd.params8] at hA hval hsz
  obtain ⟨v0, v1, d0, d1, p0, p1, rfl, rfl, rfl, h0, h1⟩ := trodAll_two hA
  obtain ⟨A, n, c, zs, rfl, hz, hr, hm, hwf, hd, _, _⟩ := open_ints_reads Tryd.underlying23 Tryd.underlying39 (by kernel_rfl) (hval 0 23 v0 rfl rfl) h0
  obtain ⟨a, rfl, rfl, rfl, wa⟩ := open_int Tryd.underlying3 (hval 1 3 v1 rfl rfl) h1
  obtain ⟨up, hl, he, hM⟩ := masks_of_ints zs hwf
  rw [he] at hr
  exact walkLatticeBack A n c up a W hT (by omega) hm hM hr

theorem latticeBack_row : Rows.LatticeBackSaid :=
  OpenClaim.holds_of_wide 8 Tryd.f8 rfl rfl rfl rfl rfl rfl rfl ⟨rfl, rfl, rfl, rfl, rfl⟩ rfl rfl rfl rfl rfl (by kernel_rfl) Tryd.func8 (by kernel_rfl)
    (of_decide_eq_true (by kernel_rfl)) (by unfold Func.isWrapper; first | (rw [if_pos (by decide +kernel)]; kernel_rfl) | (rw [if_neg (by decide +kernel)]; exact ⟨rfl, rfl⟩))
    (fun os started H enc _ => latticeBack_lifted os started H enc)

theorem latticeBack_holds : Rows.LatticeBackCardSaid :=
  Claim7.holds_tied_plain_at .later [] [.data] true Rows.latticeBackCard.stood.harness Rows.latticeBackCard.stood.looks
    latticeBack_row (fun _ h => by cases h) (by kernel_rfl) (fun _ h => by cases h) latticeBack_row_tie rfl ⟨rfl, rfl⟩ (by kernel_rfl) rfl
    (fun f fn hf hfn => by
      obtain rfl : f = 8 := Option.some.inj ((show Tryd.prog.funcNamed "interdict/interdictlaw05.LatticeBack" = some 8 by kernel_rfl).symm.trans hf) |>.symm
      obtain rfl : fn = Tryd.f8 := (Option.some.inj (Tryd.func8.symm.trans hfn)).symm
      exact ⟨by kernel_rfl, fun j t ht => by
        rw [Tryd.params8] at ht
        have hm := Array.mem_of_getElem? ht
        have hall : (Tryd.f8.params.all fun u => !Tryd.prog.wantsStandIn u) = true := by kernel_rfl
        rw [Tryd.params8] at hall
        have h1 := Array.all_eq_true_iff_forall_mem.1 hall t hm
        exact (show Tryd.prog.wantsStandIn t = false by simpa using h1)⟩)
    (by kernel_rfl)
#print axioms latticeBack_holds
end Go.Proofs.YtaclogfchlphlaaDoor
