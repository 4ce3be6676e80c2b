/- LatticeBuilds: the lattice of any pairs, or why there is none: the program and the document say the same, for every input; what math/bits.deBruijn64tab holds is tied to the program's text. -/
import Derived.Test.YtaclogfchlphlaaDoorDr
import Derived.Test.YtaclogfchlphlaaDoorOq
import Derived.Test.YtaclogfchlphlaaDoorLatticeBuildsW
import Derived.Test.YtaclogfchlphlaaDoorCards
import Derived.Test.YtaclogfchlphlaaDoorTie
import Derived.SevenTiedAt
namespace Go.Proofs.YtaclogfchlphlaaDoor
open Go.ChangeShapes Go.WideShapes Go.ChangeAt Go.RowKit Go.Idl

set_option maxRecDepth 100000 in
theorem latticeBuilds_lifted (os : Os) (started : os.Started) (H : Type) (enc : TypeId × Value → H) :
    ReturnsInHanded {} Tryd.checked os 3 .any (fun w args => (Rows.latticeBuildsSpec.pre enc Tryd.prog Tryd.f3 [] false w args ∧ laidMetH Tryd.prog laidT w) ∧ sizedMet enc Tryd.prog Tryd.f3 (OpenSpec.ofChange Rows.latticeBuildsSpec) false w args)
      (Rows.latticeBuildsSpec.post enc Tryd.prog Tryd.f3 false true false false) := by
  refine law_lifted_laid (C := Tryd.checked) (tb := 4) (fun w => laidMetH Tryd.prog laidT w) (fun _ _ hh h => h.of_heap hh) own started (by kernel_rfl) Tryd.func3
    (ChangeSpec.witness_shaped (enc := enc) (C := Tryd.checked) (os := os) (X := fun w _ => laidMetH Tryd.prog laidT w) false (World.doorLaid Tryd.prog 400 os) #[.int .i64 0, .slice none 0 0] 12 rfl (World.shaped_of_RefB (by kernel_rfl) (by kernel_rfl)) (by kernel_rfl) (by kernel_rfl) (by kernel_rfl) (door_met os _))
    (by kernel_rfl) (by kernel_rfl) (by kernel_rfl) Tryd.underlying4 rfl (fun ds h => by match ds, h with | [_, _], _ => rfl) ?_
  intro W base args ds ps hval hA hlt hsz hx
  have hT := tab_of_laid hx
  rw [Tryd.params3] at hA hval hsz
  obtain ⟨v0, v1, d0, d1, q0, q1, rfl, rfl, rfl, h0, h1⟩ := trodAll_two hA
  obtain ⟨n, rfl, _, _, wn⟩ := open_int Tryd.underlying3 (hval 0 3 v0 rfl rfl) h0
  have hn := bounds_i64 wn
  obtain ⟨A, m, c, ps', rfl, hl, hr, hm⟩ := open_pairs (hval 1 22 v1 rfl rfl) h1
  exact walkLatticeBuilds n A m c ps' W hT (by omega) hl hm hr

theorem latticeBuilds_row : Rows.LatticeBuildsSaid :=
  OpenClaim.holds_of_wide 3 Tryd.f3 rfl rfl rfl rfl rfl rfl rfl ⟨rfl, rfl, rfl, rfl, rfl⟩ rfl rfl rfl rfl rfl (by kernel_rfl) Tryd.func3 (by kernel_rfl)
    (of_decide_eq_true (by kernel_rfl)) (by unfold Func.isWrapper; first | (rw [if_pos (by decide +kernel)]; kernel_rfl) | (rw [if_neg (by decide +kernel)]; exact ⟨rfl, rfl⟩))
    (fun os started H enc _ => latticeBuilds_lifted os started H enc)

theorem latticeBuilds_holds : Rows.LatticeBuildsCardSaid :=
  Claim7.holds_tied_plain_at .later [] [.data] true Rows.latticeBuildsCard.stood.harness Rows.latticeBuildsCard.stood.looks
    latticeBuilds_row (fun _ h => by cases h) (by kernel_rfl) (fun _ h => by cases h) latticeBuilds_row_tie rfl ⟨rfl, rfl⟩ (by kernel_rfl) rfl
    (fun f fn hf hfn => by
      obtain rfl : f = 3 := Option.some.inj ((show Tryd.prog.funcNamed "interdict/interdictlaw05.LatticeBuilds" = some 3 by kernel_rfl).symm.trans hf) |>.symm
      obtain rfl : fn = Tryd.f3 := (Option.some.inj (Tryd.func3.symm.trans hfn)).symm
      exact ⟨by kernel_rfl, fun j t ht => by
        rw [Tryd.params3] at ht
        have hm := Array.mem_of_getElem? ht
        have hall : (Tryd.f3.params.all fun u => !Tryd.prog.wantsStandIn u) = true := by kernel_rfl
        rw [Tryd.params3] at hall
        have h1 := Array.all_eq_true_iff_forall_mem.1 hall t hm
        exact (show Tryd.prog.wantsStandIn t = false by simpa using h1)⟩)
    (by kernel_rfl)
#print axioms latticeBuilds_holds
end Go.Proofs.YtaclogfchlphlaaDoor
