/- SolveGrows: With any constant higher, or any need more, no value is lower, for every input -/
import Derived.Test.YtleckdbdhkgcpaaDoorDr
import Derived.Test.YtleckdbdhkgcpaaDoorOw
import Derived.Test.YtleckdbdhkgcpaaDoorSolveGrowsW
import Derived.Test.YtleckdbdhkgcpaaDoorCards
import Derived.Test.YtleckdbdhkgcpaaDoorTie
import Derived.SevenTiedAt
namespace Go.Proofs.YtleckdbdhkgcpaaDoor
open Go.ChangeShapes Go.WideShapes Go.ChangeAt Go.RowKit Go.Idl

set_option maxRecDepth 100000 in
theorem solveGrows_lifted (os : Os) (started : os.Started) (H : Type) (enc : TypeId × Value → H) :
    ReturnsInHanded {} Tryd.checked os 3 .any (fun w args => (Rows.solveGrowsSpec.pre enc Tryd.prog Tryd.f3 [] false w args ∧ laidMetH Tryd.prog laidT w) ∧ sizedMet enc Tryd.prog Tryd.f3 (OpenSpec.ofChange Rows.solveGrowsSpec) false w args)
      (Rows.solveGrowsSpec.post enc Tryd.prog Tryd.f3 false true false false) := by
  refine law_lifted_laid (C := Tryd.checked) (tb := 4) (fun w => laidMetH Tryd.prog laidT w) (fun _ _ hh h => h.of_heap hh) own started (by kernel_rfl) Tryd.func3
    (ChangeSpec.witness_shaped (enc := enc) (C := Tryd.checked) (os := os) (X := fun w _ => laidMetH Tryd.prog laidT w) false (World.doorLaid Tryd.prog 400 os) #[.agg #[.slice none 0 0, .slice none 0 0, .slice none 0 0, .int .i64 0, .int .i64 0, .int .i64 0, .int .u64 0]] 12 rfl (World.shaped_of_RefB (by kernel_rfl) (by kernel_rfl)) (by kernel_rfl) (by kernel_rfl) (by kernel_rfl) (door_met os _))
    (by kernel_rfl) (by kernel_rfl) (by kernel_rfl) Tryd.underlying4 rfl (fun ds h => by match ds, h with | [_], _ => rfl) ?_
  intro W base args ds ps hval hA hlt hsz hx
  have hT := tab_of_laid hx
  rw [Tryd.params3] at hA hval hsz
  obtain ⟨v0, d0, rfl, rfl, h0⟩ := trodAll_one hA
  obtain ⟨A, C, D, n, c, l, lc, m, mc, zs, consts, needs, at_, need_, x, rfl, hz, hr, hm, hwf, g1, g2, g3, g4, g5, g6, hx2⟩ := open_more (hval 0 31 v0 rfl rfl) h0
  obtain ⟨up, hl, he, hM⟩ := masks_of_ints zs hwf
  rw [he] at hr
  exact walkSolveGrows A n c up C D l lc m mc consts needs at_ need_ x W hT (by omega) hm hM hr g1 g2 g3 g4 g5 g6 hx2

theorem solveGrows_row : Rows.SolveGrowsSaid :=
  OpenClaim.holds_of_wide 3 Tryd.f3 rfl rfl rfl rfl rfl rfl rfl ⟨rfl, rfl, rfl, rfl, rfl⟩ rfl rfl rfl rfl rfl (by kernel_rfl) Tryd.func3 (by kernel_rfl)
    (of_decide_eq_true (by kernel_rfl)) (by unfold Func.isWrapper; first | (rw [if_pos (by decide +kernel)]; kernel_rfl) | (rw [if_neg (by decide +kernel)]; exact ⟨rfl, rfl⟩))
    (fun os started H enc _ => solveGrows_lifted os started H enc)

theorem solveGrows_holds : Rows.SolveGrowsCardSaid :=
  Claim7.holds_tied_plain_at .later [] [.data] true Rows.solveGrowsCard.stood.harness Rows.solveGrowsCard.stood.looks
    solveGrows_row (fun _ h => by cases h) (by kernel_rfl) (fun _ h => by cases h) solveGrows_row_tie rfl ⟨rfl, rfl⟩ (by kernel_rfl) rfl
    (fun f fn hf hfn => by
      obtain rfl : f = 3 := Option.some.inj ((show Tryd.prog.funcNamed "interdict/interdictlaw17.SolveGrows" = some 3 by kernel_rfl).symm.trans hf) |>.symm
      obtain rfl : fn = Tryd.f3 := (Option.some.inj (Tryd.func3.symm.trans hfn)).symm
      exact ⟨by kernel_rfl, fun j t ht => by
        rw [Tryd.params3] at ht
        have hm := Array.mem_of_getElem? ht
        have hall : (Tryd.f3.params.all fun u => !Tryd.prog.wantsStandIn u) = true := by kernel_rfl
        rw [Tryd.params3] at hall
        have h1 := Array.all_eq_true_iff_forall_mem.1 hall t hm
        exact (show Tryd.prog.wantsStandIn t = false by simpa using h1)⟩)
    (by kernel_rfl)
#print axioms solveGrows_holds
end Go.Proofs.YtleckdbdhkgcpaaDoor
