/- SolveBounds: Bounds answers as the reference does: the labels are the lattice's own and each bounds what is asked of its place, for every input -/
import Derived.Test.YtleckdbdhkgcpaaDoorDr
import Derived.Test.YtleckdbdhkgcpaaDoorOy
import Derived.Test.YtleckdbdhkgcpaaDoorSolveBoundsW
import Derived.Test.YtleckdbdhkgcpaaDoorCards
import Derived.Test.YtleckdbdhkgcpaaDoorTie
import Derived.SevenTiedAt
namespace Go.Proofs.YtleckdbdhkgcpaaDoor
open Go.ChangeShapes Go.WideShapes Go.ChangeAt Go.RowKit Go.Idl

set_option maxRecDepth 100000 in
theorem solveBounds_lifted (os : Os) (started : os.Started) (H : Type) (enc : TypeId × Value → H) :
    ReturnsInHanded {} Tryd.checked os 5 .any (fun w args => (Rows.solveBoundsSpec.pre enc Tryd.prog Tryd.f5 [] false w args ∧ laidMetH Tryd.prog laidT w) ∧ sizedMet enc Tryd.prog Tryd.f5 (OpenSpec.ofChange Rows.solveBoundsSpec) false w args)
      (Rows.solveBoundsSpec.post enc Tryd.prog Tryd.f5 false true false false) := by
  refine law_lifted_laid (C := Tryd.checked) (tb := 4) (fun w => laidMetH Tryd.prog laidT w) (fun _ _ hh h => h.of_heap hh) own started (by kernel_rfl) Tryd.func5
    (ChangeSpec.witness_shaped (enc := enc) (C := Tryd.checked) (os := os) (X := fun w _ => laidMetH Tryd.prog laidT w) false (World.doorLaid Tryd.prog 400 os) #[.slice none 0 0, .agg #[.slice none 0 0, .slice none 0 0], .slice none 0 0] 12 rfl (World.shaped_of_RefB (by kernel_rfl) (by kernel_rfl)) (by kernel_rfl) (by kernel_rfl) (by kernel_rfl) (door_met os _))
    (by kernel_rfl) (by kernel_rfl) (by kernel_rfl) Tryd.underlying4 rfl (fun ds h => by match ds, h with | [_, _, _], _ => rfl) ?_
  intro W base args ds ps hval hA hlt hsz hx
  have hT := tab_of_laid hx
  rw [Tryd.params5] at hA hval hsz
  obtain ⟨v0, v1, v2, d0, d1, d2, p0, p1, p2, rfl, rfl, rfl, h0, h1, h2⟩ := trodAll_three hA
  obtain ⟨A, n, c, zs, rfl, hz, hr, hm, hwf, hd, _, _⟩ := open_ints_reads Tryd.underlying22 Tryd.underlying27 (by kernel_rfl) (hval 0 22 v0 rfl rfl) h0
  obtain ⟨C, D, l, lc, m, mc, consts, needs, rfl, g1, g2, g3, g4, g5, g6⟩ := open_sys (hval 1 26 v1 rfl rfl) h1
  obtain ⟨E, k, kc, ls, rfl, e1, e2, e3, e4, _, _⟩ := open_labels (hval 2 23 v2 rfl rfl) h2
  obtain ⟨up, hl, he, hM⟩ := masks_of_ints zs hwf
  rw [he] at hr
  have hroom := labels_room (j := 2) hsz rfl rfl h2
  exact walkSolveBounds A n c up C D E l lc m mc k kc consts ls needs W hT (by omega) hm hM hr g1 g2 g3 g4 g5 g6 e1 hroom e2 e4

theorem solveBounds_row : Rows.SolveBoundsSaid :=
  OpenClaim.holds_of_wide 5 Tryd.f5 rfl rfl rfl rfl rfl rfl rfl ⟨rfl, rfl, rfl, rfl, rfl⟩ rfl rfl rfl rfl rfl (by kernel_rfl) Tryd.func5 (by kernel_rfl)
    (of_decide_eq_true (by kernel_rfl)) (by unfold Func.isWrapper; first | (rw [if_pos (by decide +kernel)]; kernel_rfl) | (rw [if_neg (by decide +kernel)]; exact ⟨rfl, rfl⟩))
    (fun os started H enc _ => solveBounds_lifted os started H enc)

theorem solveBounds_holds : Rows.SolveBoundsCardSaid :=
  Claim7.holds_tied_plain_at .later [] [.data] true Rows.solveBoundsCard.stood.harness Rows.solveBoundsCard.stood.looks
    solveBounds_row (fun _ h => by cases h) (by kernel_rfl) (fun _ h => by cases h) solveBounds_row_tie rfl ⟨rfl, rfl⟩ (by kernel_rfl) rfl
    (fun f fn hf hfn => by
      obtain rfl : f = 5 := Option.some.inj ((show Tryd.prog.funcNamed "interdict/interdictlaw17.SolveBounds" = some 5 by kernel_rfl).symm.trans hf) |>.symm
      obtain rfl : fn = Tryd.f5 := (Option.some.inj (Tryd.func5.symm.trans hfn)).symm
      exact ⟨by kernel_rfl, fun j t ht => by
        rw [Tryd.params5] at ht
        have hm := Array.mem_of_getElem? ht
        have hall : (Tryd.f5.params.all fun u => !Tryd.prog.wantsStandIn u) = true := by kernel_rfl
        rw [Tryd.params5] at hall
        have h1 := Array.all_eq_true_iff_forall_mem.1 hall t hm
        exact (show Tryd.prog.wantsStandIn t = false by simpa using h1)⟩)
    (by kernel_rfl)
#print axioms solveBounds_holds
end Go.Proofs.YtleckdbdhkgcpaaDoor
