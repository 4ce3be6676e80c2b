/- SolveTurned: the order of needs, and how often one stands, makes no difference, for every input; what math/bits.deBruijn64tab holds is tied to the program's text. -/
import Derived.Test.YtleckdbdhkgcpaaDoorDr
import Derived.Test.YtleckdbdhkgcpaaDoorOy
import Derived.Test.YtleckdbdhkgcpaaDoorSolveTurnedW
import Derived.Test.YtleckdbdhkgcpaaDoorCards
import Derived.Test.YtleckdbdhkgcpaaDoorTie
import Derived.SevenTiedAt
namespace Go.Proofs.YtleckdbdhkgcpaaDoor
open Go.ChangeShapes Go.WideShapes Go.ChangeAt Go.RowKit Go.Idl

set_option maxRecDepth 100000 in
theorem solveTurned_lifted (os : Os) (started : os.Started) (H : Type) (enc : TypeId × Value → H) :
    ReturnsInHanded {} Tryd.checked os 4 .any (fun w args => (Rows.solveTurnedSpec.pre enc Tryd.prog Tryd.f4 [] false w args ∧ laidMetH Tryd.prog laidT w) ∧ sizedMet enc Tryd.prog Tryd.f4 (OpenSpec.ofChange Rows.solveTurnedSpec) false w args)
      (Rows.solveTurnedSpec.post enc Tryd.prog Tryd.f4 false true false false) := by
  refine law_lifted_laid (C := Tryd.checked) (tb := 4) (fun w => laidMetH Tryd.prog laidT w) (fun _ _ hh h => h.of_heap hh) own started (by kernel_rfl) Tryd.func4
    (ChangeSpec.witness_shaped (enc := enc) (C := Tryd.checked) (os := os) (X := fun w _ => laidMetH Tryd.prog laidT w) false (World.doorLaid Tryd.prog 400 os) #[.slice none 0 0, .agg #[.slice none 0 0, .slice none 0 0]] 12 rfl (World.shaped_of_RefB (by kernel_rfl) (by kernel_rfl)) (by kernel_rfl) (by kernel_rfl) (by kernel_rfl) (door_met os _))
    (by kernel_rfl) (by kernel_rfl) (by kernel_rfl) Tryd.underlying4 rfl (fun ds h => by match ds, h with | [_, _], _ => rfl) ?_
  intro W base args ds ps hval hA hlt hsz hx
  have hT := tab_of_laid hx
  rw [Tryd.params4] at hA hval hsz
  obtain ⟨v0, v1, d0, d1, p0, p1, rfl, rfl, rfl, h0, h1⟩ := trodAll_two hA
  obtain ⟨A, n, c, zs, rfl, hz, hr, hm, hwf, hd, _, _⟩ := open_ints_reads Tryd.underlying22 Tryd.underlying27 (by kernel_rfl) (hval 0 22 v0 rfl rfl) h0
  obtain ⟨C, D, l, lc, m, mc, consts, needs, rfl, g1, g2, g3, g4, g5, g6⟩ := open_sys (hval 1 26 v1 rfl rfl) h1
  obtain ⟨up, hl, he, hM⟩ := masks_of_ints zs hwf
  rw [he] at hr
  exact walkSolveTurned A n c up C D l lc m mc consts needs W hT (by omega) hm hM hr g1 g2 g3 g4 g5 g6

theorem solveTurned_row : Rows.SolveTurnedSaid :=
  OpenClaim.holds_of_wide 4 Tryd.f4 rfl rfl rfl rfl rfl rfl rfl ⟨rfl, rfl, rfl, rfl, rfl⟩ rfl rfl rfl rfl rfl (by kernel_rfl) Tryd.func4 (by kernel_rfl)
    (of_decide_eq_true (by kernel_rfl)) (by unfold Func.isWrapper; first | (rw [if_pos (by decide +kernel)]; kernel_rfl) | (rw [if_neg (by decide +kernel)]; exact ⟨rfl, rfl⟩))
    (fun os started H enc _ => solveTurned_lifted os started H enc)

theorem solveTurned_holds : Rows.SolveTurnedCardSaid :=
  Claim7.holds_tied_plain_at .later [] [.data] true Rows.solveTurnedCard.stood.harness Rows.solveTurnedCard.stood.looks
    solveTurned_row (fun _ h => by cases h) (by kernel_rfl) (fun _ h => by cases h) solveTurned_row_tie rfl ⟨rfl, rfl⟩ (by kernel_rfl) rfl
    (fun f fn hf hfn => by
      obtain rfl : f = 4 := Option.some.inj ((show Tryd.prog.funcNamed "interdict/interdictlaw17.SolveTurned" = some 4 by kernel_rfl).symm.trans hf) |>.symm
      obtain rfl : fn = Tryd.f4 := (Option.some.inj (Tryd.func4.symm.trans hfn)).symm
      exact ⟨by kernel_rfl, fun j t ht => by
        rw [Tryd.params4] at ht
        have hm := Array.mem_of_getElem? ht
        have hall : (Tryd.f4.params.all fun u => !Tryd.prog.wantsStandIn u) = true := by kernel_rfl
        rw [Tryd.params4] at hall
        have h1 := Array.all_eq_true_iff_forall_mem.1 hall t hm
        exact (show Tryd.prog.wantsStandIn t = false by simpa using h1)⟩)
    (by kernel_rfl)
#print axioms solveTurned_holds
end Go.Proofs.YtleckdbdhkgcpaaDoor
