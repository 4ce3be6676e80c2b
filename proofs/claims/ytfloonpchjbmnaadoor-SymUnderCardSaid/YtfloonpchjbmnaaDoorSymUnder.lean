/- SymUnder: caps tell just which calls are right, for every input; what math/bits.deBruijn64tab holds is tied to the program's text. -/
import Derived.Test.YtfloonpchjbmnaaDoorDr
import Derived.Test.YtfloonpchjbmnaaDoorOm
import Derived.Test.YtfloonpchjbmnaaDoorOl
import Derived.Test.YtfloonpchjbmnaaDoorOc
import Derived.Test.YtfloonpchjbmnaaDoorSymUnderW
import Derived.Test.YtfloonpchjbmnaaDoorCards
import Derived.Test.YtfloonpchjbmnaaDoorTie
import Derived.SevenTiedAt
namespace Go.Proofs.YtfloonpchjbmnaaDoor
open Go.ChangeShapes Go.WideShapes Go.ChangeAt Go.RowKit Go.Idl

set_option maxRecDepth 100000 in
theorem symUnder_lifted (os : Os) (started : os.Started) (H : Type) (enc : TypeId × Value → H) :
    ReturnsInHanded {} Tryd.checked os 9 .any (fun w args => (Rows.symUnderSpec.pre enc Tryd.prog Tryd.f9 [] false w args ∧ laidMetH Tryd.prog laidT w) ∧ sizedMet enc Tryd.prog Tryd.f9 (OpenSpec.ofChange Rows.symUnderSpec) false w args)
      (Rows.symUnderSpec.post enc Tryd.prog Tryd.f9 false true false false) := by
  refine law_lifted_laid (C := Tryd.checked) (tb := 4) (fun w => laidMetH Tryd.prog laidT w) (fun _ _ hh h => h.of_heap hh) own started (by kernel_rfl) Tryd.func9
    (ChangeSpec.witness_shaped (enc := enc) (C := Tryd.checked) (os := os) (X := fun w _ => laidMetH Tryd.prog laidT w) false (World.doorLaid Tryd.prog 400 os) #[.slice none 0 0, .agg #[.int .i64 0, .int .u64 0], .slice none 0 0] 12 rfl (World.shaped_of_RefB (by kernel_rfl) (by kernel_rfl)) (by kernel_rfl) (by kernel_rfl) (by kernel_rfl) (door_met os _))
    (by kernel_rfl) (by kernel_rfl) (by kernel_rfl) Tryd.underlying4 rfl (fun ds h => by match ds, h with | [_, _, _], _ => rfl) ?_
  intro W base args ds ps hval hA hlt hsz hx
  have hT := tab_of_laid hx
  rw [Tryd.params9] at hA hval hsz
  obtain ⟨v0, v1, v2, d0, d1, d2, p0, p1, p2, rfl, rfl, rfl, h0, h1, h2⟩ := trodAll_three hA
  obtain ⟨A, n, c, zs, rfl, hz, hr, hm, hwf, hd, _, _⟩ := open_ints_reads Tryd.underlying22 Tryd.underlying23 (by kernel_rfl) (hval 0 22 v0 rfl rfl) h0
  obtain ⟨a, rfl, ha⟩ := open_label (hval 1 25 v1 rfl rfl) h1
  obtain ⟨Z, m, d, ys, rfl, hy, hs, hm2, _, _, hmd, hdl⟩ := open_ints_reads Tryd.underlying37 Tryd.underlying3 (by kernel_rfl) (hval 2 37 v2 rfl rfl) h2
  obtain ⟨up, hl, he, hM⟩ := masks_of_ints zs hwf
  rw [he] at hr
  exact walkSymUnder A n c up a Z m d ys W hT (by omega) hm hM hr ha hy hm2 hmd hdl hs

theorem symUnder_row : Rows.SymUnderSaid :=
  OpenClaim.holds_of_wide 9 Tryd.f9 rfl rfl rfl rfl rfl rfl rfl ⟨rfl, rfl, rfl, rfl, rfl⟩ rfl rfl rfl rfl rfl (by kernel_rfl) Tryd.func9 (by kernel_rfl)
    (of_decide_eq_true (by kernel_rfl)) (by unfold Func.isWrapper; first | (rw [if_pos (by decide +kernel)]; kernel_rfl) | (rw [if_neg (by decide +kernel)]; exact ⟨rfl, rfl⟩))
    (fun os started H enc _ => symUnder_lifted os started H enc)

theorem symUnder_holds : Rows.SymUnderCardSaid :=
  Claim7.holds_tied_plain_at .later [] [.data] true Rows.symUnderCard.stood.harness Rows.symUnderCard.stood.looks
    symUnder_row (fun _ h => by cases h) (by kernel_rfl) (fun _ h => by cases h) symUnder_row_tie rfl ⟨rfl, rfl⟩ (by kernel_rfl) rfl
    (fun f fn hf hfn => by
      obtain rfl : f = 9 := Option.some.inj ((show Tryd.prog.funcNamed "interdict/interdictlaw19.SymUnder" = some 9 by kernel_rfl).symm.trans hf) |>.symm
      obtain rfl : fn = Tryd.f9 := (Option.some.inj (Tryd.func9.symm.trans hfn)).symm
      exact ⟨by kernel_rfl, fun j t ht => by
        rw [Tryd.params9] at ht
        have hm := Array.mem_of_getElem? ht
        have hall : (Tryd.f9.params.all fun u => !Tryd.prog.wantsStandIn u) = true := by kernel_rfl
        rw [Tryd.params9] at hall
        have h1 := Array.all_eq_true_iff_forall_mem.1 hall t hm
        exact (show Tryd.prog.wantsStandIn t = false by simpa using h1)⟩)
    (by kernel_rfl)
#print axioms symUnder_holds
end Go.Proofs.YtfloonpchjbmnaaDoor
