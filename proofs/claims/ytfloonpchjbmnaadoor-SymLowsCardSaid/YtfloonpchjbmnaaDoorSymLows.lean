/- SymLows: the level that any label becomes where a function is called, over any masks: the program and the document say the same, for every input; what math/bits.deBruijn64tab holds is tied to the program's text. -/
import Derived.Test.YtfloonpchjbmnaaDoorDr
import Derived.Test.YtfloonpchjbmnaaDoorOm
import Derived.Test.YtfloonpchjbmnaaDoorOl
import Derived.Test.YtfloonpchjbmnaaDoorSymLowsW
import Derived.Test.YtfloonpchjbmnaaDoorCards
import Derived.Test.YtfloonpchjbmnaaDoorTie
import Derived.SevenTiedAt
namespace Go.Proofs.YtfloonpchjbmnaaDoor
open Go.ChangeShapes Go.WideShapes Go.ChangeAt Go.RowKit Go.Idl

set_option maxRecDepth 100000 in
theorem symLows_lifted (os : Os) (started : os.Started) (H : Type) (enc : TypeId × Value → H) :
    ReturnsInHanded {} Tryd.checked os 4 .any (fun w args => (Rows.symLowsSpec.pre enc Tryd.prog Tryd.f4 [] false w args ∧ laidMetH Tryd.prog laidT w) ∧ sizedMet enc Tryd.prog Tryd.f4 (OpenSpec.ofChange Rows.symLowsSpec) false w args)
      (Rows.symLowsSpec.post enc Tryd.prog Tryd.f4 false true false false) := by
  refine law_lifted_laid (C := Tryd.checked) (tb := 4) (fun w => laidMetH Tryd.prog laidT w) (fun _ _ hh h => h.of_heap hh) own started (by kernel_rfl) Tryd.func4
    (ChangeSpec.witness_shaped (enc := enc) (C := Tryd.checked) (os := os) (X := fun w _ => laidMetH Tryd.prog laidT w) false (World.doorLaid Tryd.prog 400 os) #[.slice none 0 0, .agg #[.int .i64 0, .int .u64 0], .slice none 0 0] 12 rfl (World.shaped_of_RefB (by kernel_rfl) (by kernel_rfl)) (by kernel_rfl) (by kernel_rfl) (by kernel_rfl) (door_met os _))
    (by kernel_rfl) (by kernel_rfl) (by kernel_rfl) Tryd.underlying4 rfl (fun ds h => by match ds, h with | [_, _, _], _ => rfl) ?_
  intro W base args ds ps hval hA hlt hsz hx
  have hT := tab_of_laid hx
  rw [Tryd.params4] at hA hval hsz
  obtain ⟨v0, v1, v2, d0, d1, d2, p0, p1, p2, rfl, rfl, rfl, h0, h1, h2⟩ := trodAll_three hA
  obtain ⟨A, n, c, zs, rfl, hz, hr, hm, hwf, hd, _, _⟩ := open_ints_reads Tryd.underlying22 Tryd.underlying23 (by kernel_rfl) (hval 0 22 v0 rfl rfl) h0
  obtain ⟨a, rfl, ha⟩ := open_label (hval 1 25 v1 rfl rfl) h1
  obtain ⟨Z, m, d, ys, rfl, hy, hs, hm2, _, _, hmd, hdl⟩ := open_ints_reads Tryd.underlying37 Tryd.underlying3 (by kernel_rfl) (hval 2 37 v2 rfl rfl) h2
  obtain ⟨up, hl, he, hM⟩ := masks_of_ints zs hwf
  rw [he] at hr
  exact walkSymLows A n c up a Z m d ys W hT (by omega) hm hM hr ha hy hm2 hmd hdl hs

theorem symLows_row : Rows.SymLowsSaid :=
  OpenClaim.holds_of_wide 4 Tryd.f4 rfl rfl rfl rfl rfl rfl rfl ⟨rfl, rfl, rfl, rfl, rfl⟩ rfl rfl rfl rfl rfl (by kernel_rfl) Tryd.func4 (by kernel_rfl)
    (of_decide_eq_true (by kernel_rfl)) (by unfold Func.isWrapper; first | (rw [if_pos (by decide +kernel)]; kernel_rfl) | (rw [if_neg (by decide +kernel)]; exact ⟨rfl, rfl⟩))
    (fun os started H enc _ => symLows_lifted os started H enc)

theorem symLows_holds : Rows.SymLowsCardSaid :=
  Claim7.holds_tied_plain_at .later [] [.data] true Rows.symLowsCard.stood.harness Rows.symLowsCard.stood.looks
    symLows_row (fun _ h => by cases h) (by kernel_rfl) (fun _ h => by cases h) symLows_row_tie rfl ⟨rfl, rfl⟩ (by kernel_rfl) rfl
    (fun f fn hf hfn => by
      obtain rfl : f = 4 := Option.some.inj ((show Tryd.prog.funcNamed "interdict/interdictlaw19.SymLows" = some 4 by kernel_rfl).symm.trans hf) |>.symm
      obtain rfl : fn = Tryd.f4 := (Option.some.inj (Tryd.func4.symm.trans hfn)).symm
      exact ⟨by kernel_rfl, fun j t ht => by
        rw [Tryd.params4] at ht
        have hm := Array.mem_of_getElem? ht
        have hall : (Tryd.f4.params.all fun u => !Tryd.prog.wantsStandIn u) = true := by kernel_rfl
        rw [Tryd.params4] at hall
        have h1 := Array.all_eq_true_iff_forall_mem.1 hall t hm
        exact (show Tryd.prog.wantsStandIn t = false by simpa using h1)⟩)
    (by kernel_rfl)
#print axioms symLows_holds
end Go.Proofs.YtfloonpchjbmnaaDoor
