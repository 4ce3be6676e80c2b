/- LatticeBounds: a bound holds of a join just if it holds of its parts, of any masks and any three levels: for every input; what math/bits.deBruijn64tab holds is tied to the program's text. -/
import Derived.Test.YtaclogfchlphlaaDoorDr
import Derived.Test.YtaclogfchlphlaaDoorOm
import Derived.Test.YtaclogfchlphlaaDoorOs
import Derived.Test.YtaclogfchlphlaaDoorLatticeBoundsW
import Derived.Test.YtaclogfchlphlaaDoorCards
import Derived.Test.YtaclogfchlphlaaDoorTie
import Derived.SevenTiedAt
namespace Go.Proofs.YtaclogfchlphlaaDoor
open Go.ChangeShapes Go.WideShapes Go.ChangeAt Go.RowKit Go.Idl

set_option maxRecDepth 100000 in
theorem latticeBounds_lifted (os : Os) (started : os.Started) (H : Type) (enc : TypeId × Value → H) :
    ReturnsInHanded {} Tryd.checked os 11 .any (fun w args => (Rows.latticeBoundsSpec.pre enc Tryd.prog Tryd.f11 [] false w args ∧ laidMetH Tryd.prog laidT w) ∧ sizedMet enc Tryd.prog Tryd.f11 (OpenSpec.ofChange Rows.latticeBoundsSpec) false w args)
      (Rows.latticeBoundsSpec.post enc Tryd.prog Tryd.f11 false true false false) := by
  refine law_lifted_laid (C := Tryd.checked) (tb := 4) (fun w => laidMetH Tryd.prog laidT w) (fun _ _ hh h => h.of_heap hh) own started (by kernel_rfl) Tryd.func11
    (ChangeSpec.witness_shaped (enc := enc) (C := Tryd.checked) (os := os) (X := fun w _ => laidMetH Tryd.prog laidT w) false (World.doorLaid Tryd.prog 400 os) #[.agg #[.slice none 0 0, .int .i64 0, .int .i64 0, .int .i64 0]] 12 rfl (World.shaped_of_RefB (by kernel_rfl) (by kernel_rfl)) (by kernel_rfl) (by kernel_rfl) (by kernel_rfl) (door_met os _))
    (by kernel_rfl) (by kernel_rfl) (by kernel_rfl) Tryd.underlying4 rfl (fun ds h => by match ds, h with | [_], _ => rfl) ?_
  intro W base args ds ps hval hA hlt hsz hx
  have hT := tab_of_laid hx
  rw [Tryd.params11] at hA hval hsz
  obtain ⟨v0, d0, rfl, rfl, h0⟩ := trodAll_one hA
  obtain ⟨u0, u1, u2, u3, y0, y1, y2, y3, fu, rfl, hd, _, t0, t1, t2, t3⟩ := Joins.open_agg4 Tryd.underlying45 (by kernel_rfl) (by kernel_rfl) (hval 0 45 v0 rfl rfl) h0
  obtain ⟨A, n, c, zs, rfl, hz, hr, hm, hwf, _, _⟩ := open_ints_trod Tryd.underlying23 Tryd.underlying39 (by kernel_rfl) t0
  obtain ⟨a, rfl, _⟩ := open_int_trod Tryd.underlying3 t1
  obtain ⟨b, rfl, _⟩ := open_int_trod Tryd.underlying3 t2
  obtain ⟨e, rfl, _⟩ := open_int_trod Tryd.underlying3 t3
  obtain ⟨up, hl, he, hM⟩ := masks_of_ints zs hwf
  rw [he] at hr
  exact walkLatticeBounds A n c up a b e W hT (by omega) hm hM hr

theorem latticeBounds_row : Rows.LatticeBoundsSaid :=
  OpenClaim.holds_of_wide 11 Tryd.f11 rfl rfl rfl rfl rfl rfl rfl ⟨rfl, rfl, rfl, rfl, rfl⟩ rfl rfl rfl rfl rfl (by kernel_rfl) Tryd.func11 (by kernel_rfl)
    (of_decide_eq_true (by kernel_rfl)) (by unfold Func.isWrapper; first | (rw [if_pos (by decide +kernel)]; kernel_rfl) | (rw [if_neg (by decide +kernel)]; exact ⟨rfl, rfl⟩))
    (fun os started H enc _ => latticeBounds_lifted os started H enc)

theorem latticeBounds_holds : Rows.LatticeBoundsCardSaid :=
  Claim7.holds_tied_plain_at .later [] [.data] true Rows.latticeBoundsCard.stood.harness Rows.latticeBoundsCard.stood.looks
    latticeBounds_row (fun _ h => by cases h) (by kernel_rfl) (fun _ h => by cases h) latticeBounds_row_tie rfl ⟨rfl, rfl⟩ (by kernel_rfl) rfl
    (fun f fn hf hfn => by
      obtain rfl : f = 11 := Option.some.inj ((show Tryd.prog.funcNamed "interdict/interdictlaw05.LatticeBounds" = some 11 by kernel_rfl).symm.trans hf) |>.symm
      obtain rfl : fn = Tryd.f11 := (Option.some.inj (Tryd.func11.symm.trans hfn)).symm
      exact ⟨by kernel_rfl, fun j t ht => by
        rw [Tryd.params11] at ht
        have hm := Array.mem_of_getElem? ht
        have hall : (Tryd.f11.params.all fun u => !Tryd.prog.wantsStandIn u) = true := by kernel_rfl
        rw [Tryd.params11] at hall
        have h1 := Array.all_eq_true_iff_forall_mem.1 hall t hm
        exact (show Tryd.prog.wantsStandIn t = false by simpa using h1)⟩)
    (by kernel_rfl)
#print axioms latticeBounds_holds
end Go.Proofs.YtaclogfchlphlaaDoor
