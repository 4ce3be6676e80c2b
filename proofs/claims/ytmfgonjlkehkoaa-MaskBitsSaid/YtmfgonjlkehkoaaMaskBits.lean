/- MaskBits: for every set and every number, whether the number is in it, the set with it and the set without it are what the document says; for every input, with no condition. -/
import Derived.Test.YtmfgonjlkehkoaaRows
import Derived.Test.YtmfgonjlkehkoaaMa
import Derived.Test.YtmfgonjlkehkoaaMr
import Derived.Test.YtmfgonjlkehkoaaFr
namespace Go.Proofs.Ytmfgonjlkehkoaa
open Go.ChangeShapes Go.WideShapes Go.ChangeAt Go.RowKit Go.Idl

theorem own : ownKnob Try.prog.godebug = none := by kernel_rfl

theorem walkMaskBits (m : Nat) (i : Int) (hm : m < 2 ^ 64) (w : World) : Calls Try.prog 4 #[.int .u64 m, .int .i64 i] w fun e w' => e = .returned (.bool true) ∧ w = w' := by
  have C3 := has_any 1 0 w (by decide)
  rw [show hasB 1 0 = true by decide] at C3
  have C3 := Lib.hid C3
  have hb0 : (hasB m i == hasB m i) = true := by simp
  have hb1 : (((withN m i : Nat) : Int) == ((withN m i : Nat) : Int)) = true := by simp
  have hb2 : (((withoutN m i : Nat) : Int) == ((withoutN m i : Nat) : Int)) = true := by simp
  have hm := Lib.hid hm
  go_enter Try.func4, Try.ntmps4
  go_wp2_with fail
  refine (has_any _ _ _ hm.out).mono ?_
  rintro e w' ⟨rfl, rfl⟩
  go_wp2_with fail
  refine (rhas_any _ _ _ hm.out).mono ?_
  rintro e w' ⟨rfl, rfl⟩
  go_wp2_with fail
  refine (with_any _ _ _ hm.out).mono ?_
  rintro e w' ⟨rfl, rfl⟩
  go_wp2_with fail
  refine (rwith_any _ _ _ hm.out).mono ?_
  rintro e w' ⟨rfl, rfl⟩
  go_wp2_with fail
  refine (without_any _ _ _ hm.out).mono ?_
  rintro e w' ⟨rfl, rfl⟩
  go_wp2_with fail
  refine (rwithout_any _ _ _ hm.out).mono ?_
  rintro e w' ⟨rfl, rfl⟩
  go_wp2_with fail
  refine C3.out.mono ?_
  rintro e w' ⟨rfl, rfl⟩
  go_wp2_with fail
  go_ret
  exact ⟨rfl, rfl⟩

set_option maxRecDepth 100000 in
theorem maskBits_lifted (os : Os) (started : os.Started) (H : Type) (enc : TypeId × Value → H) :
    ReturnsInHanded {} Try.checked os 4 .any (Rows.maskBitsSpec.pre6 enc Try.prog Try.f4 Rows.maskBitsRow.domain false) (Rows.maskBitsSpec.post enc Try.prog Try.f4 false true false false) := by
  refine law_lifted (C := Try.checked) (tb := 4) own started (by kernel_rfl) Try.func4
    (ChangeSpec.witness6 (enc := enc) (C := Try.checked) false ⟨#[], #[.int .u64 0, .int .i64 0], []⟩ 8 (by kernel_rfl) (by kernel_rfl) (by kernel_rfl) (by kernel_rfl)) (by kernel_rfl) (by kernel_rfl) (by kernel_rfl) Try.underlying4 rfl
    (fun ds h => by match ds, h with | [_, _], _ => rfl) ?_
  intro W base args ds ps hval hA hlt
  rw [Try.params4] at hA hval
  obtain ⟨v0, v1, d0, d1, p0, p1, rfl, rfl, rfl, h0, h1⟩ := trodAll_two hA
  obtain ⟨m, rfl, rfl, rfl, wm⟩ := open_int Try.underlying22 (hval 0 22 v0 rfl rfl) h0
  obtain ⟨n, rfl, rfl, rfl, wn⟩ := open_int Try.underlying3 (hval 1 3 v1 rfl rfl) h1
  have hm := bounds_u64 wm
  obtain ⟨k, rfl⟩ : ∃ k : Nat, m = k := ⟨m.toNat, by omega⟩
  refine (walkMaskBits k n (by omega) W).mono fun e W' ⟨he, hw⟩ => ⟨he, ?_⟩
  subst hw
  exact Below.refl _ _

theorem maskBits_holds : Rows.MaskBitsSaid :=
  OpenClaim.holds_of_wide 4 Try.f4 rfl rfl rfl rfl rfl rfl rfl ⟨rfl, rfl, rfl, rfl, rfl⟩ rfl rfl rfl rfl rfl (by kernel_rfl) Try.func4 (by kernel_rfl)
    (of_decide_eq_true (by kernel_rfl)) (by unfold Func.isWrapper; first | (rw [if_pos (by decide +kernel)]; kernel_rfl) | (rw [if_neg (by decide +kernel)]; exact ⟨rfl, rfl⟩))
    (fun os started H enc _ => maskBits_lifted os started H enc)
#print axioms maskBits_holds
end Go.Proofs.Ytmfgonjlkehkoaa
