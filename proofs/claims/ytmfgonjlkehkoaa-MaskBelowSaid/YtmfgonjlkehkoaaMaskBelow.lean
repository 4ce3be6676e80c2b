/- MaskBelow: for every number n the set of all below n is what the document says it is; for every input, with no condition. -/
import Derived.Test.YtmfgonjlkehkoaaRows
import Derived.Test.YtmfgonjlkehkoaaMa
import Derived.Test.YtmfgonjlkehkoaaMr
import Derived.Test.YtmfgonjlkehkoaaFr
namespace Go.Proofs.Ytmfgonjlkehkoaa
open Go.ChangeShapes Go.WideShapes Go.ChangeAt Go.RowKit Go.Idl

theorem own : ownKnob Try.prog.godebug = none := by kernel_rfl

theorem walkMaskBelow (n : Int) (h1 : n ≤ 9223372036854775807) (w : World) : Calls Try.prog 3 #[.int .i64 n] w fun e w' => e = .returned (.bool true) ∧ w = w' := by
  have e3 : belowN 3 = 7 := by decide
  have C3 := below_any 3
  rw [e3] at C3
  have C3 := Lib.hid C3
  have hb : (((belowN n : Nat) : Int) == ((belowN n : Nat) : Int)) = true := by simp
  clear e3
  go_enter Try.func3, Try.ntmps3
  go_wp2_with fail
  refine (below_any _ _ h1).mono ?_
  rintro e w' ⟨rfl, rfl⟩
  go_wp2_with fail
  refine (rbelow_any _ _).mono ?_
  rintro e w' ⟨rfl, rfl⟩
  go_wp2_with fail
  refine (C3.out _ (by decide)).mono ?_
  rintro e w' ⟨rfl, rfl⟩
  go_wp2_with fail
  go_ret
  exact ⟨rfl, rfl⟩

set_option maxRecDepth 100000 in
theorem maskBelow_lifted (os : Os) (started : os.Started) (H : Type) (enc : TypeId × Value → H) :
    ReturnsInHanded {} Try.checked os 3 .any (Rows.maskBelowSpec.pre6 enc Try.prog Try.f3 Rows.maskBelowRow.domain false) (Rows.maskBelowSpec.post enc Try.prog Try.f3 false true false false) := by
  refine law_lifted (C := Try.checked) (tb := 4) own started (by kernel_rfl) Try.func3
    (ChangeSpec.witness6 (enc := enc) (C := Try.checked) false ⟨#[], #[.int .i64 0], []⟩ 8 (by kernel_rfl) (by kernel_rfl) (by kernel_rfl) (by kernel_rfl)) (by kernel_rfl) (by kernel_rfl) (by kernel_rfl) Try.underlying4 rfl
    (fun ds h => by match ds, h with | [_], _ => rfl) ?_
  intro W base args ds ps hval hA hlt
  rw [Try.params3] at hA hval
  obtain ⟨v0, d0, rfl, rfl, h0⟩ := trodAll_one hA
  obtain ⟨n, rfl, rfl, rfl, wn⟩ := open_int Try.underlying3 (hval 0 3 v0 rfl rfl) h0
  have hn := bounds_i64 wn
  refine (walkMaskBelow n (by omega) W).mono fun e W' ⟨he, hw⟩ => ⟨he, ?_⟩
  subst hw
  exact Below.refl _ _

theorem maskBelow_holds : Rows.MaskBelowSaid :=
  OpenClaim.holds_of_wide 3 Try.f3 rfl rfl rfl rfl rfl rfl rfl ⟨rfl, rfl, rfl, rfl, rfl⟩ rfl rfl rfl rfl rfl (by kernel_rfl) Try.func3 (by kernel_rfl)
    (of_decide_eq_true (by kernel_rfl)) (by unfold Func.isWrapper; first | (rw [if_pos (by decide +kernel)]; kernel_rfl) | (rw [if_neg (by decide +kernel)]; exact ⟨rfl, rfl⟩))
    (fun os started H enc _ => maskBelow_lifted os started H enc)
#print axioms maskBelow_holds
end Go.Proofs.Ytmfgonjlkehkoaa
