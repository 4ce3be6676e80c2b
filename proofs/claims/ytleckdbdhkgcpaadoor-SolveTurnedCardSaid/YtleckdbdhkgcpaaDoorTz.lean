/- math/bits.TrailingZeros64 and mask.First: while the library's table lies as its initialiser lays it, the number of trailing zero bits. -/
import Derived.Test.YtleckdbdhkgcpaaDoorChecked
import Derived.Test.YtleckdbdhkgcpaaDoorBi
import Derived.Test.YtleckdbdhkgcpaaDoorMw
import Derived.WalkKit
import Derived.WalkLawsBesides
import Derived.Lib.Hide
import Derived.Lib.TrailingZeros
import Derived.Outline
namespace Go.Proofs.YtleckdbdhkgcpaaDoor
open Go.RowKit Go.Idl

/-- THE TABLE, in its variable's block. -/
def Tab (w : World) : Prop := 0 < w.heap.size ∧ ∀ j, j < Lib.deBruijn64tab.length → w.cell? ⟨0, j, none⟩ = some (.int .u8 (Lib.deBruijn64tab.getD j 0))
theorem Tab.below {w w' : World} {B : Nat} (h : Tab w) (hb : Below B w w') (hB : 0 < B) : Tab w' :=
  ⟨Nat.lt_of_lt_of_le h.1 hb.size, fun j hj => (hb.cell (p := ⟨0, j, none⟩) hB).trans (h.2 j hj)⟩
theorem Tab.later {w w' : World} (h : Tab w) (hb : Below w.heap.size w w') : Tab w' := h.below hb h.1

theorem tz_key (x a : Nat) (hx : x < 18446744073709551616) (hx0 : x ≠ 0) (hlow : x &&& (18446744073709551616 - x) = a) :
    IntKind.u64.wrap (bits BinOp.and IntKind.u64 (x : Int) (IntKind.u64.wrap (-(x : Int))) * 285870213051353865) / 288230376151711744 = ((a * 285870213051353865 % 18446744073709551616 / 288230376151711744 : Nat) : Int) := by
  have e1 : IntKind.u64.wrap (-(x : Int)) = ((18446744073709551616 - x : Nat) : Int) := by rw [IntKind.wrap_u64]; omega
  rw [e1, u64_and_nat x _ hx (by omega), hlow, IntKind.wrap_u64]
  omega

set_option maxHeartbeats 1000000 in
theorem tz_core (x k idx : Nat) (w : World) (hx0 : ((x : Int) == 0) = false)
    (key : IntKind.u64.wrap (bits BinOp.and IntKind.u64 (x : Int) (IntKind.u64.wrap (-(x : Int))) * 285870213051353865) / 288230376151711744 = (idx : Int))
    (hi : idx < 64) (hk : k < 64) (hcell : w.cell? ⟨0, idx, none⟩ = some (.int .u8 k)) :
    Calls Tryd.prog 54 #[.int .u64 x] w fun e w' => e = .returned (.int .i64 k) ∧ w = w' := by
  go_enter Tryd.func54, Tryd.ntmps54
  go_wp2_with (simp only [key])
  go_ret
  exact ⟨rfl, rfl⟩

theorem tz_any (x : Nat) (hx : x < 2 ^ 64) (hx0 : x ≠ 0) (w : World) (hT : Tab w) :
    Calls Tryd.prog 54 #[.int .u64 x] w fun e w' => e = .returned (.int .i64 (Lib.ctz 64 x : Nat)) ∧ w = w' := by
  obtain ⟨hlow, hk⟩ := Lib.lowest_bit 64 x hx0 hx
  obtain ⟨hi, htab⟩ := Lib.deBruijn64_at _ hk
  have hcell := hT.2 _ hi
  rw [htab] at hcell
  exact tz_core x _ _ w (by simp; omega) (tz_key x _ hx hx0 hlow) hi hk hcell

/-- One round of a set's numbers. -/
theorem bits_step (x : Nat) (hx : x < 2 ^ 64) (h0 : x ≠ 0) : Lib.ctz 64 x < 64 ∧ bitsOf x = Lib.ctz 64 x :: bitsOf (x &&& (x - 1)) := by
  unfold Lib.ctz
  rw [if_neg h0]
  obtain ⟨m, hm, hlt⟩ := Lib.ctzFrom_spec 64 x (by omega) hx
  exact ⟨hlt, bitsOf_step x _ m hm hlt⟩

end Go.Proofs.YtleckdbdhkgcpaaDoor
