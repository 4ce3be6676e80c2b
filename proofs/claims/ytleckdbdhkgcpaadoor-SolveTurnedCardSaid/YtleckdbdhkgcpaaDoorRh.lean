/- The reference's Has: it returns what the same plain function of Lean says. -/
import Derived.Test.YtleckdbdhkgcpaaDoorChecked
import Derived.Test.YtleckdbdhkgcpaaDoorBi
import Derived.WalkKit
import Derived.WalkLawsBesides
import Derived.Lib.Hide
import Derived.Deep.QuietTactic
import Derived.BigQuiet
import Derived.Outline
namespace Go.Proofs.YtleckdbdhkgcpaaDoor
open Go.RowKit Go.Idl

theorem rhas_any (m : Nat) (i : Int) (w : World) (hm : m < 2 ^ 64) : Calls Tryd.prog 42 #[.int .u64 m, .int .i64 i] w fun e w' => e = .returned (.bool (hasB m i)) ∧ w = w' := by
  rcases Int.lt_or_le i 0 with h0 | h0
  · rw [hasB_out (.inl h0)]
    go_enter Tryd.func42, Tryd.ntmps42
    go_wp2
    go_ret
    exact ⟨rfl, rfl⟩
  · rcases Int.lt_or_le 63 i with h6 | h6
    · rw [hasB_out (.inr h6)]
      go_enter Tryd.func42, Tryd.ntmps42
      go_wp2
      go_ret
      exact ⟨rfl, rfl⟩
    · obtain ⟨T, rfl⟩ : ∃ T : Nat, i = T := ⟨i.toNat, by omega⟩
      have HB := Lib.hid (hasB_in (m := m) (k := T) (by omega))
      have HO := Lib.hid (shr_odd m T)
      go_enter Tryd.func42, Tryd.ntmps42
      go_wp2
      go_loop [0, 5] (fun x i => ∃ k : Nat, k ≤ T ∧ i = .int .i64 k ∧ x = .int .u64 (shr m k : Nat)) (fun _ i => T - (intOf i).toNat)
      case atStart => exact ⟨0, by omega, rfl, by rw [shr_zero]⟩
      case round =>
        obtain ⟨k, hk, rfl, rfl⟩ := hrel
        by_cases hlt : k < T
        · have HS := Lib.hid (shr_half m k hm)
          go_wp2
          go_round
          case rel => exact ⟨k + 1, by omega, by go_num, by rw [HS.out]⟩
          case measure => simp [intOf]; omega
        · obtain rfl : k = T := by omega
          go_wp2
          go_ret
          exact ⟨ret_bool (by rw [HB.out, HO.out]), rfl⟩
end Go.Proofs.YtleckdbdhkgcpaaDoor
