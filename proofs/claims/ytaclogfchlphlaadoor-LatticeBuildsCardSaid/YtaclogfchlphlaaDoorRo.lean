/- The reference's One and With: each returns what the same plain function of Lean says. -/
import Derived.Test.YtaclogfchlphlaaDoorChecked
import Derived.Test.YtaclogfchlphlaaDoorBi
import Derived.Test.YtaclogfchlphlaaDoorRh
import Derived.WalkKit
import Derived.WalkLawsBesides
import Derived.Lib.Hide
import Derived.Deep.QuietTactic
import Derived.BigQuiet
import Derived.Outline
namespace Go.Proofs.YtaclogfchlphlaaDoor
open Go.RowKit Go.Idl

theorem rone_any (i : Int) (w : World) : Calls Tryd.prog 48 #[.int .i64 i] w fun e w' => e = .returned (.int .u64 (oneN i : Nat)) ∧ w = w' := by
  rcases Int.lt_or_le i 0 with h0 | h0
  · rw [oneN_out i (.inl h0)]
    go_enter Tryd.func48, Tryd.ntmps48
    go_wp2
    go_ret
    exact ⟨rfl, rfl⟩
  · rcases Int.lt_or_le 63 i with h6 | h6
    · rw [oneN_out i (.inr h6)]
      go_enter Tryd.func48, Tryd.ntmps48
      go_wp2
      go_ret
      exact ⟨rfl, rfl⟩
    · obtain ⟨T, rfl⟩ : ∃ T : Nat, i = T := ⟨i.toNat, by omega⟩
      have HB := Lib.hid (oneN_in T (by omega))
      go_enter Tryd.func48, Tryd.ntmps48
      go_wp2
      go_loop [3, 4] (fun x i => ∃ k : Nat, k ≤ T ∧ i = .int .i64 k ∧ x = .int .u64 (bitN k : Nat)) (fun _ i => T - (intOf i).toNat)
      case atStart => exact ⟨0, by omega, rfl, rfl⟩
      case round =>
        obtain ⟨k, hk, rfl, rfl⟩ := hrel
        by_cases hlt : k < T
        · have HS := Lib.hid (bitN_double k (by omega))
          go_wp2
          go_round
          case rel => exact ⟨k + 1, by omega, by go_num, by rw [HS.out]⟩
          case measure => simp [intOf]; omega
        · obtain rfl : k = T := by omega
          go_wp2
          go_ret
          exact ⟨ret_int (by rw [HB.out]), rfl⟩

theorem rwith_any (m : Nat) (i : Int) (w : World) (hm : m < 2 ^ 64) : Calls Tryd.prog 49 #[.int .u64 m, .int .i64 i] w fun e w' => e = .returned (.int .u64 (withN m i : Nat)) ∧ w = w' := by
  cases h : hasB m i with
  | true =>
    rw [with_same m i h]
    have C := rhas_any m i w hm
    rw [h] at C
    clear h
    replace C := Lib.hid C
    go_enter Tryd.func49, Tryd.ntmps49
    go_wp2_with (go_at_call 46; refine C.out.mono ?_; rintro e w' ⟨rfl, rfl⟩)
    go_ret
    exact ⟨rfl, rfl⟩
  | false =>
    have HA := Lib.hid (with_add m i hm h)
    have C := rhas_any m i w hm
    rw [h] at C
    clear h
    replace C := Lib.hid C
    go_enter Tryd.func49, Tryd.ntmps49
    go_wp2_with (first | (go_at_call 46; refine C.out.mono ?_; rintro e w' ⟨rfl, rfl⟩) | (go_at_call 48; refine (rone_any _ _).mono ?_; rintro e w' ⟨rfl, rfl⟩))
    go_ret
    exact ⟨ret_int (by rw [HA.out]), rfl⟩
end Go.Proofs.YtaclogfchlphlaaDoor
