/- The Go functions of package mask that only compute: each returns what a plain function of Lean says, and leaves the world alone. -/
import Derived.Test.YtleckdbdhkgcpaaDoorChecked
import Derived.Test.YtleckdbdhkgcpaaDoorBi
import Derived.WalkKit
import Derived.WalkLawsBesides
import Derived.Lib.Hide
import Derived.Deep.QuietTactic
import Derived.BigQuiet
import Derived.Outline
namespace Go.Proofs.YtleckdbdhkgcpaaDoor
open Go.RowKit Go.Idl

theorem right_yes (i : Int) (w : World) (h1 : 0 ≤ i) (h2 : i < 64) : Calls Tryd.prog 55 #[.int .i64 i] w fun e w' => e = .returned (.bool true) ∧ w = w' := by
  go_enter Tryd.func55, Tryd.ntmps55
  go_wp2
  go_ret
  exact ⟨rfl, rfl⟩
theorem right_no (i : Int) (w : World) (h : i < 0 ∨ 64 ≤ i) : Calls Tryd.prog 55 #[.int .i64 i] w fun e w' => e = .returned (.bool false) ∧ w = w' := by
  rcases h with h | h
  · go_enter Tryd.func55, Tryd.ntmps55
    go_wp2
    go_ret
    exact ⟨rfl, rfl⟩
  · have h0 : 0 ≤ i := by omega
    have h1 : decide (i < 64) = false := by simp; omega
    go_enter Tryd.func55, Tryd.ntmps55
    go_wp2
    go_ret
    exact ⟨rfl, rfl⟩

theorem with_any (m : Nat) (i : Int) (w : World) (hm : m < 2 ^ 64) : Calls Tryd.prog 58 #[.int .u64 m, .int .i64 i] w fun e w' => e = .returned (.int .u64 (withN m i : Nat)) ∧ w = w' := by
  by_cases h : 0 ≤ i ∧ i < 64
  · obtain ⟨h1, h2⟩ := h
    go_enter Tryd.func58, Tryd.ntmps58
    go_wp2_with (go_at_call 55; refine (right_yes _ _ h1 h2).mono ?_; rintro e w' ⟨rfl, rfl⟩)
    go_ret
    exact ⟨ret_int (or_shl m i hm h1 h2), rfl⟩
  · have h' : i < 0 ∨ 64 ≤ i := by omega
    have e : withN m i = m := if_neg h
    rw [e]
    clear h e
    go_enter Tryd.func58, Tryd.ntmps58
    go_wp2_with (go_at_call 55; refine (right_no _ _ h').mono ?_; rintro e w' ⟨rfl, rfl⟩)
    go_ret
    exact ⟨rfl, rfl⟩

theorem without_any (m : Nat) (i : Int) (w : World) (hm : m < 2 ^ 64) : Calls Tryd.prog 47 #[.int .u64 m, .int .i64 i] w fun e w' => e = .returned (.int .u64 (withoutN m i : Nat)) ∧ w = w' := by
  by_cases h : 0 ≤ i ∧ i < 64
  · obtain ⟨h1, h2⟩ := h
    go_enter Tryd.func47, Tryd.ntmps47
    go_wp2_with (go_at_call 55; refine (right_yes _ _ h1 h2).mono ?_; rintro e w' ⟨rfl, rfl⟩)
    go_ret
    exact ⟨ret_int (andNot_shl m i hm h1 h2), rfl⟩
  · have h' : i < 0 ∨ 64 ≤ i := by omega
    have e : withoutN m i = m := if_neg h
    rw [e]
    clear h e
    go_enter Tryd.func47, Tryd.ntmps47
    go_wp2_with (go_at_call 55; refine (right_no _ _ h').mono ?_; rintro e w' ⟨rfl, rfl⟩)
    go_ret
    exact ⟨rfl, rfl⟩

theorem has_any (m : Nat) (i : Int) (w : World) (hm : m < 2 ^ 64) : Calls Tryd.prog 57 #[.int .u64 m, .int .i64 i] w fun e w' => e = .returned (.bool (hasB m i)) ∧ w = w' := by
  by_cases h : 0 ≤ i ∧ i < 64
  · obtain ⟨h1, h2⟩ := h
    obtain ⟨k, rfl⟩ : ∃ k : Nat, i = k := ⟨i.toNat, by omega⟩
    have hk : k < 64 := by omega
    have e : hasB m k = decide (m / 2 ^ k % 2 = 1) := by
      unfold hasB
      rw [Int.toNat_natCast, testBit_div]
      simp; omega
    have E := Lib.hid e
    clear e
    go_enter Tryd.func57, Tryd.ntmps57
    go_wp2_with (go_at_call 55; refine (right_yes _ _ h1 h2).mono ?_; rintro e w' ⟨rfl, rfl⟩)
    go_ret
    exact ⟨ret_bool (by rw [E.out, div_pow, bit_and_one m k hm, Bool.eq_iff_iff, beq_iff_eq, decide_eq_true_eq]; omega), rfl⟩
  · have h' : i < 0 ∨ 64 ≤ i := by omega
    have e : hasB m i = false := by
      unfold hasB
      rw [Bool.and_eq_false_iff]; left
      simp only [Bool.and_eq_false_iff, decide_eq_false_iff_not]; omega
    rw [e]
    clear h e
    go_enter Tryd.func57, Tryd.ntmps57
    go_wp2_with (go_at_call 55; refine (right_no _ _ h').mono ?_; rintro e w' ⟨rfl, rfl⟩)
    go_ret
    exact ⟨rfl, rfl⟩

theorem below_any (n : Int) (w : World) (hn : n ≤ 9223372036854775807) : Calls Tryd.prog 56 #[.int .i64 n] w fun e w' => e = .returned (.int .u64 (belowN n : Nat)) ∧ w = w' := by
  rcases Int.lt_or_le n 0 with h0 | h0
  · have HB := Lib.hid (belowN_low n 0 (by omega))
    go_enter Tryd.func56, Tryd.ntmps56
    go_wp2
    go_loop [3, 8] (fun m i => i = .int .i64 0 ∧ m = .int .u64 0) (fun _ _ => 0)
    case atStart => exact ⟨rfl, rfl⟩
    case round =>
      obtain ⟨rfl, rfl⟩ := hrel
      go_wp2
      go_ret
      exact ⟨ret_int (by rw [HB.out]; rfl), rfl⟩
  · rcases Int.lt_or_le 64 n with h6 | h6
    · have HB := Lib.hid (belowN_low n 64 (by omega))
      go_enter Tryd.func56, Tryd.ntmps56
      go_wp2
      go_loop [3, 8] (fun m i => ∃ k : Nat, k ≤ 64 ∧ i = .int .i64 k ∧ m = .int .u64 (lowN k : Nat)) (fun _ i => 64 - (intOf i).toNat)
      case atStart => exact ⟨0, by omega, rfl, rfl⟩
      case round =>
        obtain ⟨k, hk, rfl, rfl⟩ := hrel
        by_cases hlt : k < 64
        · have HS := Lib.hid (lowN_step k hlt)
          go_wp2
          go_round
          case rel => exact ⟨k + 1, by omega, by go_num, by rw [HS.out]⟩
          case measure => simp [intOf]; omega
        · obtain rfl : k = 64 := by omega
          go_wp2
          go_ret
          exact ⟨ret_int (by rw [HB.out]), rfl⟩
    · obtain ⟨T, rfl⟩ : ∃ T : Nat, n = T := ⟨n.toNat, by omega⟩
      have hT : T ≤ 64 := by omega
      have HB := Lib.hid (belowN_low T T (by omega))
      go_enter Tryd.func56, Tryd.ntmps56
      go_wp2
      go_loop [3, 8] (fun m i => ∃ k : Nat, k ≤ T ∧ i = .int .i64 k ∧ m = .int .u64 (lowN k : Nat)) (fun _ i => T - (intOf i).toNat)
      case atStart => exact ⟨0, by omega, rfl, rfl⟩
      case round =>
        obtain ⟨k, hk, rfl, rfl⟩ := hrel
        by_cases hlt : k < T
        · have HS := Lib.hid (lowN_step k (by omega))
          go_wp2
          go_round
          case rel => exact ⟨k + 1, by omega, by go_num, by rw [HS.out]⟩
          case measure => simp [intOf]; omega
        · obtain rfl : k = T := by omega
          go_wp2
          go_ret
          exact ⟨ret_int (by rw [HB.out]), rfl⟩

end Go.Proofs.YtleckdbdhkgcpaaDoor
