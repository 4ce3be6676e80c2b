/- The reference's functions on masks: each returns what the same plain function of Lean says. -/
import Derived.Test.YtmfgonjlkehkoaaChecked
import Derived.Test.YtmfgonjlkehkoaaBi
import Derived.WalkKit
import Derived.WalkLawsBesides
import Derived.Lib.Hide
import Derived.Deep.QuietTactic
import Derived.BigQuiet
import Derived.Outline
namespace Go.Proofs.Ytmfgonjlkehkoaa
open Go.RowKit Go.Idl

theorem rhas_any (m : Nat) (i : Int) (w : World) (hm : m < 2 ^ 64) : Calls Try.prog 9 #[.int .u64 m, .int .i64 i] w fun e w' => e = .returned (.bool (hasB m i)) ∧ w = w' := by
  rcases Int.lt_or_le i 0 with h0 | h0
  · rw [hasB_out (.inl h0)]
    go_enter Try.func9, Try.ntmps9
    go_wp2
    go_ret
    exact ⟨rfl, rfl⟩
  · rcases Int.lt_or_le 63 i with h6 | h6
    · rw [hasB_out (.inr h6)]
      go_enter Try.func9, Try.ntmps9
      go_wp2
      go_ret
      exact ⟨rfl, rfl⟩
    · obtain ⟨T, rfl⟩ : ∃ T : Nat, i = T := ⟨i.toNat, by omega⟩
      have HB := Lib.hid (hasB_in (m := m) (k := T) (by omega))
      have HO := Lib.hid (shr_odd m T)
      go_enter Try.func9, Try.ntmps9
      go_wp2
      go_loop [0, 5] (fun x i => ∃ k : Nat, k ≤ T ∧ i = .int .i64 k ∧ x = .int .u64 (shr m k : Nat)) (fun _ i => T - (intOf i).toNat)
      case atStart => exact ⟨0, by omega, rfl, by rw [shr_zero]⟩
      case round =>
        obtain ⟨k, hk, rfl, rfl⟩ := hrel
        by_cases hlt : k < T
        · have HS := Lib.hid (shr_half m k hm)
          go_wp2
          go_round
          case rel => exact ⟨k + 1, by omega, by go_num, by rw [HS.out]⟩
          case measure => simp [intOf]; omega
        · obtain rfl : k = T := by omega
          go_wp2
          go_ret
          exact ⟨ret_bool (by rw [HB.out, HO.out]), rfl⟩

theorem rone_any (i : Int) (w : World) : Calls Try.prog 17 #[.int .i64 i] w fun e w' => e = .returned (.int .u64 (oneN i : Nat)) ∧ w = w' := by
  rcases Int.lt_or_le i 0 with h0 | h0
  · rw [oneN_out i (.inl h0)]
    go_enter Try.func17, Try.ntmps17
    go_wp2
    go_ret
    exact ⟨rfl, rfl⟩
  · rcases Int.lt_or_le 63 i with h6 | h6
    · rw [oneN_out i (.inr h6)]
      go_enter Try.func17, Try.ntmps17
      go_wp2
      go_ret
      exact ⟨rfl, rfl⟩
    · obtain ⟨T, rfl⟩ : ∃ T : Nat, i = T := ⟨i.toNat, by omega⟩
      have HB := Lib.hid (oneN_in T (by omega))
      go_enter Try.func17, Try.ntmps17
      go_wp2
      go_loop [3, 4] (fun x i => ∃ k : Nat, k ≤ T ∧ i = .int .i64 k ∧ x = .int .u64 (bitN k : Nat)) (fun _ i => T - (intOf i).toNat)
      case atStart => exact ⟨0, by omega, rfl, rfl⟩
      case round =>
        obtain ⟨k, hk, rfl, rfl⟩ := hrel
        by_cases hlt : k < T
        · have HS := Lib.hid (bitN_double k (by omega))
          go_wp2
          go_round
          case rel => exact ⟨k + 1, by omega, by go_num, by rw [HS.out]⟩
          case measure => simp [intOf]; omega
        · obtain rfl : k = T := by omega
          go_wp2
          go_ret
          exact ⟨ret_int (by rw [HB.out]), rfl⟩

theorem rwith_any (m : Nat) (i : Int) (w : World) (hm : m < 2 ^ 64) : Calls Try.prog 11 #[.int .u64 m, .int .i64 i] w fun e w' => e = .returned (.int .u64 (withN m i : Nat)) ∧ w = w' := by
  cases h : hasB m i with
  | true =>
    rw [with_same m i h]
    have C := rhas_any m i w hm
    rw [h] at C
    clear h
    replace C := Lib.hid C
    go_enter Try.func11, Try.ntmps11
    go_wp2_with (go_at_call 9; refine C.out.mono ?_; rintro e w' ⟨rfl, rfl⟩)
    go_ret
    exact ⟨rfl, rfl⟩
  | false =>
    have HA := Lib.hid (with_add m i hm h)
    have C := rhas_any m i w hm
    rw [h] at C
    clear h
    replace C := Lib.hid C
    go_enter Try.func11, Try.ntmps11
    go_wp2_with (first | (go_at_call 9; refine C.out.mono ?_; rintro e w' ⟨rfl, rfl⟩) | (go_at_call 17; refine (rone_any _ _).mono ?_; rintro e w' ⟨rfl, rfl⟩))
    go_ret
    exact ⟨ret_int (by rw [HA.out]), rfl⟩

theorem rwithout_any (m : Nat) (i : Int) (w : World) (hm : m < 2 ^ 64) : Calls Try.prog 13 #[.int .u64 m, .int .i64 i] w fun e w' => e = .returned (.int .u64 (withoutN m i : Nat)) ∧ w = w' := by
  cases h : hasB m i with
  | false =>
    rw [without_same m i hm h]
    have C := rhas_any m i w hm
    rw [h] at C
    clear h
    replace C := Lib.hid C
    go_enter Try.func13, Try.ntmps13
    go_wp2_with (go_at_call 9; refine C.out.mono ?_; rintro e w' ⟨rfl, rfl⟩)
    go_ret
    exact ⟨rfl, rfl⟩
  | true =>
    have HA := Lib.hid (without_sub m i hm h)
    have C := rhas_any m i w hm
    rw [h] at C
    clear h
    replace C := Lib.hid C
    go_enter Try.func13, Try.ntmps13
    go_wp2_with (first | (go_at_call 9; refine C.out.mono ?_; rintro e w' ⟨rfl, rfl⟩) | (go_at_call 17; refine (rone_any _ _).mono ?_; rintro e w' ⟨rfl, rfl⟩))
    go_ret
    exact ⟨ret_int (by rw [HA.out]), rfl⟩

theorem rbelow_any (n : Int) (w : World) : Calls Try.prog 7 #[.int .i64 n] w fun e w' => e = .returned (.int .u64 (belowN n : Nat)) ∧ w = w' := by
  obtain ⟨T, hT, hn⟩ : ∃ T : Nat, T ≤ 64 ∧ (min n 64).toNat = T := ⟨_, by omega, rfl⟩
  have HB := Lib.hid (belowN_low n T hn)
  go_enter Try.func7, Try.ntmps7
  go_wp2
  go_loop [3, 4] (fun m i => ∃ k : Nat, k ≤ T ∧ i = .int .i64 k ∧ m = .int .u64 (lowN k : Nat)) (fun _ i => T - (intOf i).toNat)
  case atStart => exact ⟨0, by omega, rfl, rfl⟩
  case round =>
    obtain ⟨k, hk, rfl, rfl⟩ := hrel
    by_cases hlt : k < T
    · have HS := Lib.hid (lowN_with k (by omega))
      have hl := lowN_lt k (by omega)
      have hl' := Lib.hid hl
      have h1 : (k : Int) < 64 := by omega
      have h2 : (k : Int) < n := by omega
      clear hn hl
      go_wp2_with (go_at_call 11; refine (rwith_any _ _ _ hl'.out).mono ?_; rintro e w' ⟨rfl, rfl⟩)
      go_round
      case rel => exact ⟨k + 1, by omega, by go_num, by rw [HS.out]⟩
      case measure => simp [intOf]; omega
    · obtain rfl : k = T := by omega
      have h3 : 64 ≤ (k : Int) ∨ n ≤ (k : Int) := by omega
      clear hn hlt
      by_cases h1 : (k : Int) < 64
      · have h2 : decide ((k : Int) < n) = false := by simp; omega
        go_wp2
        go_ret
        exact ⟨ret_int (by rw [HB.out]), rfl⟩
      · go_wp2
        go_ret
        exact ⟨ret_int (by rw [HB.out]), rfl⟩

end Go.Proofs.Ytmfgonjlkehkoaa
