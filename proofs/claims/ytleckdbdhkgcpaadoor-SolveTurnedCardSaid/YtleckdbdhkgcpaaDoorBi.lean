/- The model's operations on uint64 in the plain words of sets: the forms in which the walk leaves them. -/
import Derived.WalkKit
import Derived.Laws.BitsAllLaws
import Derived.Laws.Bits64b
import Derived.Test.YtleckdbdhkgcpaaDoorMk
namespace Go.Idl
open Go Go.RowKit

theorem ret_int {k : IntKind} {a b : Int} (h : a = b) : Ending.returned (.int k a) = .returned (.int k b) := by rw [h]
theorem ret_bool {a b : Bool} (h : a = b) : Ending.returned (.bool a) = .returned (.bool b) := by rw [h]

theorem ret_ib {k : IntKind} {a b : Int} {c d : Bool} (h : a = b) (h' : c = d) : Ending.returned (.tuple #[.int k a, .bool c]) = .returned (.tuple #[.int k b, .bool d]) := by rw [h, h']

theorem wrap_nat (n : Nat) (h : n < 2 ^ 64) : IntKind.u64.wrap (n : Int) = (n : Int) := by
  rw [IntKind.wrap_u64]; omega
theorem shl_bit (i : Nat) (h : i < 64) : IntKind.u64.wrap ((2 : Int) ^ i) = ((2 ^ i : Nat) : Int) := by
  have e : ((2 : Int) ^ i) = ((2 ^ i : Nat) : Int) := by simp
  rw [e]
  exact wrap_nat _ (Nat.pow_lt_pow_right (by decide) h)
theorem two_lt {i : Nat} (h : i < 64) : 2 ^ i < 18446744073709551616 := by
  have := Nat.pow_lt_pow_right (by decide : 1 < 2) h
  omega
theorem or_shl (m : Nat) (i : Int) (hm : m < 2 ^ 64) (h1 : 0 ≤ i) (h2 : i < 64) : bits BinOp.or IntKind.u64 (m : Int) (IntKind.u64.wrap ((2 : Int) ^ i.toNat)) = ((withN m i : Nat) : Int) := by
  rw [shl_bit _ (by omega), u64_or_nat _ _ hm (two_lt (by omega))]
  unfold withN
  rw [if_pos ⟨h1, h2⟩]
theorem andNot_shl (m : Nat) (i : Int) (hm : m < 2 ^ 64) (h1 : 0 ≤ i) (h2 : i < 64) : bits BinOp.andNot IntKind.u64 (m : Int) (IntKind.u64.wrap ((2 : Int) ^ i.toNat)) = ((withoutN m i : Nat) : Int) := by
  rw [shl_bit _ (by omega), u64_andNot_nat _ _ hm (two_lt (by omega))]
  unfold withoutN
  rw [if_pos ⟨h1, h2⟩]
theorem u64_or_eq (a b : Nat) (ha : a < 2 ^ 64) (hb : b < 2 ^ 64) : bits BinOp.or IntKind.u64 (a : Int) (b : Int) = ((a ||| b : Nat) : Int) := u64_or_nat a b ha hb
theorem u64_and_eq (a b : Nat) (ha : a < 2 ^ 64) (hb : b < 2 ^ 64) : bits BinOp.and IntKind.u64 (a : Int) (b : Int) = ((a &&& b : Nat) : Int) := u64_and_nat a b ha hb
theorem u64_andNot_eq (a b : Nat) (ha : a < 2 ^ 64) (hb : b < 2 ^ 64) : bits BinOp.andNot IntKind.u64 (a : Int) (b : Int) = ((a &&& (18446744073709551615 - b) : Nat) : Int) := u64_andNot_nat a b ha hb
theorem div_pow (m i : Nat) : ((m : Int) / (2 : Int) ^ i) = ((m / 2 ^ i : Nat) : Int) := by
  have : ((2 : Int) ^ i) = ((2 ^ i : Nat) : Int) := by simp
  rw [this]; exact (Int.natCast_ediv _ _).symm
theorem bit_and_one (m i : Nat) (hm : m < 2 ^ 64) : bits BinOp.and IntKind.u64 ((m / 2 ^ i : Nat) : Int) 1 = ((m / 2 ^ i % 2 : Nat) : Int) := by
  have h : m / 2 ^ i < 2 ^ 64 := Nat.lt_of_le_of_lt (Nat.div_le_self _ _) hm
  have := u64_and_nat (m / 2 ^ i) 1 h (by decide)
  rw [show ((1 : Nat) : Int) = 1 from rfl] at this
  rw [this, nat_mask1]
theorem testBit_div (m i : Nat) : m.testBit i = decide (m / 2 ^ i % 2 = 1) := Nat.testBit_eq_decide_div_mod_eq

/-- The k least numbers. -/
def lowN (k : Nat) : Nat := 2 ^ k - 1
theorem lowN_zero : lowN 0 = 0 := rfl
theorem lowN_step (k : Nat) (h : k < 64) : bits BinOp.or IntKind.u64 ((lowN k : Nat) : Int) (IntKind.u64.wrap ((2 : Int) ^ k)) = ((lowN (k + 1) : Nat) : Int) := by
  have h1 : 2 ^ k ≤ 2 ^ 64 := Nat.pow_le_pow_right (by decide) (by omega)
  have h2 : 0 < 2 ^ k := Nat.two_pow_pos k
  rw [shl_bit k h, u64_or_eq _ _ (by unfold lowN; omega) (by have := two_lt h; omega)]
  unfold lowN
  rw [belowN_step]
theorem belowN_low (n : Int) (T : Nat) (h : (min n 64).toNat = T) : belowN n = lowN T := by unfold belowN lowN; rw [h]

/-- What a set is behind k halvings. -/
def shr (m k : Nat) : Nat := m / 2 ^ k
theorem shr_zero (m : Nat) : shr m 0 = m := by unfold shr; simp
theorem shr_succ (m k : Nat) : shr m (k + 1) = shr m k / 2 := by unfold shr; rw [Nat.pow_succ, Nat.div_div_eq_div_mul]
theorem shr_half (m k : Nat) (hm : m < 2 ^ 64) : IntKind.u64.wrap (((shr m k : Nat) : Int) / 2) = ((shr m (k + 1) : Nat) : Int) := by
  have h : shr m k ≤ m := Nat.div_le_self _ _
  rw [shr_succ, IntKind.wrap_u64]; omega
theorem shr_odd (m k : Nat) : (((shr m k : Nat) : Int) % 2 == 1) = m.testBit k := by
  rw [testBit_div, Bool.eq_iff_iff, beq_iff_eq, decide_eq_true_eq]
  unfold shr; omega
/-- The set of one number. -/
def bitN (k : Nat) : Nat := 2 ^ k
theorem bitN_double (k : Nat) (h : k < 63) : IntKind.u64.wrap (((bitN k : Nat) : Int) * 2) = ((bitN (k + 1) : Nat) : Int) := by
  have h2 := two_lt (show k + 1 < 64 by omega)
  unfold bitN
  rw [IntKind.wrap_u64]
  rw [Nat.pow_succ] at *
  omega
theorem hasB_in {m k : Nat} (h : k < 64) : hasB m k = m.testBit k := by unfold hasB; rw [Int.toNat_natCast]; simp; omega
theorem hasB_out {m : Nat} {i : Int} (h : i < 0 ∨ 63 < i) : hasB m i = false := by
  unfold hasB
  rw [Bool.and_eq_false_iff]; left
  simp only [Bool.and_eq_false_iff, decide_eq_false_iff_not]; omega
/-- The set of one number, of whatever number. -/
def oneN (i : Int) : Nat := if 0 ≤ i ∧ i < 64 then 2 ^ i.toNat else 0
theorem oneN_in (k : Nat) (h : k < 64) : oneN k = bitN k := by unfold oneN bitN; rw [if_pos (by omega), Int.toNat_natCast]
theorem oneN_out (i : Int) (h : i < 0 ∨ 63 < i) : oneN i = 0 := by unfold oneN; rw [if_neg (by omega)]
theorem with_add (m : Nat) (i : Int) (hm : m < 2 ^ 64) (h : hasB m i = false) : IntKind.u64.wrap ((m : Int) + ((oneN i : Nat) : Int)) = ((withN m i : Nat) : Int) := by
  have e := withN_ref m i
  rw [h] at e
  have hl := withN_lt m i hm
  rw [IntKind.wrap_u64]
  have e2 : m + oneN i = withN m i := by rw [← e]; unfold oneN; simp
  omega
theorem without_sub (m : Nat) (i : Int) (hm : m < 2 ^ 64) (h : hasB m i = true) : IntKind.u64.wrap ((m : Int) - ((oneN i : Nat) : Int)) = ((withoutN m i : Nat) : Int) := by
  have e := withoutN_ref m i hm
  rw [h, if_pos rfl] at e
  have h2 : 0 ≤ i ∧ i < 64 := by
    unfold hasB at h; simp at h; omega
  have hb : m.testBit i.toNat = true := by
    unfold hasB at h; simp at h; exact h.2
  have hle := bit_le _ _ hb
  have e1 : oneN i = 2 ^ i.toNat := by unfold oneN; rw [if_pos h2]
  rw [e1, IntKind.wrap_u64]
  omega
theorem with_same (m : Nat) (i : Int) (h : hasB m i = true) : withN m i = m := by
  have e := withN_ref m i
  rw [h, if_pos rfl] at e
  exact e.symm
theorem without_same (m : Nat) (i : Int) (hm : m < 2 ^ 64) (h : hasB m i = false) : withoutN m i = m := by
  have e := withoutN_ref m i hm
  rw [h] at e
  exact e.symm
theorem lowN_with (k : Nat) (h : k < 64) : withN (lowN k) (k : Int) = lowN (k + 1) := by
  unfold withN lowN
  rw [if_pos (by omega), Int.toNat_natCast]
  exact belowN_step k
theorem lowN_lt (k : Nat) (h : k ≤ 64) : lowN k < 2 ^ 64 := by
  have h1 : 2 ^ k ≤ 2 ^ 64 := Nat.pow_le_pow_right (by decide) h
  have h2 : 0 < 2 ^ k := Nat.two_pow_pos k
  unfold lowN; omega

theorem xor_max (a : Nat) (ha : a < 2 ^ 64) : bits BinOp.xor IntKind.u64 IntKind.u64.max (a : Int) = ((2 ^ 64 - 1 - a : Nat) : Int) := by
  have e : IntKind.u64.max = ((18446744073709551615 : Nat) : Int) := by decide
  rw [e, u64_xor_nat _ _ (by decide) ha]
  congr 1
  apply Nat.eq_of_testBit_eq
  intro i
  have h1 := Nat.testBit_two_pow_sub_one 64 i
  have h2 := Nat.testBit_two_pow_sub_succ ha i
  rw [show 2 ^ 64 - (a + 1) = 2 ^ 64 - 1 - a by omega] at h2
  rw [Nat.testBit_xor, h2, show (18446744073709551615 : Nat) = 2 ^ 64 - 1 by decide, h1]
  by_cases hi : i < 64
  · simp [hi]
  · have : a.testBit i = false := Nat.testBit_lt_two_pow (Nat.lt_of_lt_of_le ha (Nat.pow_le_pow_right (by decide) (by omega)))
    simp [hi, this]

end Go.Idl
