/- Plain laws of sets of small numbers, as bits of a natural number. -/
namespace Go.Idl

theorem two64 : (2 : Nat) ^ 64 = 18446744073709551616 := by decide

theorem tb_lt {m i : Nat} (h : m < 2 ^ 64) (hi : m.testBit i = true) : i < 64 := by
  rcases Nat.lt_or_ge i 64 with hlt | hge
  · exact hlt
  · have h2 : m < 2 ^ i := Nat.lt_of_lt_of_le h (Nat.pow_le_pow_right (by decide) hge)
    rw [Nat.testBit_lt_two_pow h2] at hi
    cases hi

/-- The numbers of a set, in order. -/
def bitsOf (m : Nat) : List Nat := (List.range 64).filter fun i => m.testBit i

theorem mem_bitsOf {m i : Nat} : i ∈ bitsOf m ↔ i < 64 ∧ m.testBit i = true := by
  simp [bitsOf, List.mem_filter]

theorem bitsOf_zero : bitsOf 0 = [] := by decide

theorem range'_split (p q : Nat → Bool) (k : Nat) : ∀ (n s : Nat), s ≤ k → k < s + n → p k = true → (∀ i, s ≤ i → i < k → p i = false) → (∀ i, q i = (p i && decide (i ≠ k))) →
    (List.range' s n).filter p = k :: (List.range' s n).filter q
  | 0, s, h1, h2, _, _, _ => by omega
  | n + 1, s, h1, h2, hp, hb, hq => by
    rw [List.range'_succ]
    by_cases hk : s = k
    · subst hk
      rw [List.filter_cons_of_pos hp, List.filter_cons_of_neg (by rw [hq]; simp)]
      congr 1
      apply List.filter_congr
      intro x hx
      rw [List.mem_range'_1] at hx
      rw [hq]
      have : x ≠ s := by omega
      simp [this]
    · rw [List.filter_cons_of_neg (by rw [hb s (Nat.le_refl _) (by omega)]; simp), List.filter_cons_of_neg (by rw [hq, hb s (Nat.le_refl _) (by omega)]; simp)]
      exact range'_split p q k n (s + 1) (by omega) (by omega) hp (fun i h3 h4 => hb i (by omega) h4) hq

theorem bitsOf_cons (m m' k : Nat) (hk : k < 64) (h1 : m.testBit k = true) (h2 : ∀ i, i < k → m.testBit i = false) (h3 : ∀ i, m'.testBit i = (m.testBit i && decide (i ≠ k))) :
    bitsOf m = k :: bitsOf m' := by
  unfold bitsOf
  rw [List.range_eq_range']
  exact range'_split (fun i => m.testBit i) (fun i => m'.testBit i) k 64 0 (by omega) (by omega) h1 (fun i _ h => h2 i h) h3

/-- x = 2^k (2 m + 1): the bits below k are not there, bit k is. -/
theorem odd_bits (k m i : Nat) : (2 ^ k * (2 * m + 1)).testBit i = if i < k then false else if i = k then true else m.testBit (i - k - 1) := by
  rw [Nat.mul_comm, Nat.testBit_mul_two_pow]
  by_cases h : i < k
  · have : ¬ k ≤ i := by omega
    simp [h, this]
  · by_cases he : i = k
    · subst he
      simp [Nat.testBit_zero]
    · obtain ⟨j, rfl⟩ : ∃ j, i = k + (j + 1) := ⟨i - k - 1, by omega⟩
      have e : k + (j + 1) - k = j + 1 := by omega
      have e2 : k + (j + 1) - k - 1 = j := by omega
      rw [if_neg h, if_neg he, e, Nat.testBit_succ]
      have d : (2 * m + 1) / 2 = m := by omega
      rw [d]
      simp

theorem even_bits (k m i : Nat) : (2 ^ k * (2 * m)).testBit i = if i ≤ k then false else m.testBit (i - k - 1) := by
  rw [Nat.mul_comm, Nat.testBit_mul_two_pow]
  by_cases h : i < k
  · have h1 : ¬ k ≤ i := by omega
    have h2 : i ≤ k := by omega
    simp [h1, h2]
  · by_cases he : i = k
    · subst he
      simp [Nat.testBit_zero]
    · obtain ⟨j, rfl⟩ : ∃ j, i = k + (j + 1) := ⟨i - k - 1, by omega⟩
      have e : k + (j + 1) - k = j + 1 := by omega
      have e2 : k + (j + 1) - k - 1 = j := by omega
      have e3 : ¬ k + (j + 1) ≤ k := by omega
      rw [if_neg e3, e, Nat.testBit_succ]
      have d : 2 * m / 2 = m := by omega
      rw [d]
      simp

theorem clear_low (k m : Nat) : (2 ^ k * (2 * m + 1)) &&& (2 ^ k * (2 * m + 1) - 1) = 2 ^ k * (2 * m) := by
  have e : 2 ^ k * (2 * m + 1) - 1 = 2 ^ k * (2 * m) + (2 ^ k - 1) := by
    have : 0 < 2 ^ k := Nat.two_pow_pos k
    rw [Nat.mul_add]
    omega
  apply Nat.eq_of_testBit_eq
  intro i
  rw [Nat.testBit_and, e]
  have hlt : 2 ^ k - 1 < 2 ^ k := by have := Nat.two_pow_pos k; omega
  rw [Nat.testBit_two_pow_mul_add _ hlt, odd_bits, even_bits]
  by_cases h : i < k
  · have h2 : i ≤ k := by omega
    simp [h, h2]
  · by_cases he : i = k
    · subst he
      simp [Nat.testBit_zero]
    · have h3 : ¬ i ≤ k := by omega
      obtain ⟨j, rfl⟩ : ∃ j, i = k + (j + 1) := ⟨i - k - 1, by omega⟩
      have e1 : k + (j + 1) - k = j + 1 := by omega
      simp [h, h3, e1, Nat.testBit_succ]

/-- One round: the least number is taken out. -/
theorem bitsOf_step (x k m : Nat) (hx : x = 2 ^ k * (2 * m + 1)) (hk : k < 64) : bitsOf x = k :: bitsOf (x &&& (x - 1)) := by
  subst hx
  rw [clear_low]
  refine bitsOf_cons _ _ k hk (by rw [odd_bits]; simp) (fun i h => by rw [odd_bits, if_pos h]) fun i => ?_
  rw [odd_bits, even_bits]
  by_cases h : i < k
  · have : i ≤ k := by omega
    simp [h, this]
  · by_cases he : i = k
    · simp [he]
    · have : ¬ i ≤ k := by omega
      simp [h, he, this]

/-- Is a number in a set? -/
def hasB (m : Nat) (i : Int) : Bool := decide (0 ≤ i) && decide (i < 64) && m.testBit i.toNat
/-- A set with a number. -/
def withN (m : Nat) (i : Int) : Nat := if 0 ≤ i ∧ i < 64 then m ||| 2 ^ i.toNat else m
/-- A set without a number. -/
def withoutN (m : Nat) (i : Int) : Nat := if 0 ≤ i ∧ i < 64 then m &&& (18446744073709551615 - 2 ^ i.toNat) else m
/-- All below a number. -/
def belowN (n : Int) : Nat := 2 ^ (min n 64).toNat - 1

theorem bit_le (m i : Nat) (h : m.testBit i = true) : 2 ^ i ≤ m := Nat.ge_two_pow_of_testBit h

theorem testBit_or_bit (m i j : Nat) : (m ||| 2 ^ i).testBit j = (m.testBit j || decide (i = j)) := by
  rw [Nat.testBit_or, Nat.testBit_two_pow]

theorem and_bit_ne (m i : Nat) (h : m.testBit i = true) : m &&& 2 ^ i = 2 ^ i := by
  apply Nat.eq_of_testBit_eq
  intro j
  rw [Nat.testBit_and, Nat.testBit_two_pow]
  by_cases he : i = j
  · subst he; simp [h]
  · simp [he]

theorem testBit_sub_bit {m k : Nat} (hk : m.testBit k = true) (i : Nat) : (m - 2 ^ k).testBit i = (m.testBit i && decide (i ≠ k)) := by
  have hd : m / 2 ^ k % 2 = 1 := by
    rw [Nat.testBit_eq_decide_div_mod_eq] at hk
    simpa using hk
  obtain ⟨q, hq⟩ : ∃ q, m / 2 ^ k = 2 * q + 1 := ⟨m / 2 ^ k / 2, by omega⟩
  have hm : m = 2 ^ k * (2 * q + 1) + m % 2 ^ k := by
    rw [← hq]; exact (Nat.div_add_mod m (2 ^ k)).symm
  obtain ⟨l, hl⟩ : ∃ l, l = m % 2 ^ k := ⟨_, rfl⟩
  have hlt : l < 2 ^ k := by rw [hl]; exact Nat.mod_lt _ (Nat.two_pow_pos k)
  rw [← hl] at hm
  have e : m - 2 ^ k = 2 ^ k * (2 * q) + l := by
    rw [hm, Nat.mul_add, Nat.mul_one]; omega
  rw [e, hm, Nat.testBit_two_pow_mul_add _ hlt, Nat.testBit_two_pow_mul_add _ hlt]
  by_cases h : i < k
  · have : i ≠ k := by omega
    simp [h, this]
  · by_cases he : i = k
    · subst he
      simp [Nat.testBit_zero]
    · obtain ⟨j, rfl⟩ : ∃ j, i = k + (j + 1) := ⟨i - k - 1, by omega⟩
      have e1 : k + (j + 1) - k = j + 1 := by omega
      have d1 : (2 * q + 1) / 2 = q := by omega
      have d2 : 2 * q / 2 = q := by omega
      simp [e1, Nat.testBit_succ, d1, d2]

theorem testBit_clear (m k i : Nat) (hm : m < 2 ^ 64) (hk : k < 64) : (m &&& (18446744073709551615 - 2 ^ k)).testBit i = (m.testBit i && decide (i ≠ k)) := by
  rw [Nat.testBit_and]
  by_cases hi : i < 64
  · have h := Nat.testBit_two_pow_sub_succ (n := 64) (Nat.pow_lt_pow_right (by decide : 1 < 2) hk) i
    rw [show 2 ^ 64 - (2 ^ k + 1) = 18446744073709551615 - 2 ^ k by omega] at h
    rw [h, Nat.testBit_two_pow]
    by_cases he : k = i
    · subst he; simp
    · have : i ≠ k := by omega
      simp [hi, he, this]
  · have : m.testBit i = false := by
      cases h : m.testBit i with
      | false => rfl
      | true => exact absurd (tb_lt hm h) hi
    rw [this]; rfl

theorem testBit_withoutN (m : Nat) (k i : Nat) (hm : m < 2 ^ 64) (hk : k < 64) : (withoutN m k).testBit i = (m.testBit i && decide (i ≠ k)) := by
  unfold withoutN
  rw [if_pos ⟨by omega, by omega⟩, Int.toNat_natCast]
  exact testBit_clear m k i hm hk

/-- .. as the document takes it out. -/
theorem withoutN_ref (m : Nat) (i : Int) (hm : m < 2 ^ 64) : (if hasB m i = true then m - 2 ^ i.toNat else m) = withoutN m i := by
  unfold withoutN hasB
  by_cases h : 0 ≤ i ∧ i < 64
  · obtain ⟨k, rfl⟩ : ∃ k : Nat, i = k := ⟨i.toNat, by omega⟩
    have hk : k < 64 := by omega
    rw [if_pos h, Int.toNat_natCast]
    simp only [h.1, h.2, decide_true, Bool.true_and]
    apply Nat.eq_of_testBit_eq
    intro j
    rw [testBit_clear m k j hm hk]
    cases hb : m.testBit k with
    | true => rw [if_pos rfl, testBit_sub_bit hb]
    | false =>
      rw [if_neg (by simp)]
      by_cases he : j = k
      · subst he; simp [hb]
      · simp [he]
  · rw [if_neg h, if_neg]
    intro h2
    simp only [Bool.and_eq_true, decide_eq_true_eq] at h2
    exact h h2.1

/-- .. as the document puts a number in. -/
theorem withN_ref (m : Nat) (i : Int) : (if hasB m i = true then m else m + (if 0 ≤ i ∧ i < 64 then 2 ^ i.toNat else 0)) = withN m i := by
  unfold withN hasB
  by_cases h : 0 ≤ i ∧ i < 64
  · obtain ⟨k, rfl⟩ : ∃ k : Nat, i = k := ⟨i.toNat, by omega⟩
    rw [if_pos h, if_pos h, Int.toNat_natCast]
    simp only [h.1, h.2, decide_true, Bool.true_and]
    cases hb : m.testBit k with
    | true =>
      rw [if_pos rfl]
      apply Nat.eq_of_testBit_eq
      intro j
      rw [testBit_or_bit]
      by_cases he : k = j
      · subst he; simp [hb]
      · simp [he]
    | false =>
      rw [if_neg (by simp)]
      have h2 : (m ||| 2 ^ k).testBit k = true := by rw [testBit_or_bit]; simp
      have h3 : (m ||| 2 ^ k) - 2 ^ k = m := by
        apply Nat.eq_of_testBit_eq
        intro j
        rw [testBit_sub_bit h2, testBit_or_bit]
        by_cases he : j = k
        · subst he; simp [hb]
        · have : ¬ k = j := by omega
          simp [he, this]
      have := bit_le _ _ h2
      omega
  · rw [if_neg h, if_neg h, if_neg]
    · rfl
    · intro h2
      simp only [Bool.and_eq_true, decide_eq_true_eq] at h2
      exact h h2.1

theorem withN_lt (m : Nat) (i : Int) (hm : m < 2 ^ 64) : withN m i < 2 ^ 64 := by
  unfold withN
  split
  · rename_i h
    exact Nat.or_lt_two_pow hm (Nat.pow_lt_pow_right (by decide) (by omega))
  · exact hm
theorem withoutN_lt (m : Nat) (i : Int) (hm : m < 2 ^ 64) : withoutN m i < 2 ^ 64 := by
  unfold withoutN
  split
  · exact Nat.lt_of_le_of_lt Nat.and_le_left hm
  · exact hm
theorem belowN_lt (n : Int) : belowN n < 2 ^ 64 := by
  unfold belowN
  have h1 : 2 ^ (min n 64).toNat ≤ 2 ^ 64 := Nat.pow_le_pow_right (by decide) (by omega)
  have h2 : 0 < 2 ^ (min n 64).toNat := Nat.two_pow_pos _
  omega
theorem testBit_belowN (n : Int) (i : Nat) : (belowN n).testBit i = decide (i < (min n 64).toNat) := by
  unfold belowN
  exact Nat.testBit_two_pow_sub_one _ _
theorem belowN_step (k : Nat) : 2 ^ k - 1 ||| 2 ^ k = 2 ^ (k + 1) - 1 := by
  apply Nat.eq_of_testBit_eq
  intro i
  rw [testBit_or_bit, Nat.testBit_two_pow_sub_one, Nat.testBit_two_pow_sub_one]
  by_cases h : i < k
  · have : i < k + 1 := by omega
    simp [h, this]
  · by_cases he : k = i
    · subst he; simp
    · have : ¬ i < k + 1 := by omega
      simp [h, he, this]

end Go.Idl
