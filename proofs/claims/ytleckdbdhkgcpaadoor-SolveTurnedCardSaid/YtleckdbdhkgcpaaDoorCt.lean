/- Plain laws of counting. -/
import Derived.Test.YtleckdbdhkgcpaaDoorLt
namespace Go.Idl

/-- How many numbers below n have p. -/
def cnt (n : Nat) (p : Nat → Bool) : Nat := ((List.range n).filter p).length

theorem cnt_zero (p : Nat → Bool) : cnt 0 p = 0 := rfl
theorem cnt_succ (n : Nat) (p : Nat → Bool) : cnt (n + 1) p = cnt n p + if p n = true then 1 else 0 := by
  unfold cnt
  rw [List.range_succ, List.filter_append, List.length_append]
  by_cases h : p n = true <;> simp [h]
theorem cnt_congr {n : Nat} {p q : Nat → Bool} (h : ∀ k, k < n → p k = q k) : cnt n p = cnt n q := by
  induction n with
  | zero => rfl
  | succ n ih => rw [cnt_succ, cnt_succ, ih (fun k hk => h k (by omega)), h n (by omega)]
theorem cnt_le (n : Nat) (p : Nat → Bool) : cnt n p ≤ n := by
  induction n with
  | zero => simp [cnt_zero]
  | succ n ih => rw [cnt_succ]; split <;> omega
theorem cnt_or_and (n : Nat) (p q : Nat → Bool) : cnt n p + cnt n q = cnt n (fun k => p k || q k) + cnt n (fun k => p k && q k) := by
  induction n with
  | zero => rfl
  | succ n ih =>
    simp only [cnt_succ]
    cases hp : p n <;> cases hq : q n <;> simp <;> omega
theorem cnt_not (n : Nat) (p : Nat → Bool) : cnt n (fun k => !p k) + cnt n p = n := by
  induction n with
  | zero => rfl
  | succ n ih =>
    simp only [cnt_succ]
    cases hp : p n <;> simp <;> omega
theorem cnt_mono {n : Nat} {p q : Nat → Bool} (h : ∀ k, k < n → p k = true → q k = true) : cnt n p ≤ cnt n q := by
  induction n with
  | zero => exact Nat.le_refl _
  | succ n ih =>
    rw [cnt_succ, cnt_succ]
    have := ih fun k hk => h k (by omega)
    cases hp : p n with
    | false => simp; omega
    | true => rw [h n (by omega) hp]; omega
theorem cnt_out {n : Nat} {p : Nat → Bool} {k : Nat} (hk : k < n) (hp : p k = true) : cnt n p = cnt n (fun i => p i && decide (i ≠ k)) + 1 := by
  induction n with
  | zero => omega
  | succ n ih =>
    simp only [cnt_succ]
    by_cases h : k = n
    · subst h
      have : cnt k p = cnt k fun i => p i && decide (i ≠ k) := cnt_congr fun i hi => by
        have : i ≠ k := by omega
        simp [this]
      rw [this, hp]
      simp
    · rw [ih (by omega)]
      have : n ≠ k := by omega
      simp [this]
      omega
theorem cnt_none {n : Nat} {p : Nat → Bool} : cnt n p = 0 ↔ ∀ k, k < n → p k = false := by
  induction n with
  | zero => simp [cnt_zero]
  | succ n ih =>
    rw [cnt_succ]
    constructor
    · intro h k hk
      have h1 : cnt n p = 0 := by omega
      have h2 : ¬ p n = true := by intro h0; rw [if_pos h0] at h; omega
      by_cases e : k = n
      · subst e; simpa using h2
      · exact ih.1 h1 k (by omega)
    · intro h
      rw [ih.2 (fun k hk => h k (by omega)), h n (by omega)]
      rfl
theorem cnt_lt {n : Nat} {p q : Nat → Bool} {k : Nat} (h : ∀ i, i < n → p i = true → q i = true) (hk : k < n) (hq : q k = true) (hp : p k = false) : cnt n p < cnt n q := by
  rw [cnt_out hk hq]
  have : cnt n p ≤ cnt n (fun i => q i && decide (i ≠ k)) := cnt_mono fun i hi h1 => by
    have : i ≠ k := by rintro rfl; rw [hp] at h1; cases h1
    simp [h i hi h1, this]
  omega
theorem cnt_more {n m : Nat} {p : Nat → Bool} (hnm : n ≤ m) (h : ∀ k, n ≤ k → k < m → p k = false) : cnt m p = cnt n p := by
  obtain ⟨d, rfl⟩ : ∃ d, m = n + d := ⟨m - n, by omega⟩
  induction d with
  | zero => rfl
  | succ d ih =>
    rw [show n + (d + 1) = (n + d) + 1 from rfl, cnt_succ, ih (by omega) (fun k h1 h2 => h k h1 (by omega)), h (n + d) (by omega) (by omega)]
    simp

/-- How many there are. -/
def countN (m : Nat) : Nat := (bitsOf m).length
theorem countN_cnt (m : Nat) : countN m = cnt 64 fun i => m.testBit i := rfl
theorem countN_le (m : Nat) : countN m ≤ 64 := cnt_le _ _
theorem countN_sums (a b : Nat) : countN a + countN b = countN (a ||| b) + countN (a &&& b) := by
  simp only [countN_cnt, Nat.testBit_or, Nat.testBit_and]
  exact cnt_or_and 64 _ _
theorem testBit_not64 (a i : Nat) (ha : a < 2 ^ 64) (hi : i < 64) : (2 ^ 64 - 1 - a).testBit i = !a.testBit i := by
  have := Nat.testBit_two_pow_sub_succ ha i
  rw [show 2 ^ 64 - (a + 1) = 2 ^ 64 - 1 - a by omega] at this
  rw [this]
  simp [hi]
theorem countN_not (a : Nat) (ha : a < 2 ^ 64) : countN (2 ^ 64 - 1 - a) = 64 - countN a := by
  have h := cnt_not 64 fun i => a.testBit i
  have e : countN (2 ^ 64 - 1 - a) = cnt 64 fun i => !a.testBit i := cnt_congr fun k hk => testBit_not64 a k ha hk
  rw [e, countN_cnt]
  omega

/-! ### the greatest of some -/
def sup (n : Nat) (p : Nat → Bool) (f : Nat → Nat) : Nat := (List.range n).foldl (fun m b => if p b = true then max m (f b) else m) 0
theorem sup_succ (n : Nat) (p : Nat → Bool) (f : Nat → Nat) : sup (n + 1) p f = if p n = true then max (sup n p f) (f n) else sup n p f := by
  unfold sup
  rw [List.range_succ, List.foldl_append]
  rfl
theorem sup_le {n : Nat} {p : Nat → Bool} {f : Nat → Nat} {x : Nat} : sup n p f ≤ x ↔ ∀ b, b < n → p b = true → f b ≤ x := by
  induction n with
  | zero => simp [sup]
  | succ n ih =>
    rw [sup_succ]
    constructor
    · intro h b hb hp
      by_cases e : b = n
      · subst e; rw [if_pos hp] at h; omega
      · refine ih.1 ?_ b (by omega) hp
        split at h <;> omega
    · intro h
      have h1 := ih.2 fun b hb => h b (by omega)
      split
      · rename_i hp
        have := h n (by omega) hp
        omega
      · exact h1
theorem le_sup {n : Nat} {p : Nat → Bool} {f : Nat → Nat} {b : Nat} (hb : b < n) (hp : p b = true) : f b ≤ sup n p f := sup_le.1 (Nat.le_refl _) b hb hp
theorem sup_congr {n : Nat} {p q : Nat → Bool} {f g : Nat → Nat} (h : ∀ b, b < n → p b = q b ∧ (p b = true → f b = g b)) : sup n p f = sup n q g := by
  apply Nat.le_antisymm
  · refine sup_le.2 fun b hb hp => ?_
    rw [(h b hb).2 hp]
    exact le_sup hb ((h b hb).1 ▸ hp)
  · refine sup_le.2 fun b hb hq => ?_
    have hp : p b = true := (h b hb).1.symm ▸ hq
    rw [← (h b hb).2 hp]
    exact le_sup hb hp

/-! ### the height -/
def above (up : List Nat) (a b : Nat) : Bool := decide (a ≠ b) && le up a b
/-- The longest chain of at most f steps upward from a. -/
def hF (up : List Nat) : Nat → Nat → Nat
  | 0, _ => 0
  | f + 1, a => sup up.length (above up a) fun b => hF up f b + 1
def hgt (up : List Nat) (a : Nat) : Nat := hF up up.length a
def heightN (up : List Nat) : Nat := sup up.length (fun _ => true) (hgt up)

/-- How many stand at or above a level. -/
def cA (up : List Nat) (a : Nat) : Nat := countN (up.getD a 0)
theorem Ord.cA_lt {up : List Nat} (h : Ord up) {a b : Nat} (ha : a < up.length) (hab : above up a b = true) : cA up b < cA up a := by
  simp only [above, Bool.and_eq_true, decide_eq_true_eq] at hab
  have hb := h.bd a b ha hab.2
  refine cnt_lt (k := a) (fun i _ hi => h.tr a b i ha hb hab.2 hi) (by have := h.n64; omega) (h.rf a ha) ?_
  cases hl : (up.getD b 0).testBit a with
  | false => rfl
  | true => exact absurd (h.an a b ha hb hab.2 hl) hab.1
theorem Ord.cA_pos {up : List Nat} (h : Ord up) {a : Nat} (ha : a < up.length) : 1 ≤ cA up a := by
  show 1 ≤ countN _
  rw [countN_cnt, cnt_out (k := a) (by have := h.n64; omega) (show (up.getD a 0).testBit a = true from h.rf a ha)]
  omega
theorem Ord.cA_le {up : List Nat} (h : Ord up) {a : Nat} (ha : a < up.length) : cA up a ≤ up.length := by
  show countN _ ≤ _
  rw [countN_cnt, cnt_more h.n64 (fun k h1 h2 => by
    cases hl : (up.getD a 0).testBit k with
    | false => rfl
    | true => have := h.bd a k ha hl; omega)]
  exact cnt_le _ _
theorem Ord.hF_stable {up : List Nat} (h : Ord up) : ∀ (c : Nat) (a : Nat), a < up.length → cA up a ≤ c → ∀ f g, cA up a ≤ f → cA up a ≤ g → hF up f a = hF up g a
  | 0, a, ha, hc, _, _, _, _ => by have := h.cA_pos ha; omega
  | c + 1, a, ha, hc, f, g, hf, hg => by
    have hp := h.cA_pos ha
    obtain ⟨f, rfl⟩ : ∃ f', f = f' + 1 := ⟨f - 1, by omega⟩
    obtain ⟨g, rfl⟩ : ∃ g', g = g' + 1 := ⟨g - 1, by omega⟩
    show sup _ _ _ = sup _ _ _
    refine sup_congr fun b hb => ⟨rfl, fun hab => ?_⟩
    have hlt := h.cA_lt ha hab
    rw [h.hF_stable c b hb (by omega) f g (by omega) (by omega)]
theorem Ord.hgt_eq {up : List Nat} (h : Ord up) {a : Nat} (ha : a < up.length) : hgt up a = sup up.length (above up a) fun b => hgt up b + 1 := by
  have := h.cA_le ha
  exact h.hF_stable _ a ha (Nat.le_refl _) up.length (up.length + 1) this (by omega)
theorem hF_mono {up : List Nat} : ∀ (f a : Nat), hF up f a ≤ hF up (f + 1) a
  | 0, _ => Nat.zero_le _
  | f + 1, a => by
    show sup _ _ _ ≤ sup _ _ _
    refine sup_le.2 fun b hb hab => ?_
    exact Nat.le_trans (Nat.succ_le_succ (hF_mono f b)) (le_sup (f := fun b => hF up (f + 1) b + 1) hb hab)
theorem hgt_lt {up : List Nat} : ∀ (f a : Nat), hF up f a ≤ f
  | 0, _ => Nat.le_refl _
  | f + 1, a => by
    refine sup_le.2 fun b _ _ => ?_
    have := hgt_lt f b (up := up)
    omega

/-! ### covers -/
def isCover (up : List Nat) (a b : Nat) : Bool := decide (a ≠ b) && le up a b && (List.range up.length).all fun m => decide (m = a) || decide (m = b) || !le up a m || !le up m b
def coversAt (up : List Nat) (a : Nat) : List (Nat × Nat) := ((List.range up.length).filter (isCover up a)).map fun b => (a, b)
def coversL (up : List Nat) : List (Nat × Nat) := (List.range up.length).flatMap (coversAt up)
/-- .. as the program finds those above a. -/
def coversP (up : List Nat) (a : Nat) : List (Nat × Nat) := ((bitsOf (withoutN (up.getD a 0) a)).filter fun b => decide (countN (up.getD a 0 &&& (downs up).getD b 0) = 2)).map fun b => (a, b)

end Go.Idl
