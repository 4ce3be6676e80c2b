/- Plain laws of orders told by masks. -/
import Derived.Test.YtleckdbdhkgcpaaDoorMk
namespace Go.Idl

/-- A list's set of numbers below n at which p holds. -/
def maskOf (n : Nat) (p : Nat → Bool) : Nat := (List.range n).foldl (fun m i => if p i = true then m ||| 2 ^ i else m) 0

theorem maskOf_succ (n : Nat) (p : Nat → Bool) : maskOf (n + 1) p = if p n = true then maskOf n p ||| 2 ^ n else maskOf n p := by
  unfold maskOf
  rw [List.range_succ, List.foldl_append]
  rfl

theorem testBit_maskOf (n : Nat) (p : Nat → Bool) (j : Nat) : (maskOf n p).testBit j = (decide (j < n) && p j) := by
  induction n with
  | zero => simp [maskOf]
  | succ n ih =>
    rw [maskOf_succ]
    by_cases hp : p n = true
    · rw [if_pos hp, testBit_or_bit, ih]
      by_cases h : j = n
      · subst h; simp [hp]
      · have h1 : (n = j) = False := by simp; omega
        have h2 : (j < n + 1) = (j < n) := by simp; omega
        simp [h1, h2]
    · rw [if_neg hp, ih]
      by_cases h : j = n
      · subst h; simp [hp]
      · have h2 : (j < n + 1) = (j < n) := by simp; omega
        simp [h2]

theorem maskOf_lt (n : Nat) (p : Nat → Bool) (hn : n ≤ 64) : maskOf n p < 2 ^ 64 := by
  apply Nat.lt_pow_two_of_testBit
  intro i hi
  rw [testBit_maskOf]
  have : ¬ i < n := by omega
  simp [this]

/-- Does b stand at or above a? -/
def le (up : List Nat) (a b : Nat) : Bool := (up.getD a 0).testBit b
/-- Is a set within another one? -/
def subB (a b : Nat) : Bool := decide (a ||| b = b)

theorem subB_iff {a b : Nat} : subB a b = true ↔ ∀ i, a.testBit i = true → b.testBit i = true := by
  unfold subB
  rw [decide_eq_true_eq]
  constructor
  · intro h i hi
    have := congrArg (fun x => x.testBit i) h
    simp only [Nat.testBit_or, hi, Bool.true_or] at this
    exact this.symm
  · intro h
    apply Nat.eq_of_testBit_eq
    intro i
    rw [Nat.testBit_or]
    cases ha : a.testBit i with
    | false => simp
    | true => rw [h i ha]; rfl

/-- Of masks whose bits are levels. -/
def rowB (up : List Nat) (i : Nat) : Bool :=
  le up i i && (List.range 64).all fun k => !(le up i k) || (decide (k < up.length) && (k == i || !(le up k i)) && subB (up.getD k 0) (up.getD i 0))
/-- May an order be? -/
def ordB (up : List Nat) : Bool := decide (1 ≤ up.length) && decide (up.length ≤ 64) && (List.range up.length).all (rowB up)

def isJoinB (up : List Nat) (a b k : Nat) : Bool := le up a k && le up b k && (List.range up.length).all fun m => !le up a m || !le up b m || le up k m
def isMeetB (up : List Nat) (a b k : Nat) : Bool := le up k a && le up k b && (List.range up.length).all fun m => !le up m a || !le up m b || le up m k
/-- The first number below n at which p holds; -1: there is none. -/
def firstI (n : Nat) (p : Nat → Bool) : Int := match (List.range n).find? p with | some k => (k : Int) | none => -1
def joinI (up : List Nat) (a b : Nat) : Int := firstI up.length (isJoinB up a b)
def meetI (up : List Nat) (a b : Nat) : Int := firstI up.length (isMeetB up a b)
/-- Is it a lattice? -/
def latB (up : List Nat) : Bool := ordB up && (List.range up.length).all fun a => (List.range a).all fun b => decide (0 ≤ joinI up a b) && decide (0 ≤ meetI up a b)
def endI (up : List Nat) : Int := firstI up.length fun k => (List.range up.length).all fun m => le up k m
def farI (up : List Nat) : Int := firstI up.length fun k => (List.range up.length).all fun m => le up m k
/-- The least of a set, as the program looks for it. -/
def leastI (up : List Nat) (set : Nat) : Int := match (bitsOf set).find? (fun k => subB set (up.getD k 0)) with | some k => (k : Int) | none => -1
/-- The masks of those at or below each level. -/
def downs (up : List Nat) : List Nat := (List.range up.length).map fun k => maskOf up.length fun i => le up i k
def eachB (up : List Nat) : Bool := (List.range up.length).all fun a => (List.range a).all fun b => decide (0 ≤ leastI up (up.getD a 0 &&& up.getD b 0))

/-! ### first -/
theorem find_filter {α : Type} (p q : α → Bool) : ∀ l : List α, (l.filter p).find? q = l.find? fun x => p x && q x
  | [] => rfl
  | x :: r => by
    by_cases hp : p x = true
    · rw [List.filter_cons_of_pos hp]
      by_cases hq : q x = true
      · simp [List.find?, hp, hq]
      · simp [List.find?, hp, hq, find_filter p q r]
    · rw [List.filter_cons_of_neg hp]
      simp [List.find?, hp, find_filter p q r]

theorem firstI_congr {n : Nat} {p q : Nat → Bool} (h : ∀ k, k < n → p k = q k) : firstI n p = firstI n q := by
  unfold firstI
  have : (List.range n).find? p = (List.range n).find? q := by
    have : ∀ l : List Nat, (∀ k ∈ l, p k = q k) → l.find? p = l.find? q := by
      intro l
      induction l with
      | nil => intro _; rfl
      | cons x r ih =>
        intro hl
        rw [List.find?, List.find?, hl x (by simp), ih (fun k hk => hl k (by simp [hk]))]
    exact this _ fun k hk => h k (List.mem_range.1 hk)
  rw [this]

theorem firstI_more {n m : Nat} {p : Nat → Bool} (hnm : n ≤ m) (h : ∀ k, n ≤ k → k < m → p k = false) : firstI m p = firstI n p := by
  unfold firstI
  obtain ⟨d, rfl⟩ : ∃ d, m = n + d := ⟨m - n, by omega⟩
  rw [List.range_add, List.find?_append]
  have : ((List.range d).map (n + ·)).find? p = none := by
    rw [List.find?_eq_none]
    intro x hx
    obtain ⟨y, hy, rfl⟩ := List.mem_map.1 hx
    rw [h _ (by omega) (by have := List.mem_range.1 hy; omega)]
    simp
  rw [this]
  simp

theorem firstI_some {n : Nat} {p : Nat → Bool} {k : Nat} (hk : k < n) (hp : p k = true) (hb : ∀ i, i < k → p i = false) : firstI n p = k := by
  unfold firstI
  obtain ⟨d, rfl⟩ : ∃ d, n = k + (d + 1) := ⟨n - k - 1, by omega⟩
  rw [List.range_add, List.find?_append]
  have : (List.range k).find? p = none := by
    rw [List.find?_eq_none]
    intro x hx
    rw [hb x (List.mem_range.1 hx)]
    simp
  rw [this, List.range_succ_eq_map]
  simp [hp]

theorem firstI_none {n : Nat} {p : Nat → Bool} (hb : ∀ i, i < n → p i = false) : firstI n p = -1 := by
  unfold firstI
  have : (List.range n).find? p = none := by
    rw [List.find?_eq_none]
    intro x hx
    rw [hb x (List.mem_range.1 hx)]
    simp
  rw [this]

theorem firstI_cases (n : Nat) (p : Nat → Bool) : (∃ k, k < n ∧ p k = true ∧ (∀ i, i < k → p i = false) ∧ firstI n p = k) ∨ ((∀ i, i < n → p i = false) ∧ firstI n p = -1) := by
  by_cases h : ∃ k, k < n ∧ p k = true
  · obtain ⟨k, hk, hp⟩ := h
    have : ∀ N, N < n → p N = true → ∃ k, k < n ∧ p k = true ∧ ∀ i, i < k → p i = false := by
      intro N
      induction N using Nat.strongRecOn with
      | ind N ih =>
        intro hN hpN
        by_cases hex : ∃ i, i < N ∧ p i = true
        · obtain ⟨i, hi, hpi⟩ := hex
          exact ih i hi (by omega) hpi
        · refine ⟨N, hN, hpN, fun i hi => ?_⟩
          cases hpi : p i with
          | false => rfl
          | true => exact absurd ⟨i, hi, hpi⟩ hex
    obtain ⟨k, hk, hp, hb⟩ := this k hk hp
    exact .inl ⟨k, hk, hp, hb, firstI_some hk hp hb⟩
  · have hb : ∀ i, i < n → p i = false := fun i hi => by
      cases hpi : p i with
      | false => rfl
      | true => exact absurd ⟨i, hi, hpi⟩ h
    exact .inr ⟨hb, firstI_none hb⟩

theorem leastI_first (up : List Nat) (set : Nat) : leastI up set = firstI 64 fun k => set.testBit k && subB set (up.getD k 0) := by
  unfold leastI firstI bitsOf
  rw [find_filter]

/-! ### orders -/
/-- What an order says. -/
structure Ord (up : List Nat) : Prop where
  n1 : 1 ≤ up.length
  n64 : up.length ≤ 64
  bd : ∀ a b, a < up.length → le up a b = true → b < up.length
  rf : ∀ a, a < up.length → le up a a = true
  an : ∀ a b, a < up.length → b < up.length → le up a b = true → le up b a = true → a = b
  tr : ∀ a b c, a < up.length → b < up.length → le up a b = true → le up b c = true → le up a c = true

/-- Masks are numbers of 64 bits. -/
def Masks (up : List Nat) : Prop := ∀ a, up.getD a 0 < 2 ^ 64
theorem Masks.le64 {up : List Nat} (h : Masks up) {a b : Nat} (hl : le up a b = true) : b < 64 := tb_lt (h a) hl

theorem Ord.of {up : List Nat} (hm : Masks up) (h : ordB up = true) : Ord up := by
  simp only [ordB, Bool.and_eq_true, decide_eq_true_eq, List.all_eq_true, List.mem_range] at h
  obtain ⟨⟨h1, h2⟩, h3⟩ := h
  have row : ∀ i, i < up.length → le up i i = true ∧ ∀ k, k < 64 → le up i k = true → k < up.length ∧ (k = i ∨ le up k i = false) ∧ subB (up.getD k 0) (up.getD i 0) = true := by
    intro i hi
    have := h3 i hi
    simp only [rowB, Bool.and_eq_true, List.all_eq_true, List.mem_range, Bool.or_eq_true, Bool.not_eq_true', decide_eq_true_eq, beq_iff_eq] at this
    refine ⟨this.1, fun k hk hl => ?_⟩
    rcases this.2 k hk with h0 | h0
    · rw [hl] at h0; cases h0
    · exact ⟨h0.1.1, h0.1.2, h0.2⟩
  refine ⟨h1, h2, fun a b ha hl => ((row a ha).2 b (hm.le64 hl) hl).1, fun a ha => (row a ha).1, fun a b ha hb hab hba => ?_, fun a b c ha hb hab hbc => ?_⟩
  · rcases ((row a ha).2 b (by omega) hab).2.1 with h0 | h0
    · exact h0.symm
    · rw [hba] at h0; cases h0
  · exact subB_iff.1 ((row a ha).2 b (by omega) hab).2.2 c hbc

theorem Ord.mk_ {up : List Nat} (h : Ord up) : ordB up = true := by
  simp only [ordB, Bool.and_eq_true, decide_eq_true_eq, List.all_eq_true, List.mem_range]
  refine ⟨⟨h.n1, h.n64⟩, fun i hi => ?_⟩
  simp only [rowB, Bool.and_eq_true, List.all_eq_true, List.mem_range, Bool.or_eq_true, Bool.not_eq_true', decide_eq_true_eq, beq_iff_eq]
  refine ⟨h.rf i hi, fun k hk => ?_⟩
  cases hl : le up i k with
  | false => exact .inl rfl
  | true =>
    have hk' := h.bd i k hi hl
    refine .inr ⟨⟨hk', ?_⟩, subB_iff.2 fun j hj => h.tr i k j hi hk' hl hj⟩
    by_cases hki : k = i
    · exact .inl hki
    · refine .inr ?_
      cases hli : le up k i with
      | false => rfl
      | true => exact absurd (h.an i k hi hk' hl hli).symm hki

theorem ordB_iff {up : List Nat} (hm : Masks up) : ordB up = true ↔ Ord up := ⟨Ord.of hm, Ord.mk_⟩

theorem le_out {up : List Nat} {a b : Nat} (h : up.length ≤ a) : le up a b = false := by
  unfold le
  rw [List.getD_eq_getElem?_getD, List.getElem?_eq_none h]
  simp

/-! ### turned -/
theorem length_downs (up : List Nat) : (downs up).length = up.length := by simp [downs]
theorem getD_downs (up : List Nat) (k : Nat) (hk : k < up.length) : (downs up).getD k 0 = maskOf up.length fun i => le up i k := by
  unfold downs
  rw [List.getD_eq_getElem?_getD, List.getElem?_map, List.getElem?_range hk]
  rfl
theorem le_downs (up : List Nat) (a b : Nat) (ha : a < up.length) : le (downs up) a b = (decide (b < up.length) && le up b a) := by
  show ((downs up).getD a 0).testBit b = _
  rw [getD_downs _ _ ha, testBit_maskOf]
theorem le_downs' (up : List Nat) (a b : Nat) (ha : a < up.length) : le (downs up) a b = le up b a := by
  rw [le_downs _ _ _ ha]
  by_cases h : b < up.length
  · simp [h]
  · rw [le_out (by omega)]; simp
theorem Ord.turned {up : List Nat} (h : Ord up) : Ord (downs up) := by
  have e := length_downs up
  refine ⟨by rw [e]; exact h.n1, by rw [e]; exact h.n64, ?_, ?_, ?_, ?_⟩
  · rw [e]; intro a b ha hl
    rw [le_downs _ _ _ ha] at hl
    simp at hl
    exact hl.1
  · rw [e]; intro a ha; rw [le_downs' _ _ _ ha]; exact h.rf a ha
  · rw [e]; intro a b ha hb h1 h2
    rw [le_downs' _ _ _ ha] at h1
    rw [le_downs' _ _ _ hb] at h2
    exact h.an a b ha hb h2 h1
  · rw [e]; intro a b c ha hb h1 h2
    rw [le_downs' _ _ _ ha] at h1 ⊢
    rw [le_downs' _ _ _ hb] at h2
    by_cases hc : c < up.length
    · exact h.tr c b a hc hb h2 h1
    · rw [le_out (by omega)] at h2; cases h2

/-! ### joins and meets, as the program finds them -/
theorem Ord.least_join {up : List Nat} (h : Ord up) (a b : Nat) (ha : a < up.length) (_hb : b < up.length) : leastI up (up.getD a 0 &&& up.getD b 0) = joinI up a b := by
  rw [leastI_first]
  have h64 := h.n64
  rw [firstI_more h64 (fun k hk hk' => by
    have : (up.getD a 0).testBit k = false := by
      cases hl : (up.getD a 0).testBit k with
      | false => rfl
      | true => have := h.bd a k ha hl; omega
    rw [Nat.testBit_and, this]; rfl)]
  refine firstI_congr fun k hk => ?_
  rw [Nat.testBit_and]
  show (le up a k && le up b k && _) = isJoinB up a b k
  unfold isJoinB
  congr 1
  rw [Bool.eq_iff_iff, subB_iff]
  simp only [List.all_eq_true, List.mem_range, Bool.or_eq_true, Bool.not_eq_true']
  constructor
  · intro hs m _
    cases h1 : le up a m with
    | false => exact .inl (.inl rfl)
    | true =>
      cases h2 : le up b m with
      | false => exact .inl (.inr rfl)
      | true => exact .inr (hs m (by rw [Nat.testBit_and]; show (le up a m && le up b m) = true; rw [h1, h2]; rfl))
  · intro hs i hi
    rw [Nat.testBit_and, Bool.and_eq_true] at hi
    have hi1 : le up a i = true := hi.1
    have hi2 : le up b i = true := hi.2
    rcases hs i (h.bd a i ha hi1) with (h0 | h0) | h0
    · rw [hi1] at h0; cases h0
    · rw [hi2] at h0; cases h0
    · exact h0


theorem isJoin_downs {up : List Nat} (a b k : Nat) (ha : a < up.length) (hb : b < up.length) : isJoinB (downs up) a b k = (decide (k < up.length) && isMeetB up a b k) := by
  unfold isJoinB isMeetB
  rw [length_downs, le_downs _ _ _ ha, le_downs _ _ _ hb]
  by_cases hk : k < up.length
  · have : ((List.range up.length).all fun m => !le (downs up) a m || !le (downs up) b m || le (downs up) k m) = ((List.range up.length).all fun m => !le up m a || !le up m b || le up m k) := by
      rw [Bool.eq_iff_iff]
      simp only [List.all_eq_true, List.mem_range]
      constructor
      · intro h m hm
        have := h m hm
        rwa [le_downs' _ _ _ ha, le_downs' _ _ _ hb, le_downs' _ _ _ hk] at this
      · intro h m hm
        rw [le_downs' _ _ _ ha, le_downs' _ _ _ hb, le_downs' _ _ _ hk]
        exact h m hm
    rw [this]
    simp [hk]
  · simp [hk]

theorem joinI_downs {up : List Nat} (a b : Nat) (ha : a < up.length) (hb : b < up.length) : joinI (downs up) a b = meetI up a b := by
  unfold joinI meetI
  rw [length_downs]
  refine firstI_congr fun k hk => ?_
  rw [isJoin_downs a b k ha hb]
  simp [hk]

theorem Ord.least_meet {up : List Nat} (h : Ord up) (a b : Nat) (ha : a < up.length) (hb : b < up.length) : leastI (downs up) ((downs up).getD a 0 &&& (downs up).getD b 0) = meetI up a b := by
  rw [h.turned.least_join a b (by rw [length_downs]; exact ha) (by rw [length_downs]; exact hb), joinI_downs a b ha hb]

theorem all_range_congr {n : Nat} {p q : Nat → Bool} (h : ∀ k, k < n → p k = q k) : (List.range n).all p = (List.range n).all q := by
  rw [Bool.eq_iff_iff]
  simp only [List.all_eq_true, List.mem_range]
  exact ⟨fun h' k hk => (h k hk) ▸ h' k hk, fun h' k hk => (h k hk).symm ▸ h' k hk⟩

theorem all_and {n : Nat} (p q : Nat → Bool) : ((List.range n).all p && (List.range n).all q) = (List.range n).all fun k => p k && q k := by
  rw [Bool.eq_iff_iff]
  simp only [Bool.and_eq_true, List.all_eq_true, List.mem_range]
  exact ⟨fun h k hk => ⟨h.1 k hk, h.2 k hk⟩, fun h => ⟨fun k hk => (h k hk).1, fun k hk => (h k hk).2⟩⟩

/-- What the program asks is what the document asks. -/
theorem latB_prog {up : List Nat} (hm : Masks up) : (ordB up && (eachB up && eachB (downs up))) = latB up := by
  cases ho : ordB up with
  | false => simp [latB, ho]
  | true =>
    have h := Ord.of hm ho
    simp only [latB, ho, Bool.true_and]
    unfold eachB
    rw [length_downs, all_and]
    refine all_range_congr fun a ha => ?_
    rw [all_and]
    refine all_range_congr fun b hb => ?_
    rw [h.least_join a b ha (by omega), h.least_meet a b ha (by omega)]

/-! ### lattices -/
def jn (up : List Nat) (a b : Nat) : Nat := (joinI up a b).toNat
def mt (up : List Nat) (a b : Nat) : Nat := (meetI up a b).toNat

structure IsJoin (up : List Nat) (a b k : Nat) : Prop where
  lt : k < up.length
  l : le up a k = true
  r : le up b k = true
  least : ∀ m, m < up.length → le up a m = true → le up b m = true → le up k m = true
structure IsMeet (up : List Nat) (a b k : Nat) : Prop where
  lt : k < up.length
  l : le up k a = true
  r : le up k b = true
  most : ∀ m, m < up.length → le up m a = true → le up m b = true → le up m k = true

theorem isJoinB_iff {up : List Nat} {a b k : Nat} : k < up.length ∧ isJoinB up a b k = true ↔ IsJoin up a b k := by
  unfold isJoinB
  simp only [Bool.and_eq_true, List.all_eq_true, List.mem_range, Bool.or_eq_true, Bool.not_eq_true']
  constructor
  · rintro ⟨hk, ⟨h1, h2⟩, h3⟩
    refine ⟨hk, h1, h2, fun m hm ha hb => ?_⟩
    rcases h3 m hm with (h0 | h0) | h0
    · rw [ha] at h0; cases h0
    · rw [hb] at h0; cases h0
    · exact h0
  · rintro ⟨hk, h1, h2, h3⟩
    refine ⟨hk, ⟨h1, h2⟩, fun m hm => ?_⟩
    cases ha : le up a m with
    | false => exact .inl (.inl rfl)
    | true =>
      cases hb : le up b m with
      | false => exact .inl (.inr rfl)
      | true => exact .inr (h3 m hm ha hb)
theorem isMeetB_iff {up : List Nat} {a b k : Nat} : k < up.length ∧ isMeetB up a b k = true ↔ IsMeet up a b k := by
  unfold isMeetB
  simp only [Bool.and_eq_true, List.all_eq_true, List.mem_range, Bool.or_eq_true, Bool.not_eq_true']
  constructor
  · rintro ⟨hk, ⟨h1, h2⟩, h3⟩
    refine ⟨hk, h1, h2, fun m hm ha hb => ?_⟩
    rcases h3 m hm with (h0 | h0) | h0
    · rw [ha] at h0; cases h0
    · rw [hb] at h0; cases h0
    · exact h0
  · rintro ⟨hk, h1, h2, h3⟩
    refine ⟨hk, ⟨h1, h2⟩, fun m hm => ?_⟩
    cases ha : le up m a with
    | false => exact .inl (.inl rfl)
    | true =>
      cases hb : le up m b with
      | false => exact .inl (.inr rfl)
      | true => exact .inr (h3 m hm ha hb)

theorem Ord.join_unique {up : List Nat} (h : Ord up) {a b k k' : Nat} (h1 : IsJoin up a b k) (h2 : IsJoin up a b k') : k = k' :=
  h.an k k' h1.lt h2.lt (h1.least k' h2.lt h2.l h2.r) (h2.least k h1.lt h1.l h1.r)
theorem Ord.meet_unique {up : List Nat} (h : Ord up) {a b k k' : Nat} (h1 : IsMeet up a b k) (h2 : IsMeet up a b k') : k = k' :=
  h.an k k' h1.lt h2.lt (h2.most k h1.lt h1.l h1.r) (h1.most k' h2.lt h2.l h2.r)

theorem Ord.joinI_of {up : List Nat} (h : Ord up) {a b k : Nat} (hk : IsJoin up a b k) : joinI up a b = k := by
  rcases firstI_cases up.length (isJoinB up a b) with ⟨j, hj, hp, _, he⟩ | ⟨hn, _⟩
  · have := h.join_unique (isJoinB_iff.1 ⟨hj, hp⟩) hk
    subst this
    exact he
  · have := (isJoinB_iff.2 hk).2
    rw [hn k hk.lt] at this
    cases this
theorem Ord.meetI_of {up : List Nat} (h : Ord up) {a b k : Nat} (hk : IsMeet up a b k) : meetI up a b = k := by
  rcases firstI_cases up.length (isMeetB up a b) with ⟨j, hj, hp, _, he⟩ | ⟨hn, _⟩
  · have := h.meet_unique (isMeetB_iff.1 ⟨hj, hp⟩) hk
    subst this
    exact he
  · have := (isMeetB_iff.2 hk).2
    rw [hn k hk.lt] at this
    cases this
theorem joinI_is {up : List Nat} {a b : Nat} (h : 0 ≤ joinI up a b) : ∃ k, IsJoin up a b k ∧ joinI up a b = k := by
  rcases firstI_cases up.length (isJoinB up a b) with ⟨j, hj, hp, _, he⟩ | ⟨_, he⟩
  · exact ⟨j, isJoinB_iff.1 ⟨hj, hp⟩, he⟩
  · unfold joinI at h; rw [he] at h; omega
theorem meetI_is {up : List Nat} {a b : Nat} (h : 0 ≤ meetI up a b) : ∃ k, IsMeet up a b k ∧ meetI up a b = k := by
  rcases firstI_cases up.length (isMeetB up a b) with ⟨j, hj, hp, _, he⟩ | ⟨_, he⟩
  · exact ⟨j, isMeetB_iff.1 ⟨hj, hp⟩, he⟩
  · unfold meetI at h; rw [he] at h; omega

theorem IsJoin.symm {up : List Nat} {a b k : Nat} (h : IsJoin up a b k) : IsJoin up b a k := ⟨h.lt, h.r, h.l, fun m hm h1 h2 => h.least m hm h2 h1⟩
theorem IsMeet.symm {up : List Nat} {a b k : Nat} (h : IsMeet up a b k) : IsMeet up b a k := ⟨h.lt, h.r, h.l, fun m hm h1 h2 => h.most m hm h2 h1⟩

/-- A lattice. -/
structure Lat (up : List Nat) : Prop extends Ord up where
  jx : ∀ a b, a < up.length → b < up.length → ∃ k, IsJoin up a b k
  mx : ∀ a b, a < up.length → b < up.length → ∃ k, IsMeet up a b k

theorem Lat.of {up : List Nat} (hm : Masks up) (h : latB up = true) : Lat up := by
  simp only [latB, Bool.and_eq_true, List.all_eq_true, List.mem_range, decide_eq_true_eq] at h
  have ho := Ord.of hm h.1
  refine { toOrd := ho, jx := fun a b ha hb => ?_, mx := fun a b ha hb => ?_ }
  · rcases Nat.lt_trichotomy a b with hab | rfl | hab
    · obtain ⟨k, hk, _⟩ := joinI_is (h.2 b hb a hab).1
      exact ⟨k, hk.symm⟩
    · exact ⟨a, ha, ho.rf a ha, ho.rf a ha, fun m _ h1 _ => h1⟩
    · obtain ⟨k, hk, _⟩ := joinI_is (h.2 a ha b hab).1
      exact ⟨k, hk⟩
  · rcases Nat.lt_trichotomy a b with hab | rfl | hab
    · obtain ⟨k, hk, _⟩ := meetI_is (h.2 b hb a hab).2
      exact ⟨k, hk.symm⟩
    · exact ⟨a, ha, ho.rf a ha, ho.rf a ha, fun m _ h1 _ => h1⟩
    · obtain ⟨k, hk, _⟩ := meetI_is (h.2 a ha b hab).2
      exact ⟨k, hk⟩

theorem Lat.mk_ {up : List Nat} (h : Lat up) : latB up = true := by
  simp only [latB, Bool.and_eq_true, List.all_eq_true, List.mem_range, decide_eq_true_eq]
  refine ⟨h.toOrd.mk_, fun a ha b hb => ⟨?_, ?_⟩⟩
  · obtain ⟨k, hk⟩ := h.jx a b ha (by omega)
    rw [h.toOrd.joinI_of hk]; omega
  · obtain ⟨k, hk⟩ := h.mx a b ha (by omega)
    rw [h.toOrd.meetI_of hk]; omega

theorem Lat.jn_is {up : List Nat} (h : Lat up) {a b : Nat} (ha : a < up.length) (hb : b < up.length) : IsJoin up a b (jn up a b) := by
  obtain ⟨k, hk⟩ := h.jx a b ha hb
  have : jn up a b = k := by unfold jn; rw [h.toOrd.joinI_of hk]; rfl
  rw [this]; exact hk
theorem Lat.mt_is {up : List Nat} (h : Lat up) {a b : Nat} (ha : a < up.length) (hb : b < up.length) : IsMeet up a b (mt up a b) := by
  obtain ⟨k, hk⟩ := h.mx a b ha hb
  have : mt up a b = k := by unfold mt; rw [h.toOrd.meetI_of hk]; rfl
  rw [this]; exact hk
theorem Lat.joinI_eq {up : List Nat} (h : Lat up) {a b : Nat} (ha : a < up.length) (hb : b < up.length) : joinI up a b = (jn up a b : Int) := h.toOrd.joinI_of (h.jn_is ha hb)
theorem Lat.meetI_eq {up : List Nat} (h : Lat up) {a b : Nat} (ha : a < up.length) (hb : b < up.length) : meetI up a b = (mt up a b : Int) := h.toOrd.meetI_of (h.mt_is ha hb)

end Go.Idl
