/- Plain laws of covers, and of what pairs make. -/
import Derived.Test.YtleckdbdhkgcpaaDoorCt
namespace Go.Idl

theorem filter_more {n m : Nat} {p : Nat → Bool} (hnm : n ≤ m) (h : ∀ k, n ≤ k → k < m → p k = false) : (List.range m).filter p = (List.range n).filter p := by
  obtain ⟨d, rfl⟩ : ∃ d, m = n + d := ⟨m - n, by omega⟩
  rw [List.range_add, List.filter_append]
  have : ((List.range d).map (n + ·)).filter p = [] := by
    rw [List.filter_eq_nil_iff]
    intro x hx
    obtain ⟨y, hy, rfl⟩ := List.mem_map.1 hx
    rw [h _ (by omega) (by have := List.mem_range.1 hy; omega)]
    simp
  rw [this, List.append_nil]

theorem filter_range_congr {n : Nat} {p q : Nat → Bool} (h : ∀ k, k < n → p k = q k) : (List.range n).filter p = (List.range n).filter q :=
  List.filter_congr fun x hx => h x (List.mem_range.1 hx)

theorem Ord.le_lt {up : List Nat} (h : Ord up) {a b : Nat} (hl : le up a b = true) : a < up.length ∧ b < up.length := by
  have ha : a < up.length := by
    rcases Nat.lt_or_ge a up.length with h0 | h0
    · exact h0
    · rw [le_out h0] at hl; cases hl
  exact ⟨ha, h.bd a b ha hl⟩

theorem Ord.two_between {up : List Nat} (h : Ord up) {a b : Nat} (hne : a ≠ b) (hab : le up a b = true) :
    decide (countN (up.getD a 0 &&& (downs up).getD b 0) = 2) = (List.range up.length).all fun m => decide (m = a) || decide (m = b) || !le up a m || !le up m b := by
  obtain ⟨ha, hb⟩ := h.le_lt hab
  have h64 := h.n64
  have hq : ∀ m, (up.getD a 0 &&& (downs up).getD b 0).testBit m = (le up a m && le up m b) := fun m => by
    rw [Nat.testBit_and]
    show (le up a m && le (downs up) b m) = _
    rw [le_downs' _ _ _ hb]
  have e1 : countN (up.getD a 0 &&& (downs up).getD b 0) = cnt 64 (fun m => (le up a m && le up m b) && decide (m ≠ a) && decide (m ≠ b)) + 1 + 1 := by
    rw [countN_cnt]
    have e0 : (cnt 64 fun i => (up.getD a 0 &&& (downs up).getD b 0).testBit i) = cnt 64 fun m => le up a m && le up m b := cnt_congr fun m _ => hq m
    rw [e0, cnt_out (k := a) (by omega) (by rw [h.rf a ha, hab]; rfl), cnt_out (k := b) (by omega) (by rw [hab, h.rf b hb]; simp; omega)]
  rw [e1, Bool.eq_iff_iff, decide_eq_true_eq]
  have e2 : (cnt 64 (fun m => (le up a m && le up m b) && decide (m ≠ a) && decide (m ≠ b)) + 1 + 1 = 2) ↔ (cnt 64 (fun m => (le up a m && le up m b) && decide (m ≠ a) && decide (m ≠ b)) = 0) := by omega
  rw [e2, cnt_none]
  simp only [List.all_eq_true, List.mem_range]
  constructor
  · intro hn m hm
    have := hn m (by omega)
    by_cases h1 : m = a
    · simp [h1]
    · by_cases h2 : m = b
      · simp [h2]
      · simp [h1, h2] at this
        cases hl : le up a m with
        | false => simp
        | true => simp [this hl]
  · intro hn m hm
    cases hl1 : le up a m with
    | false => simp
    | true =>
      cases hl2 : le up m b with
      | false => simp
      | true =>
        have := hn m (h.bd a m ha hl1)
        simp [hl1, hl2] at this
        rcases this with h0 | h0 <;> simp [h0]

theorem Ord.coversP_eq {up : List Nat} (h : Ord up) (hm : Masks up) {a : Nat} (ha : a < up.length) : coversP up a = coversAt up a := by
  have h64 := h.n64
  unfold coversP coversAt bitsOf
  congr 1
  rw [List.filter_filter]
  have e : ∀ k, (decide (countN (up.getD a 0 &&& (downs up).getD k 0) = 2) && (withoutN (up.getD a 0) a).testBit k) = isCover up a k := by
    intro k
    rw [testBit_withoutN _ _ _ (hm a) (by omega)]
    show (_ && (le up a k && _)) = _
    unfold isCover
    by_cases hk : k = a
    · subst hk; simp
    · have hk' : a ≠ k := fun e => hk e.symm
      cases hl : le up a k with
      | false => simp
      | true =>
        rw [h.two_between hk' hl]
        simp [hk, hk']
  rw [filter_range_congr (fun k _ => e k)]
  refine filter_more h64 fun k h1 _ => ?_
  unfold isCover
  cases hl : le up a k with
  | false => simp
  | true => have := h.bd a k ha hl; omega

theorem mem_coversL {up : List Nat} {a b : Nat} : (a, b) ∈ coversL up ↔ a < up.length ∧ b < up.length ∧ isCover up a b = true := by
  unfold coversL coversAt
  simp only [List.mem_flatMap, List.mem_range, List.mem_map, List.mem_filter, Prod.mk.injEq]
  constructor
  · rintro ⟨x, hx, y, ⟨hy, hc⟩, rfl, rfl⟩
    exact ⟨hx, hy, hc⟩
  · rintro ⟨ha, hb, hc⟩
    exact ⟨a, ha, b, ⟨hb, hc⟩, rfl, rfl⟩

theorem nodup_coversL (up : List Nat) : (coversL up).Nodup := by
  unfold coversL
  rw [List.Nodup, List.pairwise_flatMap]
  refine ⟨fun a _ => ?_, ?_⟩
  · unfold coversAt
    rw [List.pairwise_map]
    refine (List.nodup_range.filter _).imp fun h e => h ?_
    exact (Prod.mk.inj e).2
  · refine List.nodup_range.imp fun {a b} h x hx y hy e => h ?_
    unfold coversAt at hx hy
    obtain ⟨_, _, rfl⟩ := List.mem_map.1 hx
    obtain ⟨_, _, rfl⟩ := List.mem_map.1 hy
    exact (Prod.mk.inj e).1

/-! ### what pairs make -/
/-- One can go from a to b by the pairs. -/
inductive Way (ps : List (Nat × Nat)) : Nat → Nat → Prop
  | refl (a : Nat) : Way ps a a
  | step {a b c : Nat} (h : (a, b) ∈ ps) (h' : Way ps b c) : Way ps a c

theorem Way.one {ps : List (Nat × Nat)} {a b : Nat} (h : (a, b) ∈ ps) : Way ps a b := .step h (.refl b)
theorem Way.trans {ps : List (Nat × Nat)} {a b c : Nat} (h : Way ps a b) (k : Way ps b c) : Way ps a c := by
  induction h with
  | refl a => exact k
  | step h _ ih => exact .step h (ih k)
theorem Way.mono {ps qs : List (Nat × Nat)} (hs : ∀ x ∈ ps, x ∈ qs) {a b : Nat} (h : Way ps a b) : Way qs a b := by
  induction h with
  | refl a => exact .refl a
  | step h _ ih => exact .step (hs _ h) ih
theorem Way.lt {ps : List (Nat × Nat)} {n : Nat} (hp : ∀ x ∈ ps, x.1 < n ∧ x.2 < n) {a b : Nat} (h : Way ps a b) (ha : a < n) : b < n := by
  induction h with
  | refl a => exact ha
  | step h _ ih => exact ih (hp _ h).2

/-- THE MASKS THAT PAIRS MAKE. -/
structure Made (n : Nat) (ps : List (Nat × Nat)) (up : List Nat) : Prop where
  len : up.length = n
  iff_ : ∀ a b, a < n → (le up a b = true ↔ Way ps a b)

theorem getD_ext {xs ys : List Nat} (hl : xs.length = ys.length) (h : ∀ i, i < xs.length → xs.getD i 0 = ys.getD i 0) : xs = ys := by
  apply List.ext_getElem hl
  intro i h1 h2
  have := h i h1
  rw [List.getD_eq_getElem?_getD, List.getD_eq_getElem?_getD, List.getElem?_eq_getElem h1, List.getElem?_eq_getElem h2] at this
  exact this

theorem le_ext {xs ys : List Nat} (hl : xs.length = ys.length) (h : ∀ a b, a < xs.length → le xs a b = le ys a b) : xs = ys :=
  getD_ext hl fun i hi => Nat.eq_of_testBit_eq fun j => h i j hi

theorem Made.unique {n : Nat} {ps : List (Nat × Nat)} {xs ys : List Nat} (h : Made n ps xs) (k : Made n ps ys) : xs = ys :=
  le_ext (h.len.trans k.len.symm) fun a b ha => by
    rw [h.len] at ha
    rw [Bool.eq_iff_iff, h.iff_ a b ha, k.iff_ a b ha]

/-- The masks of the pairs alone. -/
def base (n : Nat) (ps : List (Nat × Nat)) : List Nat := ps.foldl (fun up p => up.set p.1 (up.getD p.1 0 ||| 2 ^ p.2)) ((List.range n).map fun i => 2 ^ i)

theorem getD_set (xs : List Nat) (i j v : Nat) : (xs.set i v).getD j 0 = if i = j ∧ i < xs.length then v else xs.getD j 0 := by
  rw [List.getD_eq_getElem?_getD, List.getD_eq_getElem?_getD, List.getElem?_set]
  by_cases h : i = j
  · subst h
    by_cases h2 : i < xs.length
    · simp [h2]
    · simp [h2]
  · simp [h]

theorem base_spec (n : Nat) : ∀ (ps : List (Nat × Nat)) (up : List Nat), up.length = n → (∀ x ∈ ps, x.1 < n) →
    (ps.foldl (fun up p => up.set p.1 (up.getD p.1 0 ||| 2 ^ p.2)) up).length = n ∧
    ∀ a b, le (ps.foldl (fun up p => up.set p.1 (up.getD p.1 0 ||| 2 ^ p.2)) up) a b = true ↔ le up a b = true ∨ (a, b) ∈ ps
  | [], up, hl, _ => ⟨hl, fun a b => by simp⟩
  | p :: r, up, hl, hp => by
    have ih := base_spec n r (up.set p.1 (up.getD p.1 0 ||| 2 ^ p.2)) (by rw [List.length_set]; exact hl) (fun x hx => hp x (by simp [hx]))
    refine ⟨ih.1, fun a b => ?_⟩
    rw [List.foldl_cons, ih.2 a b]
    have hp1 : p.1 < up.length := by rw [hl]; exact hp p (by simp)
    have e : le (up.set p.1 (up.getD p.1 0 ||| 2 ^ p.2)) a b = true ↔ le up a b = true ∨ (a, b) = p := by
      unfold le
      rw [getD_set]
      by_cases h : p.1 = a
      · subst h
        rw [if_pos ⟨rfl, hp1⟩, testBit_or_bit]
        simp only [Bool.or_eq_true, decide_eq_true_eq]
        constructor
        · rintro (h0 | h0)
          · exact .inl h0
          · exact .inr (by rw [← h0])
        · rintro (h0 | h0)
          · exact .inl h0
          · exact .inr (by rw [← h0])
      · rw [if_neg (fun h0 => h h0.1)]
        constructor
        · exact .inl
        · rintro (h0 | h0)
          · exact h0
          · exact absurd (by rw [← h0]) h
    rw [e]
    simp only [List.mem_cons]
    constructor
    · rintro ((h | h) | h)
      · exact .inl h
      · exact .inr (.inl h)
      · exact .inr (.inr h)
    · rintro (h | h | h)
      · exact .inl (.inl h)
      · exact .inl (.inr h)
      · exact .inr h

theorem le_start (n a b : Nat) (ha : a < n) : le ((List.range n).map fun i => 2 ^ i) a b = decide (a = b) := by
  unfold le
  rw [List.getD_eq_getElem?_getD, List.getElem?_map, List.getElem?_range ha]
  simp [Nat.testBit_two_pow]

/-- Of masks between the pairs' own and the ways, which are closed: they are what the pairs make. -/
theorem Made.of_closed {n : Nat} {ps : List (Nat × Nat)} {up : List Nat} (hl : up.length = n) (hps : ∀ x ∈ ps, x.1 < n ∧ x.2 < n) (hrf : ∀ a, a < n → le up a a = true)
    (hin : ∀ x ∈ ps, le up x.1 x.2 = true) (hway : ∀ a b, a < n → le up a b = true → Way ps a b) (hcl : ∀ a b c, a < n → b < n → le up a b = true → le up b c = true → le up a c = true) : Made n ps up := by
  refine ⟨hl, fun a b ha => ⟨hway a b ha, fun h => ?_⟩⟩
  induction h with
  | refl a => exact hrf a ha
  | step h _ ih => exact hcl _ _ _ ha (hps _ h).2 (hin _ h) (ih (hps _ h).2)

end Go.Idl
