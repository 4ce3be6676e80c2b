/- Plain laws of lattice.Height: the heights as they are made. -/
import Derived.Test.YtleckdbdhkgcpaaDoorPb
import Derived.Test.YtleckdbdhkgcpaaDoorCt
namespace Go.Idl

/-- A level that has been gone through: fewer than n stand above it, or n and its number is less than i. -/
def gone (up : List Nat) (n i a : Nat) : Bool := decide (cA up a < n) || (decide (cA up a = n) && decide (a < i))
/-- The heights so far. -/
def hgts (up : List Nat) (n i : Nat) : List Nat := (List.range up.length).map fun a => if gone up n i a = true then hgt up a else 0
/-- .. and the greatest of them. -/
def mostH (up : List Nat) (n i : Nat) : Nat := sup up.length (gone up n i) (hgt up)
/-- What a level's height is after some levels above it. -/
def upTo (up : List Nat) (pre : List Nat) : Nat := pre.foldl (fun m k => max m (hgt up k + 1)) 0

theorem hgts_len (up : List Nat) (n i : Nat) : (hgts up n i).length = up.length := by simp [hgts]
theorem hgts_getD (up : List Nat) (n i a : Nat) (ha : a < up.length) : (hgts up n i).getD a 0 = if gone up n i a = true then hgt up a else 0 := by
  unfold hgts
  rw [List.getD_eq_getElem?_getD, List.getElem?_map, List.getElem?_range ha]
  rfl
theorem Ord.hgts_start {up : List Nat} (h : Ord up) : hgts up 1 0 = List.replicate up.length 0 := by
  unfold hgts
  apply List.ext_getElem (by simp)
  intro k h1 h2
  have hk : k < up.length := by simpa using h1
  have := h.cA_pos hk
  simp [gone]
  intro h0
  omega
theorem Ord.most_start {up : List Nat} (h : Ord up) : mostH up 1 0 = 0 := by
  apply Nat.le_antisymm _ (Nat.zero_le _)
  refine sup_le.2 fun b hb hg => ?_
  have := h.cA_pos hb
  simp [gone] at hg
  omega
theorem gone_skip (up : List Nat) (n i : Nat) (h : cA up i ≠ n) (a : Nat) : gone up n (i + 1) a = gone up n i a := by
  unfold gone
  rw [Bool.eq_iff_iff]
  simp only [Bool.or_eq_true, Bool.and_eq_true, decide_eq_true_eq]
  constructor
  · rintro (h0 | ⟨h0, h1⟩)
    · exact .inl h0
    · refine .inr ⟨h0, ?_⟩
      by_cases e : a = i
      · subst e; exact absurd h0 h
      · omega
  · rintro (h0 | ⟨h0, h1⟩)
    · exact .inl h0
    · exact .inr ⟨h0, by omega⟩
theorem hgts_skip (up : List Nat) (n i : Nat) (h : cA up i ≠ n) : hgts up n (i + 1) = hgts up n i := by
  unfold hgts
  simp only [gone_skip up n i h]
theorem most_skip (up : List Nat) (n i : Nat) (h : cA up i ≠ n) : mostH up n (i + 1) = mostH up n i := sup_congr fun b _ => ⟨gone_skip up n i h b, fun _ => rfl⟩
theorem gone_next (up : List Nat) (n a : Nat) (ha : a < up.length) : gone up n up.length a = gone up (n + 1) 0 a := by
  unfold gone
  rw [Bool.eq_iff_iff]
  simp only [Bool.or_eq_true, Bool.and_eq_true, decide_eq_true_eq]
  omega
theorem hgts_next (up : List Nat) (n : Nat) : hgts up n up.length = hgts up (n + 1) 0 := by
  apply getD_ext (by simp [hgts_len])
  intro a ha
  rw [hgts_len] at ha
  rw [hgts_getD up n _ a ha, hgts_getD up (n + 1) 0 a ha, gone_next up n a ha]
theorem most_next (up : List Nat) (n : Nat) : mostH up n up.length = mostH up (n + 1) 0 := sup_congr fun b hb => ⟨gone_next up n b hb, fun _ => rfl⟩
theorem Ord.most_end {up : List Nat} (h : Ord up) : mostH up (up.length + 1) 0 = heightN up := sup_congr fun b hb => ⟨by
  have := h.cA_le hb
  unfold gone
  rw [show decide (cA up b < up.length + 1) = true by simp; omega]
  rfl, fun _ => rfl⟩
theorem hgts_take (up : List Nat) (n i : Nat) (hi : i < up.length) (h : cA up i = n) : (hgts up n i).set i (hgt up i) = hgts up n (i + 1) := by
  apply getD_ext (by simp [hgts_len])
  intro a ha
  simp only [List.length_set, hgts_len] at ha
  rw [getD_set, hgts_getD up n i a ha, hgts_getD up n (i + 1) a ha, hgts_len]
  by_cases e : i = a
  · subst e
    have : gone up n (i + 1) i = true := by unfold gone; simp [h]
    rw [if_pos ⟨rfl, hi⟩, if_pos this]
  · rw [if_neg (fun h => e h.1)]
    have : gone up n (i + 1) a = gone up n i a := by
      unfold gone
      rw [show decide (a < i + 1) = decide (a < i) by rw [decide_eq_decide]; omega]
    rw [this]
theorem most_take (up : List Nat) (n i : Nat) (hi : i < up.length) (h : cA up i = n) : mostH up n (i + 1) = max (mostH up n i) (hgt up i) := by
  apply Nat.le_antisymm
  · refine sup_le.2 fun b hb hg => ?_
    by_cases e : b = i
    · subst e; omega
    · have hg' : gone up n i b = true := by
        unfold gone at hg ⊢
        rw [Bool.or_eq_true, Bool.and_eq_true, decide_eq_true_eq, decide_eq_true_eq, decide_eq_true_eq] at hg ⊢
        omega
      have : hgt up b ≤ mostH up n i := le_sup (f := hgt up) hb hg'
      omega
  · refine Nat.max_le.2 ⟨sup_le.2 fun b hb hg => ?_, ?_⟩
    · have hg' : gone up n (i + 1) b = true := by
        unfold gone at hg ⊢
        rw [Bool.or_eq_true, Bool.and_eq_true, decide_eq_true_eq, decide_eq_true_eq, decide_eq_true_eq] at hg ⊢
        omega
      exact le_sup (f := hgt up) hb hg'
    · exact le_sup (f := hgt up) hi (by unfold gone; simp [h])
theorem hgts_set0 (up : List Nat) (n i : Nat) (hi : i < up.length) (h : cA up i = n) : (hgts up n i).set i 0 = hgts up n i := by
  apply getD_ext (by simp)
  intro a ha
  simp only [List.length_set, hgts_len] at ha
  rw [getD_set, hgts_len]
  by_cases e : i = a
  · subst e
    rw [if_pos ⟨rfl, hi⟩, hgts_getD up n i i hi]
    have : gone up n i i = false := by unfold gone; simp [h]
    rw [this]
    rfl
  · rw [if_neg (fun h => e h.1)]
theorem Ord.hgts_other {up : List Nat} (h : Ord up) {n i x v : Nat} (hi : i < up.length) (hx : x < up.length) (hc : cA up i = n) (ha : above up i x = true) : ((hgts up n i).set i v).getD x 0 = hgt up x := by
  have hne : i ≠ x := by
    unfold above at ha
    rw [Bool.and_eq_true, decide_eq_true_eq] at ha
    exact ha.1
  rw [getD_set, if_neg (fun h => hne h.1), hgts_getD up n i x hx]
  have hlt := h.cA_lt hi ha
  have : gone up n i x = true := by
    unfold gone
    rw [decide_eq_true (show cA up x < n by omega)]
    rfl
  rw [if_pos this]
theorem hgt_le (up : List Nat) (a : Nat) : hgt up a ≤ up.length := hgt_lt _ _
theorem most_le (up : List Nat) (n i : Nat) : mostH up n i ≤ up.length := sup_le.2 fun b _ _ => hgt_le up b

theorem upTo_snoc (up : List Nat) (pre : List Nat) (x : Nat) : upTo up (pre ++ [x]) = max (upTo up pre) (hgt up x + 1) := by
  unfold upTo
  rw [List.foldl_append]
  rfl
theorem upTo_le (up : List Nat) (l : List Nat) (x : Nat) : upTo up l ≤ x ↔ ∀ k ∈ l, hgt up k + 1 ≤ x := by
  unfold upTo
  have : ∀ (l : List Nat) (m : Nat), l.foldl (fun m k => max m (hgt up k + 1)) m ≤ x ↔ m ≤ x ∧ ∀ k ∈ l, hgt up k + 1 ≤ x := by
    intro l
    induction l with
    | nil => intro m; simp
    | cons k r ih =>
      intro m
      rw [List.foldl_cons, ih]
      simp only [List.mem_cons, forall_eq_or_imp, Nat.max_le, and_assoc]
  rw [this]
  simp
theorem mem_others {up : List Nat} (hM : Masks up) {i : Nat} (hi : i < 64) {k : Nat} : k ∈ bitsOf (withoutN (up.getD i 0) i) ↔ k < 64 ∧ above up i k = true := by
  rw [mem_bitsOf]
  by_cases hk : k < 64
  · rw [testBit_withoutN _ _ _ (hM i) hi]
    unfold above le
    simp only [Bool.and_eq_true, decide_eq_true_eq]
    exact ⟨fun ⟨h1, h2, h3⟩ => ⟨h1, fun e => h3 e.symm, h2⟩, fun ⟨h1, h2, h3⟩ => ⟨h1, h3, fun e => h2 e.symm⟩⟩
  · exact ⟨fun h => absurd h.1 hk, fun h => absurd h.1 hk⟩
theorem Ord.upTo_full {up : List Nat} (h : Ord up) (hM : Masks up) {i : Nat} (hi : i < up.length) : upTo up (bitsOf (withoutN (up.getD i 0) i)) = hgt up i := by
  have h64 := h.n64
  rw [h.hgt_eq hi]
  apply Nat.le_antisymm
  · refine (upTo_le _ _ _).2 fun k hk => ?_
    have h1 := ((mem_others hM (by omega)).1 hk).2
    have hkn : k < up.length := by
      unfold above at h1
      rw [Bool.and_eq_true] at h1
      exact h.bd i k hi h1.2
    exact le_sup (f := fun b => hgt up b + 1) hkn h1
  · refine sup_le.2 fun b hb hg => ?_
    exact (upTo_le _ _ _).1 (Nat.le_refl _) b ((mem_others hM (by omega)).2 ⟨by omega, hg⟩)
theorem upTo_small (up : List Nat) (l : List Nat) : upTo up l ≤ up.length + 1 := (upTo_le _ _ _).2 fun k _ => by have := hgt_le up k; omega
end Go.Idl
