/- Plain laws of lattice.Build: what it answers, and its masks as they are made. -/
import Derived.Test.YtleckdbdhkgcpaaDoorWl
namespace Go.Idl

/-- May the pair be one of n levels? -/
def pairOk (n : Int) (p : Int × Int) : Bool := decide (0 ≤ p.1) && (decide (p.1 < n) && (decide (0 ≤ p.2) && decide (p.2 < n)))
def natP (p : Int × Int) : Nat × Nat := (p.1.toNat, p.2.toNat)
def nOk (n : Int) : Bool := decide (1 ≤ n) && decide (n ≤ 64)
/-- The masks that n and pairs make. -/
def warsP (n : Nat) (ps : List (Int × Int)) : List Nat := wars n (base n (ps.map natP))
/-- What lattice.Build answers: 0, or why there is none. -/
def bldI (n : Int) (ps : List (Int × Int)) : Int := if nOk n = true ∧ ps.all (pairOk n) = true then (if latB (warsP n.toNat ps) = true then 0 else 11) else 1
def bldL (n : Int) (ps : List (Int × Int)) : List Nat := if bldI n ps = 0 then warsP n.toNat ps else []

/-- The masks of the levels alone, the first i of them. -/
def ones (n i : Nat) : List Nat := (List.range n).map fun j => if j < i then 2 ^ j else 0
theorem ones_len (n i : Nat) : (ones n i).length = n := by simp [ones]
theorem ones_getD (n i j : Nat) (hj : j < n) : (ones n i).getD j 0 = if j < i then 2 ^ j else 0 := by
  unfold ones
  rw [List.getD_eq_getElem?_getD, List.getElem?_map, List.getElem?_range hj]
  rfl
theorem ones_zero (n : Nat) : ones n 0 = List.replicate n 0 := by
  unfold ones
  apply List.ext_getElem (by simp)
  intro k h1 h2
  simp
theorem ones_snoc (n i : Nat) : (ones n i).set i (2 ^ i) = ones n (i + 1) := by
  apply getD_ext (by simp [ones_len])
  intro j hj
  simp only [List.length_set, ones_len] at hj
  rw [getD_set, ones_getD n i j hj, ones_getD n (i + 1) j hj, ones_len]
  by_cases e : i = j
  · subst e
    rw [if_pos ⟨rfl, hj⟩, if_pos (by omega)]
  · rw [if_neg (fun h => e h.1)]
    by_cases h : j < i
    · rw [if_pos h, if_pos (by omega)]
    · rw [if_neg h, if_neg (by omega)]
theorem ones_full (n : Nat) : ones n n = (List.range n).map fun i => 2 ^ i := by
  unfold ones
  apply List.map_congr_left
  intro i hi
  rw [if_pos (List.mem_range.1 hi)]

/-- The masks after some pairs. -/
def baseStep (up : List Nat) (p : Nat × Nat) : List Nat := up.set p.1 (up.getD p.1 0 ||| 2 ^ p.2)
theorem base_take (n : Nat) (ps : List (Nat × Nat)) (t : Nat) (p : Nat × Nat) (h : ps[t]? = some p) : base n (ps.take (t + 1)) = (base n (ps.take t)).set p.1 ((base n (ps.take t)).getD p.1 0 ||| 2 ^ p.2) := by
  have e : ps.take (t + 1) = ps.take t ++ [p] := by rw [List.take_add_one, h]; rfl
  rw [e]
  unfold base
  rw [List.foldl_append]
  rfl
theorem base_nil (n : Nat) : base n [] = ones n n := (ones_full n).symm
theorem base_len (n : Nat) (ps : List (Nat × Nat)) : (base n ps).length = n := by
  unfold base
  have : ∀ (ps : List (Nat × Nat)) (up : List Nat), (ps.foldl (fun up p => up.set p.1 (up.getD p.1 0 ||| 2 ^ p.2)) up).length = up.length := by
    intro ps
    induction ps with
    | nil => intro up; rfl
    | cons p r ih => intro up; rw [List.foldl_cons, ih]; simp
  rw [this]; simp
theorem or64 {a b : Nat} (ha : a < 2 ^ 64) (hb : b < 2 ^ 64) : a ||| b < 2 ^ 64 := Nat.or_lt_two_pow ha hb
theorem Masks.set {up : List Nat} (h : Masks up) (i v : Nat) (hv : v < 2 ^ 64) : Masks (up.set i v) := by
  intro j
  rw [getD_set]
  split
  · exact hv
  · exact h j
theorem masks_ones (n i : Nat) (hn : n ≤ 64) : Masks (ones n i) := by
  intro j
  by_cases hj : j < n
  · rw [ones_getD n i j hj]
    split
    · exact Nat.pow_lt_pow_right (by omega) (by omega)
    · decide
  · rw [List.getD_eq_getElem?_getD, List.getElem?_eq_none (by rw [ones_len]; omega)]
    decide
theorem withN_pow (m : Nat) (b : Nat) (hb : b < 64) : withN m (b : Int) = m ||| 2 ^ b := by
  unfold withN
  rw [if_pos (by omega), Int.toNat_natCast]
theorem withN_zero (b : Nat) (hb : b < 64) : withN 0 (b : Int) = 2 ^ b := by rw [withN_pow 0 b hb]; simp
theorem ws_masks {up : List Nat} (h : Masks up) (k i : Nat) : Masks (ws k up i) := by
  unfold ws
  split
  · exact h.set _ _ (or64 (h _) (h _))
  · exact h
end Go.Idl
