/- Plain laws of the turned masks, as they are made. -/
import Derived.Test.YtleckdbdhkgcpaaDoorWl
namespace Go.Idl

/-- The masks, as far as the first i levels have been gone through. -/
def dn (up : List Nat) (i : Nat) : List Nat := (List.range up.length).map fun k => maskOf i fun j => le up j k
/-- .. and the numbers in pre of level i. -/
def dnP (up : List Nat) (i : Nat) (pre : List Nat) : List Nat := (List.range up.length).map fun k => if k ∈ pre then withN (maskOf i fun j => le up j k) i else maskOf i fun j => le up j k
theorem dn_len (up : List Nat) (i : Nat) : (dn up i).length = up.length := by simp [dn]
theorem dnP_len (up : List Nat) (i : Nat) (pre : List Nat) : (dnP up i pre).length = up.length := by simp [dnP]
theorem dnP_nil (up : List Nat) (i : Nat) : dnP up i [] = dn up i := by simp [dnP, dn]
theorem dnP_getD (up : List Nat) (i : Nat) (pre : List Nat) (k : Nat) (hk : k < up.length) : (dnP up i pre).getD k 0 = if k ∈ pre then withN (maskOf i fun j => le up j k) i else maskOf i fun j => le up j k := by
  unfold dnP
  rw [List.getD_eq_getElem?_getD, List.getElem?_map, List.getElem?_range hk]
  rfl
theorem withN_twice (m : Nat) (i : Int) : withN (withN m i) i = withN m i := by
  unfold withN
  split
  · apply Nat.eq_of_testBit_eq
    intro j
    rw [testBit_or_bit, testBit_or_bit]
    cases m.testBit j <;> simp
  · rfl
theorem dnP_snoc (up : List Nat) (i : Nat) (pre : List Nat) (x : Nat) (hx : x < up.length) : (dnP up i pre).set x (withN ((dnP up i pre).getD x 0) i) = dnP up i (pre ++ [x]) := by
  apply getD_ext (by simp [dnP_len])
  intro k hk
  simp only [List.length_set, dnP_len] at hk
  rw [getD_set, dnP_getD up i (pre ++ [x]) k hk, dnP_getD up i pre x hx, dnP_getD up i pre k hk, dnP_len]
  by_cases e : x = k
  · subst e
    have hm : x ∈ pre ++ [x] := by simp
    rw [if_pos ⟨rfl, hx⟩, if_pos hm]
    by_cases hp : x ∈ pre
    · rw [if_pos hp, withN_twice]
    · rw [if_neg hp]
  · rw [if_neg (fun h => e h.1)]
    have : (k ∈ pre ++ [x]) = (k ∈ pre) := by
      simp only [List.mem_append, List.mem_singleton, eq_iff_iff, or_iff_left_iff_imp]
      exact fun h => absurd h.symm e
    simp only [this]
theorem dnP_full (up : List Nat) (i : Nat) (hi : i < 64) (h64 : up.length ≤ 64) : dnP up i (bitsOf (up.getD i 0)) = dn up (i + 1) := by
  apply getD_ext (by simp [dnP_len, dn_len])
  intro k hk
  rw [dnP_len] at hk
  rw [dnP_getD up i _ k hk]
  have e2 : (dn up (i + 1)).getD k 0 = maskOf (i + 1) fun j => le up j k := by
    unfold dn
    rw [List.getD_eq_getElem?_getD, List.getElem?_map, List.getElem?_range hk]
    rfl
  rw [e2, maskOf_succ]
  have e3 : (k ∈ bitsOf (up.getD i 0)) = (le up i k = true) := by
    rw [mem_bitsOf, eq_iff_iff]
    exact ⟨fun h => h.2, fun h => ⟨by omega, h⟩⟩
  simp only [e3]
  split
  · unfold withN
    rw [if_pos (by omega), Int.toNat_natCast]
  · rfl
theorem dn_zero (up : List Nat) : dn up 0 = List.replicate up.length 0 := by
  unfold dn
  apply List.ext_getElem (by simp)
  intro k h1 h2
  simp [maskOf]
theorem withN_lt64 (m : Nat) (i : Int) (h : m < 2 ^ 64) : withN m i < 2 ^ 64 := by
  unfold withN
  split
  · exact Nat.or_lt_two_pow h (Nat.pow_lt_pow_right (by omega) (by omega))
  · exact h
theorem dnP_lt (up : List Nat) (i : Nat) (hi : i ≤ 64) (pre : List Nat) (k : Nat) (hk : k < up.length) : (dnP up i pre).getD k 0 < 2 ^ 64 := by
  rw [dnP_getD up i pre k hk]
  split
  · exact withN_lt64 _ _ (maskOf_lt _ _ hi)
  · exact maskOf_lt _ _ hi
theorem dn_downs (up : List Nat) : dn up up.length = downs up := rfl

end Go.Idl
