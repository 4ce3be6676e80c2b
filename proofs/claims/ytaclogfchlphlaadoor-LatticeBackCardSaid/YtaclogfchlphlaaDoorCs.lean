/- lattice.Covers: which levels stand right above which. -/
import Derived.Test.YtaclogfchlphlaaDoorCv
namespace Go.Idl
/-- The pairs of the rows below i. -/
def covTo (up : List Nat) (i : Nat) : List (Nat × Nat) := (List.range i).flatMap (coversP up)
/-- .. and of row i those among pre. -/
def covIn (up : List Nat) (i : Nat) (pre : List Nat) : List (Nat × Nat) := (pre.filter fun b => decide (countN (up.getD i 0 &&& (downs up).getD b 0) = 2)).map fun b => (i, b)
theorem covTo_succ (up : List Nat) (i : Nat) : covTo up (i + 1) = covTo up i ++ covIn up i (bitsOf (withoutN (up.getD i 0) i)) := by
  unfold covTo
  rw [List.range_succ, List.flatMap_append]
  simp [coversP, covIn]
theorem covIn_snoc (up : List Nat) (i : Nat) (pre : List Nat) (x : Nat) : covIn up i (pre ++ [x]) = covIn up i pre ++ (if countN (up.getD i 0 &&& (downs up).getD x 0) = 2 then [(i, x)] else []) := by
  unfold covIn
  rw [List.filter_append, List.map_append]
  by_cases h : countN (up.getD i 0 &&& (downs up).getD x 0) = 2
  · rw [if_pos h, List.filter_cons_of_pos (by exact decide_eq_true h), List.filter_nil]
    rfl
  · rw [if_neg h, List.filter_cons_of_neg (by simpa using h), List.filter_nil]
    rfl
theorem Ord.covTo_all {up : List Nat} (h : Ord up) (hM : Masks up) : covTo up up.length = coversL up := by
  unfold covTo coversL
  have : ∀ l : List Nat, (∀ a ∈ l, a < up.length) → l.flatMap (coversP up) = l.flatMap (coversAt up) := by
    intro l
    induction l with
    | nil => intro _; rfl
    | cons a r ih =>
      intro hl
      rw [List.flatMap_cons, List.flatMap_cons, h.coversP_eq hM (hl a (by simp)), ih (fun x hx => hl x (by simp [hx]))]
  exact this _ fun a ha => List.mem_range.1 ha
theorem covIn_len (up : List Nat) (i : Nat) (pre : List Nat) : (covIn up i pre).length ≤ pre.length := by
  unfold covIn
  rw [List.length_map]
  exact List.length_filter_le _ _
theorem covTo_len (up : List Nat) : ∀ i, (covTo up i).length ≤ 64 * i
  | 0 => by simp [covTo]
  | i + 1 => by
    have h1 := covTo_len up i
    have h2 := covIn_len up i (bitsOf (withoutN (up.getD i 0) i))
    have h3 : (bitsOf (withoutN (up.getD i 0) i)).length ≤ 64 := countN_le _
    rw [covTo_succ, List.length_append]
    omega
/-- Pairs of levels as pairs of numbers. -/
def intP (ps : List (Nat × Nat)) : List (Int × Int) := ps.map fun p => ((p.1 : Int), (p.2 : Int))
theorem intP_len (ps : List (Nat × Nat)) : (intP ps).length = ps.length := by simp [intP]
theorem intP_append (a b : List (Nat × Nat)) : intP (a ++ b) = intP a ++ intP b := by simp [intP]
end Go.Idl
