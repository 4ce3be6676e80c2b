/- Labels as values (the plain part of XSl). -/
import Derived.Lib.Hide
import Derived.Test.YtleckdbdhkgcpaaDoorMw
import Derived.Test.YtleckdbdhkgcpaaDoorSy
namespace Go.Idl
open Go Go.RowKit
set_option linter.unusedSimpArgs false
set_option linter.unusedVariables false
/-- Is a number no level of n? -/
def badI (n : Nat) (k : Int) : Bool := decide (k < 0) || decide ((n : Int) ≤ k)
theorem badI_good (up : List Nat) (k : Int) : badI up.length k = !goodB up k := by
  unfold badI goodB
  by_cases h1 : k < 0
  · rw [decide_eq_true h1, decide_eq_false (p := 0 ≤ k) (by omega)]; rfl
  · rw [decide_eq_false h1, decide_eq_true (show 0 ≤ k by omega)]
    by_cases h2 : (up.length : Int) ≤ k
    · rw [decide_eq_true h2, decide_eq_false (p := k < (up.length : Int)) (by omega)]; rfl
    · rw [decide_eq_false h2, decide_eq_true (show k < (up.length : Int) by omega)]; rfl
theorem any_bad (up : List Nat) (zs : List Int) : (!zs.any (badI up.length)) = zs.all (goodB up) := by
  induction zs with
  | nil => rfl
  | cons z r ih => rw [List.any_cons, List.all_cons, Bool.not_or, ih, badI_good]; simp
/-- Are all of some numbers levels of a lattice? -/
def levB (up : List Nat) (zs : List Int) : Bool := latB up && zs.all (goodB up)
def ints (zs : List Int) : List Value := zs.map (Value.int .i64)
theorem ints_at {zs : List Int} {j : Nat} (hj : j < zs.length) : (ints zs)[j]? = some (Value.int .i64 zs[j]) := by
  unfold ints
  rw [List.getElem?_map, List.getElem?_eq_getElem hj]
  rfl
/-- A label as a value, and as cells. -/
abbrev lbV (a : Lb) : Value := .agg #[.int .i64 a.lv, .int .u64 (a.ms : Nat)]
abbrev lbC (a : Lb) : Array Value := #[.int .i64 a.lv, .int .u64 (a.ms : Nat)]
def lbVals (l : List Lb) : List Value := l.flatMap fun a => [.int .i64 a.lv, .int .u64 (a.ms : Nat)]
theorem lbVals_len (l : List Lb) : (lbVals l).length = l.length * 2 := by
  induction l with
  | nil => rfl
  | cons p r ih =>
    unfold lbVals at ih ⊢
    rw [List.flatMap_cons, List.length_append, ih]
    simp
    omega
theorem lbVals_at : ∀ (l : List Lb) (t : Nat), t < l.length → (lbVals l)[t * 2]? = some (.int .i64 (l.getD t ⟨0, 0⟩).lv) ∧ (lbVals l)[t * 2 + 1]? = some (.int .u64 ((l.getD t ⟨0, 0⟩).ms : Nat))
  | [], t, h => by simp at h
  | q :: r, 0, h => ⟨rfl, rfl⟩
  | q :: r, t + 1, h => by
    have ih := lbVals_at r t (by simpa using h)
    have e : lbVals (q :: r) = .int .i64 q.lv :: .int .u64 (q.ms : Nat) :: lbVals r := rfl
    rw [e, show (t + 1) * 2 = t * 2 + 1 + 1 by omega, List.getD_cons_succ]
    exact ih
theorem lbVals_append (a b : List Lb) : lbVals (a ++ b) = lbVals a ++ lbVals b := by unfold lbVals; rw [List.flatMap_append]
theorem lbVals_one (l : List Lb) : ∀ u ∈ lbVals l, u.oneCell' = true := by
  intro u hu
  unfold lbVals at hu
  obtain ⟨p, _, h⟩ := List.mem_flatMap.1 hu
  simp only [List.mem_cons, List.not_mem_nil, or_false] at h
  rcases h with rfl | rfl <;> rfl
/-- The cells of one label of a list. -/
theorem reads_label {W : World} {A : Option Addr} {n : Nat} {l : List Lb} {k : Nat} (hl : l.length = n) (hr : Reads W W.heap.size 2 A n (lbVals l)) (hk : k < n) :
    ∃ ad, A = some ad ∧ ad.block < W.heap.size ∧ W.cell? (ad.add (k * 2)) = some (.int .i64 (l.getD k ⟨0, 0⟩).lv) ∧ W.cell? ⟨(ad.add (k * 2)).block, (ad.add (k * 2)).off + 1, none⟩ = some (.int .u64 ((l.getD k ⟨0, 0⟩).ms : Nat)) := by
  obtain ⟨ad, e, hb, hc⟩ := hr.2 (by omega)
  obtain ⟨h1, h2⟩ := lbVals_at l k (by omega)
  have h4 := hc _ _ h2
  rw [← add_of_add] at h4
  exact ⟨ad, e, hb, hc _ _ h1, h4⟩
theorem joinI_small (up : List Nat) (a b : Nat) (h : up.length ≤ 64) : -1 ≤ joinI up a b ∧ joinI up a b < 64 := by
  rcases firstI_cases up.length (isJoinB up a b) with ⟨k, hk, _, _, he⟩ | ⟨_, he⟩
  · unfold joinI; rw [he]; omega
  · unfold joinI; rw [he]; omega
/-- A pair of cells stored. -/
theorem pair_set {W : World} {g : Nat} {t : TypeId} {p q : Value} (h : Blk W g t #[p, q]) (x y : Value) : Blk ((W.setCell ⟨g, 0, none⟩ x).setCell ⟨g, 1, none⟩ y) g t #[x, y] := by
  have := (h.set_ 0 x).set_ 1 y
  simpa using this
theorem pair_cells {W : World} {g : Nat} {t : TypeId} {p q : Value} (h : Blk W g t #[p, q]) : W.cell? ⟨g, 0, none⟩ = some p ∧ W.cell? ⟨g, 1, none⟩ = some q := by
  have h0 := h.cell 0
  have h1 := h.cell 1
  exact ⟨h0, h1⟩
end Go.Idl
