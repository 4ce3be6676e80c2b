/- Plain laws of the reference's Close: rounds that take rows into rows till nothing turns. -/
import Derived.Test.YtaclogfchlphlaaDoorPb
import Derived.Test.YtaclogfchlphlaaDoorSo
namespace Go.Idl

/-- How much the rows lack. -/
def gapN (up : List Nat) : Nat := (up.map fun m => 64 - countN m).sum
theorem sum_set {f : Nat → Nat} : ∀ (l : List Nat) (i v : Nat), i < l.length → ((l.set i v).map f).sum + f (l.getD i 0) = (l.map f).sum + f v
  | [], i, v, h => by simp at h
  | x :: r, 0, v, _ => by simp; omega
  | x :: r, i + 1, v, h => by
    have := sum_set (f := f) r i v (by simpa using h)
    simp only [List.set_cons_succ, List.map_cons, List.sum_cons, List.getD_cons_succ]
    omega
theorem gap_lt {up : List Nat} (hM : Masks up) {i k : Nat} (hi : i < up.length) (hne : up.getD i 0 ||| up.getD k 0 ≠ up.getD i 0) : gapN (up.set i (up.getD i 0 ||| up.getD k 0)) < gapN up := by
  have h := sum_set (f := fun m => 64 - countN m) up i (up.getD i 0 ||| up.getD k 0) hi
  have h2 : countN (up.getD i 0) < countN (up.getD i 0 ||| up.getD k 0) := countN_lt (or64 (hM i) (hM k)) (fun j hj => by rw [Nat.testBit_or, hj]; rfl) (fun e => hne e.symm)
  have h3 := countN_le (up.getD i 0 ||| up.getD k 0)
  unfold gapN
  omega

/-- Are the rows up to (i, k) closed? -/
def closedTo (n : Nat) (up : List Nat) (i k : Nat) : Prop := ∀ a b, b < n → (a < i ∨ (a = i ∧ b < k)) → le up a b = true → up.getD a 0 ||| up.getD b 0 = up.getD a 0
theorem closedTo_start (n : Nat) (up : List Nat) : closedTo n up 0 0 := fun a b _ h => by omega
theorem closedTo_step {n : Nat} {up : List Nat} {i k : Nat} (h : closedTo n up i k) (hk : le up i k = true → up.getD i 0 ||| up.getD k 0 = up.getD i 0) : closedTo n up i (k + 1) := by
  intro a b hb hab hl
  by_cases e : a = i ∧ b = k
  · obtain ⟨rfl, rfl⟩ := e
    exact hk hl
  · exact h a b hb (by omega) hl
theorem closedTo_row {n : Nat} {up : List Nat} {i : Nat} (h : closedTo n up i n) : closedTo n up (i + 1) 0 := fun a b hb hab hl => h a b hb (by omega) hl

/-- What holds in a round: of the masks U at its start, and of up at row i, column k; 'again' tells whether anything has turned. -/
structure Round (n : Nat) (ps : List (Nat × Nat)) (U up : List Nat) (i k : Nat) (again : Bool) : Prop where
  bt : Between n ps up
  ms : Masks up
  le : gapN up ≤ gapN U
  yes : again = true → gapN up < gapN U
  no : again = false → closedTo n up i k
theorem Round.start {n : Nat} {ps : List (Nat × Nat)} {U : List Nat} (hb : Between n ps U) (hM : Masks U) : Round n ps U U 0 0 false := ⟨hb, hM, Nat.le_refl _, (fun h => by cases h), fun _ => closedTo_start n U⟩
theorem Round.row {n : Nat} {ps : List (Nat × Nat)} {U up : List Nat} {i : Nat} {g : Bool} (h : Round n ps U up i n g) : Round n ps U up (i + 1) 0 g := ⟨h.bt, h.ms, h.le, h.yes, fun e => closedTo_row (h.no e)⟩
theorem Round.skip {n : Nat} {ps : List (Nat × Nat)} {U up : List Nat} {i k : Nat} {g : Bool} (h : Round n ps U up i k g) (hk : Idl.le up i k = true → up.getD i 0 ||| up.getD k 0 = up.getD i 0) : Round n ps U up i (k + 1) g :=
  ⟨h.bt, h.ms, h.le, h.yes, fun e => closedTo_step (h.no e) hk⟩
theorem Round.take {n : Nat} {ps : List (Nat × Nat)} (hp : ∀ x ∈ ps, x.1 < n ∧ x.2 < n) {U up : List Nat} {i k : Nat} {g : Bool} (h : Round n ps U up i k g) (hi : i < n) (hl : Idl.le up i k = true) (hne : up.getD i 0 ||| up.getD k 0 ≠ up.getD i 0) :
    Round n ps U (up.set i (up.getD i 0 ||| up.getD k 0)) i (k + 1) true := by
  have hg := gap_lt h.ms (i := i) (k := k) (by rw [h.bt.len]; exact hi) hne
  have := h.le
  exact ⟨h.bt.or_ hp hi hl, h.ms.set _ _ (or64 (h.ms i) (h.ms k)), by omega, (fun _ => by omega), (fun e => by cases e)⟩
theorem Round.done {n : Nat} {ps : List (Nat × Nat)} (hp : ∀ x ∈ ps, x.1 < n ∧ x.2 < n) {U up : List Nat} (h : Round n ps U up n 0 false) : Made n ps up :=
  h.bt.made hp fun i k hi hk hl => h.no rfl i k hk (.inl hi) hl
end Go.Idl
