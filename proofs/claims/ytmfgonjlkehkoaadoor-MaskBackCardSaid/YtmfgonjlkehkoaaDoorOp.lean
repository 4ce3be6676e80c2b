/- Plain words of the set of a list's numbers. -/
import Derived.Test.YtmfgonjlkehkoaaDoorBi
namespace Go.Idl

def okI (i : Int) : Bool := decide (0 ≤ i) && decide (i < 64)
theorem okI_yes {i : Int} (h : okI i = true) : 0 ≤ i ∧ i < 64 := by unfold okI at h; simp at h; exact h
theorem okI_no {i : Int} (h : okI i = false) : i < 0 ∨ 64 ≤ i := by
  unfold okI at h
  rcases Int.lt_or_le i 0 with h0 | h0
  · exact .inl h0
  · simp [h0] at h; omega
def ofOk (l : List Int) : Bool := l.all okI
def ofN (l : List Int) : Nat := l.foldl (fun m i => withN m i) 0
/-- The set, or nothing. -/
def outN (l : List Int) : Nat := if ofOk l = true then ofN l else 0
theorem ofN_snoc (l : List Int) (k : Nat) (h : k < l.length) : ofN (l.take (k + 1)) = withN (ofN (l.take k)) (l.getD k 0) := by
  unfold ofN
  rw [List.take_succ_eq_append_getElem h, List.foldl_append]
  simp [List.getD, h]
theorem ofN_lt (l : List Int) : ofN l < 2 ^ 64 := by
  unfold ofN
  have : ∀ (l : List Int) (m : Nat), m < 2 ^ 64 → l.foldl (fun m i => withN m i) m < 2 ^ 64 := by
    intro l
    induction l with
    | nil => intro m h; exact h
    | cons i r ih => intro m h; exact ih _ (withN_lt m i h)
  exact this l 0 (by decide)
theorem ofOk_getD {l : List Int} (h : ofOk l = true) {k : Nat} (hk : k < l.length) : okI (l.getD k 0) = true := by
  unfold ofOk at h
  rw [List.all_eq_true] at h
  exact h _ (by simp [List.getD, hk])
/-- The first number that may not be. -/
theorem ofOk_first {l : List Int} (h : ofOk l = false) : ∃ k, k < l.length ∧ okI (l.getD k 0) = false ∧ ∀ j, j < k → okI (l.getD j 0) = true := by
  induction l with
  | nil => cases h
  | cons i r ih =>
    cases hi : okI i with
    | false => exact ⟨0, by simp, by simpa using hi, fun j hj => by omega⟩
    | true =>
      have hr : ofOk r = false := by unfold ofOk at h ⊢; simpa [hi] using h
      obtain ⟨k, h1, h2, h3⟩ := ih hr
      refine ⟨k + 1, by simp; omega, by simpa using h2, fun j hj => ?_⟩
      cases j with
      | zero => simpa using hi
      | succ j => simpa using h3 j (by omega)
end Go.Idl
