/- Plain laws of the reference's Height: lists of lengths, raised in sweeps. -/
import Derived.Test.YtleckdbdhkgcpaaDoorPh
namespace Go.Idl

/-- Lengths after r sweeps. -/
structure Swept (up : List Nat) (r : Nat) (L : List Nat) : Prop where
  len : L.length = up.length
  lo : ∀ a, a < up.length → hF up r a ≤ L.getD a 0
  hi : ∀ a, a < up.length → L.getD a 0 ≤ hgt up a
/-- Within a sweep that began with L0: rows below a are through, of row a the first b. -/
structure Sweep (up L0 : List Nat) (a b : Nat) (L : List Nat) : Prop where
  len : L.length = up.length
  mono : ∀ x, x < up.length → L0.getD x 0 ≤ L.getD x 0
  hi : ∀ x, x < up.length → L.getD x 0 ≤ hgt up x
  rows : ∀ x, x < a → ∀ y, y < up.length → above up x y = true → L0.getD y 0 + 1 ≤ L.getD x 0
  row : ∀ y, y < b → above up a y = true → L0.getD y 0 + 1 ≤ L.getD a 0

theorem Swept.zero (up : List Nat) : Swept up 0 (List.replicate up.length 0) := by
  refine ⟨by simp, fun a _ => Nat.zero_le _, fun a ha => ?_⟩
  rw [List.getD_eq_getElem?_getD, List.getElem?_replicate]
  simp [ha]
theorem Swept.start {up : List Nat} {r : Nat} {L : List Nat} (h : Swept up r L) : Sweep up L 0 0 L := ⟨h.len, fun _ _ => Nat.le_refl _, h.hi, fun x hx => by omega, fun y hy => by omega⟩
theorem Sweep.next {up L0 : List Nat} {a : Nat} {L : List Nat} (h : Sweep up L0 a up.length L) : Sweep up L0 (a + 1) 0 L := by
  refine ⟨h.len, h.mono, h.hi, fun x hx y hy hxy => ?_, fun y hy => by omega⟩
  by_cases e : x = a
  · subst e; exact h.row y hy hxy
  · exact h.rows x (by omega) y hy hxy
theorem Sweep.keep {up L0 : List Nat} {a b : Nat} {L : List Nat} (h : Sweep up L0 a b L) (hb : b < up.length) (hk : above up a b = true → L.getD b 0 + 1 ≤ L.getD a 0) : Sweep up L0 a (b + 1) L := by
  refine ⟨h.len, h.mono, h.hi, h.rows, fun y hy hay => ?_⟩
  by_cases e : y = b
  · subst e
    have := h.mono y hb
    have := hk hay
    omega
  · exact h.row y (by omega) hay
theorem Sweep.raise {up L0 : List Nat} (hO : Ord up) {a b : Nat} {L : List Nat} (h : Sweep up L0 a b L) (ha : a < up.length) (hb : b < up.length) (hab : above up a b = true) (hlt : L.getD a 0 < L.getD b 0 + 1) :
    Sweep up L0 a (b + 1) (L.set a (L.getD b 0 + 1)) := by
  have hl := h.len
  have e1 : ∀ x, (L.set a (L.getD b 0 + 1)).getD x 0 = if a = x ∧ a < L.length then L.getD b 0 + 1 else L.getD x 0 := fun x => getD_set L a x _
  have e2 : (L.set a (L.getD b 0 + 1)).getD a 0 = L.getD b 0 + 1 := by rw [e1, if_pos ⟨rfl, by omega⟩]
  have e3 : ∀ x, x ≠ a → (L.set a (L.getD b 0 + 1)).getD x 0 = L.getD x 0 := fun x hx => by rw [e1, if_neg (fun h => hx h.1.symm)]
  have hle : ∀ x, L.getD x 0 ≤ (L.set a (L.getD b 0 + 1)).getD x 0 := by
    intro x
    by_cases e : x = a
    · subst e; rw [e2]; omega
    · rw [e3 x e]; exact Nat.le_refl _
  refine ⟨by rw [List.length_set]; exact hl, fun x hx => Nat.le_trans (h.mono x hx) (hle x), fun x hx => ?_, fun x hx y hy hxy => Nat.le_trans (h.rows x hx y hy hxy) (hle x), fun y hy hay => ?_⟩
  · by_cases e : x = a
    · subst e
      rw [e2, hO.hgt_eq hx]
      have h1 := h.hi b hb
      have h2 := le_sup (n := up.length) (f := fun b => hgt up b + 1) hb hab
      exact Nat.le_trans (by omega) h2
    · rw [e3 x e]; exact h.hi x hx
  · by_cases e : y = b
    · subst e
      rw [e2]
      have := h.mono y hb
      omega
    · exact Nat.le_trans (h.row y (by omega) hay) (hle a)
theorem Sweep.done {up L0 : List Nat} {r : Nat} (h0 : Swept up r L0) {L : List Nat} (h : Sweep up L0 up.length 0 L) : Swept up (r + 1) L := by
  refine ⟨h.len, fun a ha => ?_, h.hi⟩
  show sup _ _ _ ≤ _
  refine sup_le.2 fun b hb hab => ?_
  have h1 := h.rows a ha b hb hab
  have h2 := h0.lo b hb
  omega
theorem Swept.full {up L : List Nat} (h : Swept up up.length L) {a : Nat} (ha : a < up.length) : L.getD a 0 = hgt up a := Nat.le_antisymm (h.hi a ha) (h.lo a ha)
/-- The greatest of the first k. -/
theorem most_of {up L : List Nat} (h : Swept up up.length L) : sup up.length (fun _ => true) (fun a => L.getD a 0) = heightN up := sup_congr fun _ hb => ⟨rfl, fun _ => h.full hb⟩
end Go.Idl
