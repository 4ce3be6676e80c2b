/- Plain laws of the document's own loop over a system: pass after pass. -/
import Derived.Test.YtleckdbdhkgcpaaDoorWp
namespace Go.Idl

/-- What holds within a pass that began at l0. -/
structure Pass (up : List Nat) (consts : List Lb) (needs : List (List Nat)) (l0 l : List Lb) (j : Nat) (again : Bool) : Prop where
  tow : Toward up consts needs l
  ms : ∀ k, k < consts.length → (l.getD k z0).ms < 2 ^ 64
  same : again = false → l = l0 ∧ ∀ i, i < j → valF up consts needs l0 i = l0.getD i z0
  less : again = true → room up l < room up l0
  le : room up l ≤ room up l0

section
variable {up : List Nat} {consts : List Lb} {needs : List (List Nat)}
theorem Pass.start {l : List Lb} (h : Toward up consts needs l) (hm : ∀ k, k < consts.length → (l.getD k z0).ms < 2 ^ 64) : Pass up consts needs l l 0 false :=
  ⟨h, hm, fun _ => ⟨rfl, fun i hi => absurd hi (Nat.not_lt_zero i)⟩, fun h => (by cases h), Nat.le_refl _⟩
theorem Pass.keep {l0 l : List Lb} {j : Nat} {again : Bool} (h : Pass up consts needs l0 l j again) (hv : valF up consts needs l j = l.getD j z0) : Pass up consts needs l0 l (j + 1) again := by
  refine ⟨h.tow, h.ms, fun ha => ?_, h.less, h.le⟩
  obtain ⟨rfl, h2⟩ := h.same ha
  refine ⟨rfl, fun i hi => ?_⟩
  rcases Nat.lt_or_ge i j with h3 | h3
  · exact h2 i h3
  · obtain rfl : i = j := by omega
    exact hv
theorem Pass.change (S : Sys up consts needs) (hcm : ∀ k, k < consts.length → (consts.getD k z0).ms < 2 ^ 64) {l0 l : List Lb} {j : Nat} {again : Bool} (h : Pass up consts needs l0 l j again) (hj : j < consts.length) (hv : valF up consts needs l j ≠ l.getD j z0) :
    Pass up consts needs l0 (l.set j (valF up consts needs l j)) (j + 1) true := by
  have hjl : j < l.length := by rw [h.tow.lbs.len]; exact hj
  have hvm : (valF up consts needs l j).ms < 2 ^ 64 := valTo_ms _ _ (hcm j hj) fun k hk => h.ms k (S.nd j hj k hk)
  have hrk := S.lat.rk_lt (h.tow.lbs.gd j hj) (S.val_gd h.tow.lbs hj) hvm (h.tow.inf j hj) (fun e => hv e.symm)
  have hrl := rk_le up (valF up consts needs l j)
  have hsum := sum_set (fun a => heightN up + 64 - rk up a) l j (valF up consts needs l j) hjl
  have hroom : room up (l.set j (valF up consts needs l j)) < room up l := by
    unfold room
    omega
  have hle := h.le
  refine ⟨(h.tow.step S hj).1, fun k hk => ?_, fun h => (by cases h), fun _ => by omega, by omega⟩
  rw [getD_setL]
  split
  · exact hvm
  · exact h.ms k hk
theorem Pass.least {l0 l : List Lb} (h : Pass up consts needs l0 l consts.length false) : Least up consts needs l := by
  obtain ⟨rfl, h2⟩ := h.same rfl
  exact h.tow.least h2
end

/-- Two lists of labels held against each other, one by one. -/
def sameF (a b : List Lb) : Bool := decide (a = b)
theorem same_to {a b : List Lb} (hl : a.length = b.length) : a = b ↔ ∀ i, i < a.length → a.getD i z0 = b.getD i z0 :=
  ⟨fun h i _ => by rw [h], fun h => lb_ext hl h⟩
/-- How often a number stands in some needs: the document's count. -/
theorem times_snoc (needs : List (List Nat)) (ns : List Nat) (k : Nat) : timesF (needs ++ [ns]) k = timesF needs k + ns.count k := by
  unfold timesF
  rw [List.map_append, List.sum_append]
  simp
end Go.Idl
