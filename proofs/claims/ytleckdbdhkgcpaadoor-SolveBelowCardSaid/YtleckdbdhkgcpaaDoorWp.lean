/- Plain laws of the outright statements on systems. -/
import Derived.Test.YtleckdbdhkgcpaaDoorWk
namespace Go.Idl

section
variable {up : List Nat} {consts : List Lb} {needs : List (List Nat)}
/-- Needs that name the same values say the same. -/
theorem Sys.val_sets (S : Sys up consts needs) {needs' : List (List Nat)} (S' : Sys up consts needs') {l : List Lb} (hl : Lbs up consts.length l) {i : Nat} (hi : i < consts.length)
    (h : ∀ k, k ∈ needs.getD i [] ↔ k ∈ needs'.getD i []) : valF up consts needs l i = valF up consts needs' l i := by
  have g1 := S.val_gd hl hi
  have g2 := S'.val_gd hl hi
  have e : ∀ x, Gd up x → (leL up (valF up consts needs l i) x = true ↔ leL up (valF up consts needs' l i) x = true) := by
    intro x hx
    rw [S.val_le hl hi hx, S'.val_le hl hi hx]
    exact ⟨fun ⟨a, b⟩ => ⟨a, fun k hk => b k ((h k).2 hk)⟩, fun ⟨a, b⟩ => ⟨a, fun k hk => b k ((h k).1 hk)⟩⟩
  exact leL_antisymm S.lat g1 g2 ((e _ g2).2 (le_refl_of S.lat g2)) ((e _ g1).1 (le_refl_of S.lat g1))
/-- .. so they have the same least solution. -/
theorem Least.sets (S : Sys up consts needs) {needs' : List (List Nat)} (S' : Sys up consts needs') (h : ∀ i, i < consts.length → ∀ k, k ∈ needs.getD i [] ↔ k ∈ needs'.getD i [])
    {l m : List Lb} (hl : Least up consts needs l) (hm : Least up consts needs' m) : l = m := by
  refine hl.unique S ⟨hm.lbs, fun i hi => ?_, fun b hb => ?_⟩
  · rw [S.val_sets S' hm.lbs hi (h i hi)]; exact hm.sol i hi
  · refine hm.low b ⟨hb.1, fun i hi => ?_⟩
    rw [← S.val_sets S' hb.1 hi (h i hi)]
    exact hb.2 i hi
/-- With constants that are higher and needs that are more no value is lower. -/
theorem Least.grows (S : Sys up consts needs) {consts' : List Lb} {needs' : List (List Nat)} (S' : Sys up consts' needs') (hlen : consts'.length = consts.length)
    (hc : ∀ i, i < consts.length → leL up (consts.getD i z0) (consts'.getD i z0) = true) (hn : ∀ i, i < consts.length → ∀ k ∈ needs.getD i [], k ∈ needs'.getD i [])
    {l m : List Lb} (hl : Least up consts needs l) (hm : Least up consts' needs' m) : Under up consts.length l m := by
  have hmb : Lbs up consts.length m := hlen ▸ hm.lbs
  refine hl.low m ⟨hmb, fun i hi => ?_⟩
  have hi' : i < consts'.length := by omega
  have gm := hmb.gd i hi
  have hs := hm.sol i hi'
  have g2 := S'.val_gd hm.lbs hi'
  have h2 := (S'.val_le hm.lbs hi' gm).1 (by rw [hs]; exact le_refl_of S.lat gm)
  rw [S.val_le hmb hi gm]
  exact ⟨leL_trans S.lat (S.gd i hi) (S'.gd i hi') (hc i hi) h2.1, fun k hk => h2.2 k (hn i hi k hk)⟩
end

theorem joinL_eq_iff {up : List Nat} (h : Lat up) {a b : Lb} (ha : Gd up a) (hb : Gd up b) : joinL up a b = a ↔ leL up b a = true := by
  have hg := h.joinL_gd ha hb
  constructor
  · intro e
    have := le_joinL_right h ha hb
    rwa [e] at this
  · intro e
    exact leL_antisymm h hg ha ((leL_joinL h ha hb ha).2 ⟨le_refl_of h ha, e⟩) (le_joinL_left h ha hb)
/-- What stands above both is what stands above their join: so the table finds it. -/
theorem Lat.and_eq {up : List Nat} (h : Lat up) {a b k : Nat} (ha : a < up.length) (hb : b < up.length) (hk : k < up.length) : up.getD a 0 &&& up.getD b 0 = up.getD k 0 ↔ k = jn up a b := by
  have hj := h.jn_is ha hb
  have key : up.getD a 0 &&& up.getD b 0 = up.getD (jn up a b) 0 := by
    apply Nat.eq_of_testBit_eq
    intro m
    rw [Nat.testBit_and]
    show (le up a m && le up b m) = le up (jn up a b) m
    rw [Bool.eq_iff_iff, Bool.and_eq_true]
    constructor
    · rintro ⟨h1, h2⟩
      exact hj.least m (h.bd a m ha h1) h1 h2
    · intro h1
      exact ⟨h.tr _ _ _ ha hj.lt hj.l h1, h.tr _ _ _ hb hj.lt hj.r h1⟩
  constructor
  · intro e
    rw [key] at e
    have e1 : ∀ m, le up (jn up a b) m = le up k m := fun m => by
      show (up.getD (jn up a b) 0).testBit m = (up.getD k 0).testBit m
      rw [e]
    exact h.an _ _ hk hj.lt (by rw [← e1]; exact h.rf _ hj.lt |> fun _ => by rw [e1]; exact (e1 (jn up a b)) ▸ h.rf _ hj.lt) (by rw [e1]; exact h.rf _ hk)
  · rintro rfl
    exact key

/-! ### the queue that container/heap keeps: any of its steps leaves the same numbers -/
/-- Two places of a list changed for one another. -/
def swapL (l : List Int) (i j : Nat) : List Int := (l.set i (l.getD j 0)).set j (l.getD i 0)
theorem swapL_len (l : List Int) (i j : Nat) : (swapL l i j).length = l.length := by simp [swapL]
theorem swapL_getD (l : List Int) {i j : Nat} (hi : i < l.length) (hj : j < l.length) (k : Nat) : (swapL l i j).getD k 0 = if k = j then l.getD i 0 else if k = i then l.getD j 0 else l.getD k 0 := by
  unfold swapL
  rw [List.getD_eq_getElem?_getD, List.getElem?_set]
  by_cases hkj : j = k
  · subst hkj
    simp [hj]
  · rw [if_neg hkj, if_neg (fun e => hkj e.symm), List.getElem?_set]
    by_cases hki : i = k
    · subst hki
      simp [hi]
    · rw [if_neg hki, if_neg (fun e => hki e.symm), List.getD_eq_getElem?_getD]
theorem getD_app_left {a b : List Int} {k : Nat} (h : k < a.length) : (a ++ b).getD k 0 = a.getD k 0 := by
  rw [List.getD_eq_getElem?_getD, List.getD_eq_getElem?_getD, List.getElem?_append_left h]
theorem count_set (x v : Int) : ∀ (l : List Int) (i : Nat), i < l.length → (l.set i v).count x + (if l.getD i 0 = x then 1 else 0) = l.count x + (if v = x then 1 else 0)
  | a :: r, 0, _ => by
    rw [List.set_cons_zero, List.getD_cons_zero, List.count_cons, List.count_cons]
    simp only [beq_iff_eq]
    omega
  | a :: r, i + 1, h => by
    have := count_set x v r i (by simpa using h)
    rw [List.set_cons_succ, List.getD_cons_succ, List.count_cons, List.count_cons]
    omega
theorem swapL_perm (l : List Int) {i j : Nat} (hi : i < l.length) (hj : j < l.length) : (swapL l i j).Perm l := by
  rw [List.perm_iff_count]
  intro x
  unfold swapL
  have h1 := count_set x (l.getD j 0) l i hi
  have h2 := count_set x (l.getD i 0) (l.set i (l.getD j 0)) j (by simpa using hj)
  have h3 : (l.set i (l.getD j 0)).getD j 0 = l.getD j 0 := by
    rw [List.getD_eq_getElem?_getD, List.getElem?_set]
    by_cases e : i = j
    · subst e; simp [hi]
    · rw [if_neg e, List.getD_eq_getElem?_getD]
  rw [h3] at h2
  omega
end Go.Idl
