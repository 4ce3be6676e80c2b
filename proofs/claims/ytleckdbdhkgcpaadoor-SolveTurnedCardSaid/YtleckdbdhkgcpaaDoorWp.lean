/- Plain laws of a list of equations that wait: what it comes to, and in how many looks. Plain laws of the outright statements on systems. Plain laws of the document's own loop over a system: pass after pass. -/
import Derived.Test.YtleckdbdhkgcpaaDoorSo
namespace Go.Idl

/-- How often a value is needed; by whom; and the most of that. -/
def timesF (needs : List (List Nat)) (k : Nat) : Nat := (needs.map fun ns => ns.count k).sum
def usersF (needs : List (List Nat)) (k : Nat) : List Nat := (List.range needs.length).flatMap fun i => List.replicate ((needs.getD i []).count k) i
def fanF (needs : List (List Nat)) : Nat := (List.range needs.length).foldl (fun m v => max m (timesF needs v)) 0

theorem foldl_max_le (f : Nat → Nat) : ∀ (L : List Nat) (m : Nat), m ≤ L.foldl (fun m v => max m (f v)) m ∧ ∀ v ∈ L, f v ≤ L.foldl (fun m v => max m (f v)) m
  | [], m => ⟨Nat.le_refl _, fun v h => by cases h⟩
  | x :: r, m => by
    have ih := foldl_max_le f r (max m (f x))
    rw [List.foldl_cons]
    refine ⟨by omega, fun v hv => ?_⟩
    rcases List.mem_cons.1 hv with rfl | h
    · omega
    · exact ih.2 v h
theorem times_le_fan {needs : List (List Nat)} {k : Nat} (hk : k < needs.length) : timesF needs k ≤ fanF needs := (foldl_max_le (timesF needs) _ 0).2 k (List.mem_range.2 hk)
theorem range_sum : ∀ (needs : List (List Nat)) (k : Nat), ((List.range needs.length).map fun i => (needs.getD i []).count k).sum = timesF needs k
  | [], k => rfl
  | ns :: r, k => by
    unfold timesF
    rw [List.length_cons, List.range_succ_eq_map, List.map_cons, List.map_map, List.sum_cons, List.map_cons, List.sum_cons]
    have := range_sum r k
    unfold timesF at this
    rw [← this]
    rfl
theorem users_len (needs : List (List Nat)) (k : Nat) : (usersF needs k).length = timesF needs k := by
  unfold usersF
  rw [List.length_flatMap, ← range_sum]
  congr 1
  apply List.map_congr_left
  intro i _
  exact List.length_replicate
theorem mem_users {needs : List (List Nat)} {k j : Nat} : j ∈ usersF needs k ↔ j < needs.length ∧ k ∈ needs.getD j [] := by
  unfold usersF
  rw [List.mem_flatMap]
  constructor
  · rintro ⟨i, hi, hj⟩
    obtain ⟨hne, rfl⟩ := List.mem_replicate.1 hj
    exact ⟨List.mem_range.1 hi, List.count_pos_iff.1 (by omega)⟩
  · rintro ⟨h1, h2⟩
    exact ⟨j, List.mem_range.2 h1, List.mem_replicate.2 ⟨by have := List.count_pos_iff.2 h2; omega, rfl⟩⟩

/-- One more that waits, if it does not yet. -/
def putW (W : List Nat) (i : Nat) : List Nat := if i ∈ W then W else W ++ [i]
theorem putW_all : ∀ (U W : List Nat), W.Nodup → (U.foldl putW W).Nodup ∧ (∀ j, j ∈ U.foldl putW W ↔ j ∈ W ∨ j ∈ U) ∧ (U.foldl putW W).length ≤ W.length + U.length ∧ W.length ≤ (U.foldl putW W).length
  | [], W, h => ⟨h, fun j => by simp, Nat.le_refl _, Nat.le_refl _⟩
  | u :: r, W, h => by
    have hp : (putW W u).Nodup ∧ (∀ j, j ∈ putW W u ↔ j ∈ W ∨ j = u) ∧ (putW W u).length ≤ W.length + 1 ∧ W.length ≤ (putW W u).length := by
      unfold putW
      split
      · rename_i hm
        exact ⟨h, fun j => ⟨.inl, fun h => h.elim id (fun e => e ▸ hm)⟩, by omega, Nat.le_refl _⟩
      · rename_i hm
        refine ⟨List.nodup_append.2 ⟨h, by simp, fun a ha b hb => ?_⟩, fun j => by simp, by simp, by simp⟩
        rintro rfl
        exact hm (by simpa using (List.mem_singleton.1 hb) ▸ ha)
    obtain ⟨i1, i2, i3, i4⟩ := putW_all r (putW W u) hp.1
    rw [List.foldl_cons]
    refine ⟨i1, fun j => ?_, by rw [List.length_cons]; omega, by omega⟩
    rw [i2 j, hp.2.1 j, List.mem_cons]
    exact or_assoc

theorem valTo_far {up : List Nat} {i : Nat} {v : Lb} {l : List Lb} : ∀ (ns : List Nat) (c : Lb), i ∉ ns → valTo up c ns (l.set i v) = valTo up c ns l
  | [], _, _ => rfl
  | k :: r, c, h => by
    have hk : i ≠ k := fun e => h (by simp [e])
    have hr : i ∉ r := fun e => h (by simp [e])
    show valTo up (joinL up c ((l.set i v).getD k z0)) r (l.set i v) = valTo up (joinL up c (l.getD k z0)) r l
    rw [getD_setL, if_neg (fun e => hk e.1)]
    exact valTo_far r _ hr

theorem sum_set (f : Lb → Nat) : ∀ (l : List Lb) (i : Nat) (v : Lb), i < l.length → ((l.set i v).map f).sum + f (l.getD i z0) = (l.map f).sum + f v
  | a :: r, 0, v, _ => by simp; omega
  | a :: r, i + 1, v, h => by
    have := sum_set f r i v (by simpa using h)
    rw [List.set_cons_succ, List.map_cons, List.map_cons, List.sum_cons, List.sum_cons, List.getD_cons_succ]
    omega

/-- Room: how much higher the labels may yet stand. -/
def room (up : List Nat) (l : List Lb) : Nat := (l.map fun a => heightN up + 64 - rk up a).sum
theorem room_le (up : List Nat) : ∀ l : List Lb, room up l ≤ l.length * (heightN up + 64)
  | [] => by simp [room]
  | a :: r => by
    have := room_le up r
    unfold room at this ⊢
    rw [List.map_cons, List.sum_cons, List.length_cons, Nat.add_mul, Nat.one_mul]
    omega

/-- What holds while equations wait. -/
structure Wk (up : List Nat) (consts : List Lb) (needs : List (List Nat)) (l : List Lb) (W : List Nat) (looks : Nat) : Prop where
  tow : Toward up consts needs l
  ms : ∀ k, k < consts.length → (l.getD k z0).ms < 2 ^ 64
  nd : W.Nodup
  lt : ∀ i ∈ W, i < consts.length
  done : ∀ i, i < consts.length → i ∉ W → valF up consts needs l i = l.getD i z0
  lo : consts.length ≤ looks + W.length
  hi : looks + W.length + fanF needs * room up l ≤ consts.length + consts.length * fanF needs * (heightN up + 64)

theorem joinL_ms {up : List Nat} {a b : Lb} (ha : a.ms < 2 ^ 64) (hb : b.ms < 2 ^ 64) : (joinL up a b).ms < 2 ^ 64 := Nat.or_lt_two_pow ha hb
theorem valTo_ms {up : List Nat} {l : List Lb} : ∀ (ns : List Nat) (c : Lb), c.ms < 2 ^ 64 → (∀ k ∈ ns, (l.getD k z0).ms < 2 ^ 64) → (valTo up c ns l).ms < 2 ^ 64
  | [], _, hc, _ => hc
  | k :: r, c, hc, h => valTo_ms r _ (joinL_ms hc (h k (by simp))) fun j hj => h j (by simp [hj])

section
variable {up : List Nat} {consts : List Lb} {needs : List (List Nat)}
theorem Wk.start (S : Sys up consts needs) (hm : ∀ k, k < consts.length → (consts.getD k z0).ms < 2 ^ 64) : Wk up consts needs consts (List.range consts.length) 0 := by
  refine ⟨Toward.start S, hm, List.nodup_range, fun i hi => List.mem_range.1 hi, fun i hi hn => absurd (List.mem_range.2 hi) hn, by simp, ?_⟩
  have h1 := Nat.mul_le_mul_left (fanF needs) (room_le up consts)
  have h2 : fanF needs * (consts.length * (heightN up + 64)) = consts.length * fanF needs * (heightN up + 64) := by rw [← Nat.mul_assoc, Nat.mul_comm (fanF needs)]
  rw [List.length_range]
  omega
theorem Wk.same {l : List Lb} {W W0 : List Nat} {looks i : Nat} (h : Wk up consts needs l W looks) (hp : W.Perm (i :: W0)) (hv : valF up consts needs l i = l.getD i z0) : Wk up consts needs l W0 (looks + 1) := by
  have hl := hp.length_eq
  rw [List.length_cons] at hl
  refine ⟨h.tow, h.ms, (List.nodup_cons.1 ((hp.nodup_iff).1 h.nd)).2, fun j hj => h.lt j (hp.mem_iff.2 (by simp [hj])), fun j hj hn => ?_, by have := h.lo; omega, by have := h.hi; omega⟩
  by_cases e : j = i
  · rw [e]; exact hv
  · exact h.done j hj fun hm => (List.mem_cons.1 (hp.mem_iff.1 hm)).elim e hn
theorem Wk.change (S : Sys up consts needs) (hcm : ∀ k, k < consts.length → (consts.getD k z0).ms < 2 ^ 64) {l : List Lb} {W W0 W1 : List Nat} {looks i : Nat} (h : Wk up consts needs l W looks) (hp : W.Perm (i :: W0)) (hv : valF up consts needs l i ≠ l.getD i z0)
    (hW : W1.Perm ((usersF needs i).foldl putW W0)) : Wk up consts needs (l.set i (valF up consts needs l i)) W1 (looks + 1) := by
  have hl := hp.length_eq
  rw [List.length_cons] at hl
  have hi : i < consts.length := h.lt i (hp.mem_iff.2 (by simp))
  have hil : i < l.length := by rw [h.tow.lbs.len]; exact hi
  obtain ⟨t1, _⟩ := h.tow.step S hi
  have hn0 := (List.nodup_cons.1 ((hp.nodup_iff).1 h.nd)).2
  obtain ⟨u1, u2, u3, u4⟩ := putW_all (usersF needs i) W0 hn0
  have hl1 := hW.length_eq
  have hvm : (valF up consts needs l i).ms < 2 ^ 64 := valTo_ms _ _ (hcm i hi) fun k hk => h.ms k (S.nd i hi k hk)
  have hg : ∀ j, (l.set i (valF up consts needs l i)).getD j z0 = if i = j then valF up consts needs l i else l.getD j z0 := fun j => by
    rw [getD_setL]
    by_cases e : i = j
    · rw [if_pos ⟨e, hil⟩, if_pos e]
    · rw [if_neg (fun h0 => e h0.1), if_neg e]
  have hrk := S.lat.rk_lt (h.tow.lbs.gd i hi) (S.val_gd h.tow.lbs hi) hvm (h.tow.inf i hi) (fun e => hv e.symm)
  have hrl := rk_le up (valF up consts needs l i)
  have hsum := sum_set (fun a => heightN up + 64 - rk up a) l i (valF up consts needs l i) hil
  have hroom : room up (l.set i (valF up consts needs l i)) + 1 ≤ room up l := by
    unfold room
    omega
  have htl : (usersF needs i).length ≤ fanF needs := by
    rw [users_len]
    exact times_le_fan (by rw [S.len]; exact hi)
  refine ⟨t1, fun k hk => ?_, (hW.nodup_iff).2 u1, fun j hj => ?_, fun j hj hn => ?_, by have := h.lo; omega, ?_⟩
  · rw [hg k]
    split
    · exact hvm
    · exact h.ms k hk
  · rcases (u2 j).1 (hW.mem_iff.1 hj) with h1 | h1
    · exact h.lt j (hp.mem_iff.2 (by simp [h1]))
    · rw [← S.len]; exact (mem_users.1 h1).1
  · have hn1 : j ∉ W0 ∧ j ∉ usersF needs i := ⟨fun h1 => hn (hW.mem_iff.2 ((u2 j).2 (.inl h1))), fun h1 => hn (hW.mem_iff.2 ((u2 j).2 (.inr h1)))⟩
    have hnn : i ∉ needs.getD j [] := fun h1 => hn1.2 (mem_users.2 ⟨by rw [S.len]; exact hj, h1⟩)
    have e1 : valF up consts needs (l.set i (valF up consts needs l i)) j = valF up consts needs l j := valTo_far _ _ hnn
    rw [e1, hg j]
    by_cases e : i = j
    · rw [if_pos e, e]
    · rw [if_neg e]
      exact h.done j hj fun hm => (List.mem_cons.1 (hp.mem_iff.1 hm)).elim (fun e2 => e e2.symm) hn1.1
  · have h1 := h.hi
    have h2 : fanF needs * (room up (l.set i (valF up consts needs l i)) + 1) ≤ fanF needs * room up l := Nat.mul_le_mul_left _ hroom
    rw [Nat.mul_add, Nat.mul_one] at h2
    omega
theorem Wk.least {l : List Lb} {looks : Nat} (h : Wk up consts needs l [] looks) : Least up consts needs l ∧ consts.length ≤ looks ∧ looks ≤ consts.length + consts.length * fanF needs * (heightN up + 64) := by
  refine ⟨h.tow.least fun i hi => h.done i hi (by simp), by simpa using h.lo, ?_⟩
  have := h.hi
  simp at this
  omega
/-- The measure that falls with each look. -/
def wkM (up : List Nat) (needs : List (List Nat)) (l : List Lb) (W : List Nat) : Nat := W.length + (fanF needs) * room up l
end
end Go.Idl
namespace Go.Idl

section
variable {up : List Nat} {consts : List Lb} {needs : List (List Nat)}
/-- Needs that name the same values say the same. -/
theorem Sys.val_sets (S : Sys up consts needs) {needs' : List (List Nat)} (S' : Sys up consts needs') {l : List Lb} (hl : Lbs up consts.length l) {i : Nat} (hi : i < consts.length)
    (h : ∀ k, k ∈ needs.getD i [] ↔ k ∈ needs'.getD i []) : valF up consts needs l i = valF up consts needs' l i := by
  have g1 := S.val_gd hl hi
  have g2 := S'.val_gd hl hi
  have e : ∀ x, Gd up x → (leL up (valF up consts needs l i) x = true ↔ leL up (valF up consts needs' l i) x = true) := by
    intro x hx
    rw [S.val_le hl hi hx, S'.val_le hl hi hx]
    exact ⟨fun ⟨a, b⟩ => ⟨a, fun k hk => b k ((h k).2 hk)⟩, fun ⟨a, b⟩ => ⟨a, fun k hk => b k ((h k).1 hk)⟩⟩
  exact leL_antisymm S.lat g1 g2 ((e _ g2).2 (le_refl_of S.lat g2)) ((e _ g1).1 (le_refl_of S.lat g1))
/-- .. so they have the same least solution. -/
theorem Least.sets (S : Sys up consts needs) {needs' : List (List Nat)} (S' : Sys up consts needs') (h : ∀ i, i < consts.length → ∀ k, k ∈ needs.getD i [] ↔ k ∈ needs'.getD i [])
    {l m : List Lb} (hl : Least up consts needs l) (hm : Least up consts needs' m) : l = m := by
  refine hl.unique S ⟨hm.lbs, fun i hi => ?_, fun b hb => ?_⟩
  · rw [S.val_sets S' hm.lbs hi (h i hi)]; exact hm.sol i hi
  · refine hm.low b ⟨hb.1, fun i hi => ?_⟩
    rw [← S.val_sets S' hb.1 hi (h i hi)]
    exact hb.2 i hi
/-- With constants that are higher and needs that are more no value is lower. -/
theorem Least.grows (S : Sys up consts needs) {consts' : List Lb} {needs' : List (List Nat)} (S' : Sys up consts' needs') (hlen : consts'.length = consts.length)
    (hc : ∀ i, i < consts.length → leL up (consts.getD i z0) (consts'.getD i z0) = true) (hn : ∀ i, i < consts.length → ∀ k ∈ needs.getD i [], k ∈ needs'.getD i [])
    {l m : List Lb} (hl : Least up consts needs l) (hm : Least up consts' needs' m) : Under up consts.length l m := by
  have hmb : Lbs up consts.length m := hlen ▸ hm.lbs
  refine hl.low m ⟨hmb, fun i hi => ?_⟩
  have hi' : i < consts'.length := by omega
  have gm := hmb.gd i hi
  have hs := hm.sol i hi'
  have g2 := S'.val_gd hm.lbs hi'
  have h2 := (S'.val_le hm.lbs hi' gm).1 (by rw [hs]; exact le_refl_of S.lat gm)
  rw [S.val_le hmb hi gm]
  exact ⟨leL_trans S.lat (S.gd i hi) (S'.gd i hi') (hc i hi) h2.1, fun k hk => h2.2 k (hn i hi k hk)⟩
end

theorem joinL_eq_iff {up : List Nat} (h : Lat up) {a b : Lb} (ha : Gd up a) (hb : Gd up b) : joinL up a b = a ↔ leL up b a = true := by
  have hg := h.joinL_gd ha hb
  constructor
  · intro e
    have := le_joinL_right h ha hb
    rwa [e] at this
  · intro e
    exact leL_antisymm h hg ha ((leL_joinL h ha hb ha).2 ⟨le_refl_of h ha, e⟩) (le_joinL_left h ha hb)
/-- What stands above both is what stands above their join: so the table finds it. -/
theorem Lat.and_eq {up : List Nat} (h : Lat up) {a b k : Nat} (ha : a < up.length) (hb : b < up.length) (hk : k < up.length) : up.getD a 0 &&& up.getD b 0 = up.getD k 0 ↔ k = jn up a b := by
  have hj := h.jn_is ha hb
  have key : up.getD a 0 &&& up.getD b 0 = up.getD (jn up a b) 0 := by
    apply Nat.eq_of_testBit_eq
    intro m
    rw [Nat.testBit_and]
    show (le up a m && le up b m) = le up (jn up a b) m
    rw [Bool.eq_iff_iff, Bool.and_eq_true]
    constructor
    · rintro ⟨h1, h2⟩
      exact hj.least m (h.bd a m ha h1) h1 h2
    · intro h1
      exact ⟨h.tr _ _ _ ha hj.lt hj.l h1, h.tr _ _ _ hb hj.lt hj.r h1⟩
  constructor
  · intro e
    rw [key] at e
    have e1 : ∀ m, le up (jn up a b) m = le up k m := fun m => by
      show (up.getD (jn up a b) 0).testBit m = (up.getD k 0).testBit m
      rw [e]
    exact h.an _ _ hk hj.lt (by rw [← e1]; exact h.rf _ hj.lt |> fun _ => by rw [e1]; exact (e1 (jn up a b)) ▸ h.rf _ hj.lt) (by rw [e1]; exact h.rf _ hk)
  · rintro rfl
    exact key

/-! ### the queue that container/heap keeps: any of its steps leaves the same numbers -/
/-- Two places of a list changed for one another. -/
def swapL (l : List Int) (i j : Nat) : List Int := (l.set i (l.getD j 0)).set j (l.getD i 0)
theorem swapL_len (l : List Int) (i j : Nat) : (swapL l i j).length = l.length := by simp [swapL]
theorem swapL_getD (l : List Int) {i j : Nat} (hi : i < l.length) (hj : j < l.length) (k : Nat) : (swapL l i j).getD k 0 = if k = j then l.getD i 0 else if k = i then l.getD j 0 else l.getD k 0 := by
  unfold swapL
  rw [List.getD_eq_getElem?_getD, List.getElem?_set]
  by_cases hkj : j = k
  · subst hkj
    simp [hj]
  · rw [if_neg hkj, if_neg (fun e => hkj e.symm), List.getElem?_set]
    by_cases hki : i = k
    · subst hki
      simp [hi]
    · rw [if_neg hki, if_neg (fun e => hki e.symm), List.getD_eq_getElem?_getD]
theorem getD_app_left {a b : List Int} {k : Nat} (h : k < a.length) : (a ++ b).getD k 0 = a.getD k 0 := by
  rw [List.getD_eq_getElem?_getD, List.getD_eq_getElem?_getD, List.getElem?_append_left h]
theorem count_set (x v : Int) : ∀ (l : List Int) (i : Nat), i < l.length → (l.set i v).count x + (if l.getD i 0 = x then 1 else 0) = l.count x + (if v = x then 1 else 0)
  | a :: r, 0, _ => by
    rw [List.set_cons_zero, List.getD_cons_zero, List.count_cons, List.count_cons]
    simp only [beq_iff_eq]
    omega
  | a :: r, i + 1, h => by
    have := count_set x v r i (by simpa using h)
    rw [List.set_cons_succ, List.getD_cons_succ, List.count_cons, List.count_cons]
    omega
theorem swapL_perm (l : List Int) {i j : Nat} (hi : i < l.length) (hj : j < l.length) : (swapL l i j).Perm l := by
  rw [List.perm_iff_count]
  intro x
  unfold swapL
  have h1 := count_set x (l.getD j 0) l i hi
  have h2 := count_set x (l.getD i 0) (l.set i (l.getD j 0)) j (by simpa using hj)
  have h3 : (l.set i (l.getD j 0)).getD j 0 = l.getD j 0 := by
    rw [List.getD_eq_getElem?_getD, List.getElem?_set]
    by_cases e : i = j
    · subst e; simp [hi]
    · rw [if_neg e, List.getD_eq_getElem?_getD]
  rw [h3] at h2
  omega
end Go.Idl
namespace Go.Idl

/-- What holds within a pass that began at l0. -/
structure Pass (up : List Nat) (consts : List Lb) (needs : List (List Nat)) (l0 l : List Lb) (j : Nat) (again : Bool) : Prop where
  tow : Toward up consts needs l
  ms : ∀ k, k < consts.length → (l.getD k z0).ms < 2 ^ 64
  same : again = false → l = l0 ∧ ∀ i, i < j → valF up consts needs l0 i = l0.getD i z0
  less : again = true → room up l < room up l0
  le : room up l ≤ room up l0

section
variable {up : List Nat} {consts : List Lb} {needs : List (List Nat)}
theorem Pass.start {l : List Lb} (h : Toward up consts needs l) (hm : ∀ k, k < consts.length → (l.getD k z0).ms < 2 ^ 64) : Pass up consts needs l l 0 false :=
  ⟨h, hm, fun _ => ⟨rfl, fun i hi => absurd hi (Nat.not_lt_zero i)⟩, fun h => (by cases h), Nat.le_refl _⟩
theorem Pass.keep {l0 l : List Lb} {j : Nat} {again : Bool} (h : Pass up consts needs l0 l j again) (hv : valF up consts needs l j = l.getD j z0) : Pass up consts needs l0 l (j + 1) again := by
  refine ⟨h.tow, h.ms, fun ha => ?_, h.less, h.le⟩
  obtain ⟨rfl, h2⟩ := h.same ha
  refine ⟨rfl, fun i hi => ?_⟩
  rcases Nat.lt_or_ge i j with h3 | h3
  · exact h2 i h3
  · obtain rfl : i = j := by omega
    exact hv
theorem Pass.change (S : Sys up consts needs) (hcm : ∀ k, k < consts.length → (consts.getD k z0).ms < 2 ^ 64) {l0 l : List Lb} {j : Nat} {again : Bool} (h : Pass up consts needs l0 l j again) (hj : j < consts.length) (hv : valF up consts needs l j ≠ l.getD j z0) :
    Pass up consts needs l0 (l.set j (valF up consts needs l j)) (j + 1) true := by
  have hjl : j < l.length := by rw [h.tow.lbs.len]; exact hj
  have hvm : (valF up consts needs l j).ms < 2 ^ 64 := valTo_ms _ _ (hcm j hj) fun k hk => h.ms k (S.nd j hj k hk)
  have hrk := S.lat.rk_lt (h.tow.lbs.gd j hj) (S.val_gd h.tow.lbs hj) hvm (h.tow.inf j hj) (fun e => hv e.symm)
  have hrl := rk_le up (valF up consts needs l j)
  have hsum := sum_set (fun a => heightN up + 64 - rk up a) l j (valF up consts needs l j) hjl
  have hroom : room up (l.set j (valF up consts needs l j)) < room up l := by
    unfold room
    omega
  have hle := h.le
  refine ⟨(h.tow.step S hj).1, fun k hk => ?_, fun h => (by cases h), fun _ => by omega, by omega⟩
  rw [getD_setL]
  split
  · exact hvm
  · exact h.ms k hk
theorem Pass.least {l0 l : List Lb} (h : Pass up consts needs l0 l consts.length false) : Least up consts needs l := by
  obtain ⟨rfl, h2⟩ := h.same rfl
  exact h.tow.least h2
end

/-- Two lists of labels held against each other, one by one. -/
def sameF (a b : List Lb) : Bool := decide (a = b)
theorem same_to {a b : List Lb} (hl : a.length = b.length) : a = b ↔ ∀ i, i < a.length → a.getD i z0 = b.getD i z0 :=
  ⟨fun h i _ => by rw [h], fun h => lb_ext hl h⟩
/-- How often a number stands in some needs: the document's count. -/
theorem times_snoc (needs : List (List Nat)) (ns : List Nat) (k : Nat) : timesF (needs ++ [ns]) k = timesF needs k + ns.count k := by
  unfold timesF
  rw [List.map_append, List.sum_append]
  simp
end Go.Idl
