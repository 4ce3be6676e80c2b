/- Who needs whom: rows of numbers that grow, each in memory of its own. -/
import Derived.Test.YtleckdbdhkgcpaaDoorHs
import Derived.Test.YtleckdbdhkgcpaaDoorVc
namespace Go.Idl
open Go Go.RowKit

/-- By whom a value is needed, when i equations and t needs of the next are through. -/
def usersTo (needs : List (List Nat)) (i t k : Nat) : List Nat := (List.range i).flatMap (fun j => List.replicate ((needs.getD j []).count k) j) ++ List.replicate (((needs.getD i []).take t).count k) i
theorem usersTo_zero (needs : List (List Nat)) (k : Nat) : usersTo needs 0 0 k = [] := by simp [usersTo]
theorem usersTo_snoc0 (needs : List (List Nat)) {i t : Nat} (ht : t < (needs.getD i []).length) (k : Nat) : usersTo needs i (t + 1) k = if k = (needs.getD i []).getD t 0 then usersTo needs i t k ++ [i] else usersTo needs i t k := by
  unfold usersTo
  have e : (needs.getD i []).getD t 0 = (needs.getD i [])[t] := by rw [List.getD_eq_getElem?_getD, List.getElem?_eq_getElem ht]; rfl
  rw [e, List.take_succ_eq_append_getElem ht, List.count_append]
  by_cases h : k = (needs.getD i [])[t]
  · rw [if_pos h, ← h, List.append_assoc]
    congr 1
    rw [List.count_singleton_self, List.replicate_succ']
  · rw [if_neg h]
    have : List.count k [(needs.getD i [])[t]] = 0 := by
      rw [List.count_eq_zero]
      simpa using h
    rw [this, Nat.add_zero]
theorem usersTo_snoc (needs : List (List Nat)) {i t : Nat} (ht : t < (needs.getD i []).length) (k : Nat) : usersTo needs i (t + 1) k = if k = (needs.getD i []).getD t 0 then usersTo needs i t ((needs.getD i []).getD t 0) ++ [i] else usersTo needs i t k := by
  have key : usersTo needs i (t + 1) k = if k = (needs.getD i []).getD t 0 then usersTo needs i t k ++ [i] else usersTo needs i t k := by
    exact usersTo_snoc0 needs ht k
  rw [key]
  split
  · rename_i h; rw [h]
  · rfl
theorem usersTo_next (needs : List (List Nat)) (i k : Nat) : usersTo needs (i + 1) 0 k = usersTo needs i (needs.getD i []).length k := by
  unfold usersTo
  rw [List.range_succ, List.flatMap_append, List.take_of_length_le (Nat.le_refl _)]
  simp
theorem usersTo_all (needs : List (List Nat)) (k : Nat) : usersTo needs needs.length 0 k = usersF needs k := by
  unfold usersTo usersF
  simp
theorem usersTo_le (needs : List (List Nat)) (i t k : Nat) : (usersTo needs i t k).length ≤ (usersTo needs (i + 1) 0 k).length := by
  rw [usersTo_next]
  unfold usersTo
  rw [List.length_append, List.length_append, List.length_replicate, List.length_replicate, List.take_of_length_le (Nat.le_refl (needs.getD i []).length)]
  have := (List.take_sublist t (needs.getD i [])).count_le k
  omega
theorem usersTo_more (needs : List (List Nat)) (k : Nat) : ∀ (d i : Nat), (usersTo needs i 0 k).length ≤ (usersTo needs (i + d) 0 k).length
  | 0, _ => Nat.le_refl _
  | d + 1, i => by
    have h1 := usersTo_more needs k d i
    have h2 := usersTo_le needs (i + d) 0 k
    rw [show i + (d + 1) = i + d + 1 by omega]
    omega
theorem usersTo_len (needs : List (List Nat)) {i t k : Nat} (hi : i < needs.length) (hk : k < needs.length) : (usersTo needs i t k).length ≤ fanF needs := by
  have h1 := usersTo_le needs i t k
  have h2 := usersTo_more needs k (needs.length - (i + 1)) (i + 1)
  rw [show i + 1 + (needs.length - (i + 1)) = needs.length by omega, usersTo_all, users_len] at h2
  have := times_le_fan hk
  omega

/-- Rows of numbers, each in memory of its own. -/
structure Us (w : World) (ti tsl : TypeId) (base U n : Nat) (F : Nat → List Nat) (row : Nat → Value) : Prop where
  blk : Blk w U tsl ((List.range n).map row).toArray
  own : ∀ k, k < n → w.ownsRow base ti 1 (row k) (F k).length (nums (casts (F k)))
  far : ∀ k k', k < n → k' < n → k ≠ k' → ∀ b, (row k).ownBlock = some b → (row k').ownBlock ≠ some b
section
variable {w w' : World} {ti tsl : TypeId} {base U n : Nat} {F : Nat → List Nat} {row : Nat → Value}
theorem Us.kept {S : Nat → Prop} (h : Us w ti tsl base U n F row) (k : Kept S w w') (hU : ¬ S U) (hr : ∀ j, j < n → ∀ b, (row j).ownBlock = some b → ¬ S b) : Us w' ti tsl base U n F row :=
  ⟨h.blk.at_kept k hU, fun j hj => own_kept (h.own j hj) k (hr j hj), h.far⟩
theorem Us.congr {G : Nat → List Nat} (h : Us w ti tsl base U n F row) (e : ∀ k, k < n → F k = G k) : Us w ti tsl base U n G row := ⟨h.blk, fun k hk => by rw [← e k hk]; exact h.own k hk, h.far⟩
theorem Us.below (h : Us w ti tsl base U n F row) (k : Below w.heap.size w w') : Us w' ti tsl base U n F row :=
  h.kept (S := fun _ => False) (Kept.of_below k fun i h1 h2 => absurd h2 (Nat.not_lt_of_ge h1)) (fun h => h) (fun _ _ _ _ h => h)
theorem Us.cell (h : Us w ti tsl base U n F row) {k : Nat} (hk : k < n) : w.cell? ⟨U, k, none⟩ = some (row k) := by
  rw [h.blk.cell k]
  simp [hk]
theorem Us.slice (h : Us w ti tsl base U n F row) {k : Nat} (hk : k < n) : ∃ A c, row k = .slice A (F k).length c := ownsRow_slice (h.own k hk)
theorem Us.row_ne (h : Us w ti tsl base U n F row) {g : Nat} {t : TypeId} {cs : Array Value} (b : Blk w g t cs) (hne : ti ≠ t) {k : Nat} (hk : k < n) : (row k).ownBlock ≠ some g := own_blk_ne (h.own k hk) b hne
theorem Us.row_lt (h : Us w ti tsl base U n F row) {k b : Nat} (hk : k < n) (hb : (row k).ownBlock = some b) : base ≤ b ∧ b < w.heap.size := (h.own k hk).lt b hb
theorem Us.row_map (h : Us w ti tsl base U n F row) {b : Nat} {es : Array MapEntry} {cl : Nat} (hm : w.heap[b]? = some (.map es cl)) {k : Nat} (hk : k < n) : (row k).ownBlock ≠ some b := by
  rcases (h.own k hk).2 with ⟨e, _⟩ | ⟨g, cap, cur, e, _, hh, _⟩
  · rw [e]; simp [Value.ownBlock]
  · rw [e]
    intro e2
    have e3 : g = b := by simpa [Value.ownBlock] using e2
    subst e3
    rw [hm] at hh
    cases hh
/-- One number more in one row. -/
theorem Us.append (h : Us w ti tsl base U n F row) (hne : ti ≠ tsl) {k0 i : Nat} (hk : k0 < n) {o : Obj} {w1 : World} {v : Value} (ho : w1.ownsRow base ti 1 v ((F k0).length + 1) (nums (casts (F k0 ++ [i])))) (hg : (w.alloc o).grownBy w1 (row k0).ownBlock)
    (hat : v.ownBlock = (row k0).ownBlock ∨ v.ownBlock = some (w.alloc o).heap.size) :
    Us (w1.setCell ⟨U, k0, none⟩ v) ti tsl base U n (fun k => if k = k0 then F k0 ++ [i] else F k) (fun k => if k = k0 then v else row k) ∧ Kept (fun b => b = U ∨ (row k0).ownBlock = some b) w (w1.setCell ⟨U, k0, none⟩ v) := by
  have hK1 : Kept (fun b => b = U ∨ (row k0).ownBlock = some b) w w1 := ((Kept.refl _ w).alloc o).trans (Kept.of_grown (S := fun b => (row k0).ownBlock = some b) hg fun g e => e) (fun _ _ h => h) (fun _ _ h => .inr h)
  have hUk : (row k0).ownBlock ≠ some U := h.row_ne h.blk hne hk
  have b1 : Blk w1 U tsl ((List.range n).map row).toArray := (h.blk.alloc o).grown hg fun e => hUk e.symm
  have hsz : (w.alloc o).heap.size = w.heap.size + 1 := by simp
  have hvU : v.ownBlock ≠ some U := own_blk_ne ho b1 hne
  refine ⟨⟨?_, fun k hkn => ?_, fun a b ha hb hab c hc => ?_⟩, hK1.setCell (.inl rfl) _⟩
  · have := b1.set_ k0 v
    have e : ((List.range n).map row).toArray.setIfInBounds k0 v = ((List.range n).map fun k => if k = k0 then v else row k).toArray := by
      apply Array.ext
      · simp
      · intro j h1 h2
        simp at h1
        simp [List.getElem_set, eq_comm]
    rwa [e] at this
  · by_cases e : k = k0
    · subst e
      simp only [if_true]
      rw [List.length_append]
      exact ownsRow_setCell ho hvU _
    · simp only [if_neg e]
      refine ownsRow_setCell (World.ownsRow.kept (World.ownsRow.alloc (h.own k hkn) o) hg ?_) (h.row_ne h.blk hne hkn) _
      rcases hb : (row k).ownBlock with _ | b
      · exact .inl rfl
      · exact .inr fun e2 => h.far k k0 hkn hk e b hb e2.symm
  · have hnew : ∀ k, k < n → k ≠ k0 → ∀ c, (row k).ownBlock = some c → v.ownBlock ≠ some c := by
      intro k hk' hkk c hc hv
      rcases hat with e | e
      · rw [hv] at e
        exact h.far k k0 hk' hk hkk c hc e.symm
      · rw [hv] at e
        have := (h.row_lt hk' hc).2
        injection e with e
        omega
    by_cases e1 : a = k0
    · by_cases e2 : b = k0
      · exact absurd (e1.trans e2.symm) hab
      · simp only [if_pos e1] at hc
        simp only [if_neg e2]
        intro hb'
        exact hnew b hb e2 c hb' hc
    · simp only [if_neg e1] at hc
      by_cases e2 : b = k0
      · simp only [if_pos e2]
        exact hnew a ha e1 c hc
      · simp only [if_neg e2]
        exact h.far a b ha hb hab c hc
end

theorem lbVals_set : ∀ (l : List Lb) (k : Nat) (y : Lb), lbVals (l.set k y) = ((lbVals l).set (k * 2) (.int .i64 y.lv)).set (k * 2 + 1) (.int .u64 (y.ms : Nat))
  | [], k, y => rfl
  | a :: r, 0, y => rfl
  | a :: r, k + 1, y => by
    have e1 : lbVals (a :: r) = .int .i64 a.lv :: .int .u64 (a.ms : Nat) :: lbVals r := rfl
    have e2 : lbVals (a :: r.set k y) = .int .i64 a.lv :: .int .u64 (a.ms : Nat) :: lbVals (r.set k y) := rfl
    rw [List.set_cons_succ, e1, e2, lbVals_set r k y, show (k + 1) * 2 = k * 2 + 1 + 1 by omega]
    rfl
theorem heightN_le (up : List Nat) : heightN up ≤ up.length := sup_le.2 fun b _ _ => hgt_lt up.length b
end Go.Idl
