/- slices.Clone of labels. Who needs whom: rows of numbers that grow, each in memory of its own. solve.Solve. -/
import Derived.WalkSpells
import Derived.Test.YtleckdbdhkgcpaaDoorVj
import Derived.Test.YtleckdbdhkgcpaaDoorHs
import Derived.Test.YtleckdbdhkgcpaaDoorLe2
import Derived.BigQuiet
namespace Go.Proofs.YtleckdbdhkgcpaaDoor
open Go.RowKit Go.Shelf Go.Idl
set_option linter.unusedSimpArgs false
set_option linter.unusedVariables false

theorem label_info : (Tryd.prog.info? 29).map (fun i => (i.zero, i.size, i.bytes)) = some (some (.agg #[.int .i64 0, .int .u64 0]), 2, 16) := by kernel_rfl
theorem info_parts2 {o : Option TypeInfo} {z : Value} {s b : Nat} (h : o.map (fun i => (i.zero, i.size, i.bytes)) = some (some z, s, b)) : ∃ i, o = some i ∧ i.zero = some z ∧ i.size = s ∧ i.bytes = b := by
  obtain ⟨i, rfl, he⟩ := Option.map_eq_some_iff.1 h
  injection he with h1 h2
  injection h2 with h2 h3
  exact ⟨i, rfl, h1, h2, h3⟩

/-- A copy of labels, in memory of its own. -/
def LabPost (l : Nat) (consts : List Lb) (w : World) (e : Ending) (w' : World) : Prop := ∃ L lL, e = .returned (.slice L l lL) ∧ w'.ownsRow w.heap.size 29 2 (.slice L l lL) l (lbVals consts) ∧ Below w.heap.size w w'

set_option maxHeartbeats 4000000 in
set_option maxRecDepth 100000 in
theorem clone_any (C : Option Addr) (l lc : Nat) (consts : List Lb) (w : World) (hl : consts.length = l) (hl63 : l ≤ 1000000) (hc : Reads w w.heap.size 2 C l (lbVals consts)) :
    Calls Tryd.prog 25 #[.slice C l lc] w fun e w' => LabPost l consts w e w' := by
  obtain ⟨i0, hi0, hz0, hz1, hz2⟩ := info_parts2 label_info
  have hml : maxLen = 9223372036854775807 := rfl
  have h1 := lbVals_one consts
  have hnil := fun (W : World) (a : Option Addr) (n c : Nat) => Lib.run_eql_slice_nil (P := Tryd.prog) W 23 29 a n c 0 0 Tryd.underlying23
  rcases C with _ | ad
  · have hl0 : l = 0 := by
      rcases Nat.eq_zero_or_pos l with h | h
      · exact h
      · obtain ⟨ad, h, _⟩ := hc.2 h
        cases h
    subst hl0
    have hcn : consts = [] := List.eq_nil_of_length_eq_zero hl
    have hn := World.ownsRow_nil w w.heap.size 29 2
    subst hcn
    replace hc := Lib.hid hc
    replace h1 := Lib.hid h1
    go_enter Tryd.func25, Tryd.ntmps25
    go_wp2
    go_ret
    exact ⟨none, 0, rfl, hn, Below.refl _ _⟩
  · replace hc := Lib.hid hc
    replace h1 := Lib.hid h1
    replace hl := Lib.hid hl
    go_enter Tryd.func25, Tryd.ntmps25
    go_wp2_with (at_builtin; refine wpList_append_copy w rfl _ _ 23 rfl 29 i0 (.agg #[.int .i64 0, .int .u64 0]) 2 16 Tryd.underlying23 hi0 hz0 hz1 hz2 rfl (by decide) rfl w.heap.size _ l _ (lbVals consts) rfl hc.out (Nat.le_refl _) h1.out (by rw [hml]; omega) (by omega) ?_; intro A' c' w1 ho1 hrc hbc)
    go_ret
    exact ⟨A', c', rfl, ho1, hbc⟩
end Go.Proofs.YtleckdbdhkgcpaaDoor
namespace Go.Idl
open Go Go.RowKit
set_option linter.unusedSimpArgs false
set_option linter.unusedVariables false

/-- By whom a value is needed, when i equations and t needs of the next are through. -/
def usersTo (needs : List (List Nat)) (i t k : Nat) : List Nat := (List.range i).flatMap (fun j => List.replicate ((needs.getD j []).count k) j) ++ List.replicate (((needs.getD i []).take t).count k) i
theorem usersTo_zero (needs : List (List Nat)) (k : Nat) : usersTo needs 0 0 k = [] := by simp [usersTo]
theorem usersTo_snoc0 (needs : List (List Nat)) {i t : Nat} (ht : t < (needs.getD i []).length) (k : Nat) : usersTo needs i (t + 1) k = if k = (needs.getD i []).getD t 0 then usersTo needs i t k ++ [i] else usersTo needs i t k := by
  unfold usersTo
  have e : (needs.getD i []).getD t 0 = (needs.getD i [])[t] := by rw [List.getD_eq_getElem?_getD, List.getElem?_eq_getElem ht]; rfl
  rw [e, List.take_succ_eq_append_getElem ht, List.count_append]
  by_cases h : k = (needs.getD i [])[t]
  · rw [if_pos h, ← h, List.append_assoc]
    congr 1
    rw [List.count_singleton_self, List.replicate_succ']
  · rw [if_neg h]
    have : List.count k [(needs.getD i [])[t]] = 0 := by
      rw [List.count_eq_zero]
      simpa using h
    rw [this, Nat.add_zero]
theorem usersTo_snoc (needs : List (List Nat)) {i t : Nat} (ht : t < (needs.getD i []).length) (k : Nat) : usersTo needs i (t + 1) k = if k = (needs.getD i []).getD t 0 then usersTo needs i t ((needs.getD i []).getD t 0) ++ [i] else usersTo needs i t k := by
  have key : usersTo needs i (t + 1) k = if k = (needs.getD i []).getD t 0 then usersTo needs i t k ++ [i] else usersTo needs i t k := by
    exact usersTo_snoc0 needs ht k
  rw [key]
  split
  · rename_i h; rw [h]
  · rfl
theorem usersTo_next (needs : List (List Nat)) (i k : Nat) : usersTo needs (i + 1) 0 k = usersTo needs i (needs.getD i []).length k := by
  unfold usersTo
  rw [List.range_succ, List.flatMap_append, List.take_of_length_le (Nat.le_refl _)]
  simp
theorem usersTo_all (needs : List (List Nat)) (k : Nat) : usersTo needs needs.length 0 k = usersF needs k := by
  unfold usersTo usersF
  simp
theorem usersTo_le (needs : List (List Nat)) (i t k : Nat) : (usersTo needs i t k).length ≤ (usersTo needs (i + 1) 0 k).length := by
  rw [usersTo_next]
  unfold usersTo
  rw [List.length_append, List.length_append, List.length_replicate, List.length_replicate, List.take_of_length_le (Nat.le_refl (needs.getD i []).length)]
  have := (List.take_sublist t (needs.getD i [])).count_le k
  omega
theorem usersTo_more (needs : List (List Nat)) (k : Nat) : ∀ (d i : Nat), (usersTo needs i 0 k).length ≤ (usersTo needs (i + d) 0 k).length
  | 0, _ => Nat.le_refl _
  | d + 1, i => by
    have h1 := usersTo_more needs k d i
    have h2 := usersTo_le needs (i + d) 0 k
    rw [show i + (d + 1) = i + d + 1 by omega]
    omega
theorem usersTo_len (needs : List (List Nat)) {i t k : Nat} (hi : i < needs.length) (hk : k < needs.length) : (usersTo needs i t k).length ≤ fanF needs := by
  have h1 := usersTo_le needs i t k
  have h2 := usersTo_more needs k (needs.length - (i + 1)) (i + 1)
  rw [show i + 1 + (needs.length - (i + 1)) = needs.length by omega, usersTo_all, users_len] at h2
  have := times_le_fan hk
  omega

/-- Rows of numbers, each in memory of its own. -/
structure Us (w : World) (ti tsl : TypeId) (base U n : Nat) (F : Nat → List Nat) (row : Nat → Value) : Prop where
  blk : Blk w U tsl ((List.range n).map row).toArray
  own : ∀ k, k < n → w.ownsRow base ti 1 (row k) (F k).length (nums (casts (F k)))
  far : ∀ k k', k < n → k' < n → k ≠ k' → ∀ b, (row k).ownBlock = some b → (row k').ownBlock ≠ some b
section
variable {w w' : World} {ti tsl : TypeId} {base U n : Nat} {F : Nat → List Nat} {row : Nat → Value}
theorem Us.kept {S : Nat → Prop} (h : Us w ti tsl base U n F row) (k : Kept S w w') (hU : ¬ S U) (hr : ∀ j, j < n → ∀ b, (row j).ownBlock = some b → ¬ S b) : Us w' ti tsl base U n F row :=
  ⟨h.blk.at_kept k hU, fun j hj => own_kept (h.own j hj) k (hr j hj), h.far⟩
theorem Us.congr {G : Nat → List Nat} (h : Us w ti tsl base U n F row) (e : ∀ k, k < n → F k = G k) : Us w ti tsl base U n G row := ⟨h.blk, fun k hk => by rw [← e k hk]; exact h.own k hk, h.far⟩
theorem Us.below (h : Us w ti tsl base U n F row) (k : Below w.heap.size w w') : Us w' ti tsl base U n F row :=
  h.kept (S := fun _ => False) (Kept.of_below k fun i h1 h2 => absurd h2 (Nat.not_lt_of_ge h1)) (fun h => h) (fun _ _ _ _ h => h)
theorem Us.cell (h : Us w ti tsl base U n F row) {k : Nat} (hk : k < n) : w.cell? ⟨U, k, none⟩ = some (row k) := by
  rw [h.blk.cell k]
  simp [hk]
theorem Us.slice (h : Us w ti tsl base U n F row) {k : Nat} (hk : k < n) : ∃ A c, row k = .slice A (F k).length c := ownsRow_slice (h.own k hk)
theorem Us.row_ne (h : Us w ti tsl base U n F row) {g : Nat} {t : TypeId} {cs : Array Value} (b : Blk w g t cs) (hne : ti ≠ t) {k : Nat} (hk : k < n) : (row k).ownBlock ≠ some g := own_blk_ne (h.own k hk) b hne
theorem Us.row_lt (h : Us w ti tsl base U n F row) {k b : Nat} (hk : k < n) (hb : (row k).ownBlock = some b) : base ≤ b ∧ b < w.heap.size := (h.own k hk).lt b hb
theorem Us.row_map (h : Us w ti tsl base U n F row) {b : Nat} {es : Array MapEntry} {cl : Nat} (hm : w.heap[b]? = some (.map es cl)) {k : Nat} (hk : k < n) : (row k).ownBlock ≠ some b := by
  rcases (h.own k hk).2 with ⟨e, _⟩ | ⟨g, cap, cur, e, _, hh, _⟩
  · rw [e]; simp [Value.ownBlock]
  · rw [e]
    intro e2
    have e3 : g = b := by simpa [Value.ownBlock] using e2
    subst e3
    rw [hm] at hh
    cases hh
/-- One number more in one row. -/
theorem Us.append (h : Us w ti tsl base U n F row) (hne : ti ≠ tsl) {k0 i : Nat} (hk : k0 < n) {o : Obj} {w1 : World} {v : Value} (ho : w1.ownsRow base ti 1 v ((F k0).length + 1) (nums (casts (F k0 ++ [i])))) (hg : (w.alloc o).grownBy w1 (row k0).ownBlock)
    (hat : v.ownBlock = (row k0).ownBlock ∨ v.ownBlock = some (w.alloc o).heap.size) :
    Us (w1.setCell ⟨U, k0, none⟩ v) ti tsl base U n (fun k => if k = k0 then F k0 ++ [i] else F k) (fun k => if k = k0 then v else row k) ∧ Kept (fun b => b = U ∨ (row k0).ownBlock = some b) w (w1.setCell ⟨U, k0, none⟩ v) := by
  have hK1 : Kept (fun b => b = U ∨ (row k0).ownBlock = some b) w w1 := ((Kept.refl _ w).alloc o).trans (Kept.of_grown (S := fun b => (row k0).ownBlock = some b) hg fun g e => e) (fun _ _ h => h) (fun _ _ h => .inr h)
  have hUk : (row k0).ownBlock ≠ some U := h.row_ne h.blk hne hk
  have b1 : Blk w1 U tsl ((List.range n).map row).toArray := (h.blk.alloc o).grown hg fun e => hUk e.symm
  have hsz : (w.alloc o).heap.size = w.heap.size + 1 := by simp
  have hvU : v.ownBlock ≠ some U := own_blk_ne ho b1 hne
  refine ⟨⟨?_, fun k hkn => ?_, fun a b ha hb hab c hc => ?_⟩, hK1.setCell (.inl rfl) _⟩
  · have := b1.set_ k0 v
    have e : ((List.range n).map row).toArray.setIfInBounds k0 v = ((List.range n).map fun k => if k = k0 then v else row k).toArray := by
      apply Array.ext
      · simp
      · intro j h1 h2
        simp at h1
        simp [List.getElem_set, eq_comm]
    rwa [e] at this
  · by_cases e : k = k0
    · subst e
      simp only [if_true]
      rw [List.length_append]
      exact ownsRow_setCell ho hvU _
    · simp only [if_neg e]
      refine ownsRow_setCell (World.ownsRow.kept (World.ownsRow.alloc (h.own k hkn) o) hg ?_) (h.row_ne h.blk hne hkn) _
      rcases hb : (row k).ownBlock with _ | b
      · exact .inl rfl
      · exact .inr fun e2 => h.far k k0 hkn hk e b hb e2.symm
  · have hnew : ∀ k, k < n → k ≠ k0 → ∀ c, (row k).ownBlock = some c → v.ownBlock ≠ some c := by
      intro k hk' hkk c hc hv
      rcases hat with e | e
      · rw [hv] at e
        exact h.far k k0 hk' hk hkk c hc e.symm
      · rw [hv] at e
        have := (h.row_lt hk' hc).2
        injection e with e
        omega
    by_cases e1 : a = k0
    · by_cases e2 : b = k0
      · exact absurd (e1.trans e2.symm) hab
      · simp only [if_pos e1] at hc
        simp only [if_neg e2]
        intro hb'
        exact hnew b hb e2 c hb' hc
    · simp only [if_neg e1] at hc
      by_cases e2 : b = k0
      · simp only [if_pos e2]
        exact hnew a ha e1 c hc
      · simp only [if_neg e2]
        exact h.far a b ha hb hab c hc
end

theorem lbVals_set : ∀ (l : List Lb) (k : Nat) (y : Lb), lbVals (l.set k y) = ((lbVals l).set (k * 2) (.int .i64 y.lv)).set (k * 2 + 1) (.int .u64 (y.ms : Nat))
  | [], k, y => rfl
  | a :: r, 0, y => rfl
  | a :: r, k + 1, y => by
    have e1 : lbVals (a :: r) = .int .i64 a.lv :: .int .u64 (a.ms : Nat) :: lbVals r := rfl
    have e2 : lbVals (a :: r.set k y) = .int .i64 a.lv :: .int .u64 (a.ms : Nat) :: lbVals (r.set k y) := rfl
    rw [List.set_cons_succ, e1, e2, lbVals_set r k y, show (k + 1) * 2 = k * 2 + 1 + 1 by omega]
    rfl
theorem heightN_le (up : List Nat) : heightN up ≤ up.length := sup_le.2 fun b _ _ => hgt_lt up.length b
end Go.Idl
namespace Go.Proofs.YtleckdbdhkgcpaaDoor
open Go.RowKit Go.Shelf Go.Idl Go.Maps
set_option linter.unusedSimpArgs false
set_option linter.unusedVariables false

set_option maxHeartbeats 4000000 in
set_option maxRecDepth 100000 in
theorem solve_no (A : Option Addr) (n c : Nat) (up : List Nat) (C D : Option Addr) (l lc m mc : Nat) (consts : List Lb) (needs : List (List Int)) (w : World) (hT : Tab w) (hn : up.length = n) (hn63 : n ≤ maxLen) (hM : Masks up) (hr : Reads w w.heap.size 1 A n (u64s up))
    (hl : consts.length = l) (hl63 : l ≤ maxLen) (hc : Reads w w.heap.size 2 C l (lbVals consts)) (hm63 : m ≤ maxLen) (hd : NRows w w.heap.size D m needs) (hq : sysB up consts needs = false) :
    Calls Tryd.prog 9 #[.slice A n c, .agg #[.slice C l lc, .slice D m mc]] w fun e w' => e = .returned (.tuple #[.slice none 0 0, .int .i64 0, .int .i64 1]) ∧ Below w.heap.size w w' := by
  have hb0 : Below w.heap.size w (w.alloc (.cells #[.slice C l lc, .slice D m mc] 26)) := (Below.refl _ w).alloc (Nat.le_refl _) _
  have hRi := sright_any A n c up C D l lc m mc consts needs _ (hT.later hb0) hn hn63 hM ((hr.below hb0).more hb0.size) hl hl63 ((hc.below hb0).more hb0.size) hm63 ((hd.below hb0).more hb0.size)
  rw [hq] at hRi
  replace hRi := Lib.hid hRi
  replace hb0 := Lib.hid hb0
  replace hr := Lib.hid hr
  replace hM := Lib.hid hM
  replace hT := Lib.hid hT
  replace hc := Lib.hid hc
  replace hd := Lib.hid hd
  replace hn := Lib.hid hn
  replace hl := Lib.hid hl
  replace hq := Lib.hid hq
  go_enter Tryd.func9, Tryd.ntmps9
  go_wp2_with fail
  refine hRi.out.mono ?_
  rintro x w1 ⟨rfl, hb1⟩
  have hB := Lib.hid (hb0.out.trans (hb1.mono hb0.out.size))
  clear hb1
  go_wp2
  exact bodyPost_ret (v := .tuple #[.slice none 0 0, .int .i64 0, .int .i64 1]) (by simp [results, Tryd.f9, go_sem]) rfl ⟨rfl, hB.out⟩

theorem slice_info : (Tryd.prog.info? 40).map (fun i => (i.zero, i.size, i.bytes)) = some (some (.slice none 0 0), 1, 24) := by kernel_rfl

theorem add0' (g j : Nat) : (⟨g, 0, none⟩ : Addr).add j = ⟨g, j, none⟩ := by
  unfold Addr.add
  split
  · rename_i h; subst h; rfl
  · simp
/-- What Solve gives over a system that may be. -/
def SolPost (up : List Nat) (consts : List Lb) (needs : List (List Nat)) (l : Nat) (w : World) (e : Ending) (w' : World) : Prop :=
  ∃ (L : Option Addr) (lL : Nat) (lbs : List Lb) (looks : Nat), e = .returned (.tuple #[.slice L l lL, .int .i64 (looks : Nat), .int .i64 0]) ∧ Reads w' w'.heap.size 2 L l (lbVals lbs) ∧ l ≤ lL ∧ lL ≤ maxLen ∧ Least up consts needs lbs ∧ (∀ k, k < consts.length → (lbs.getD k z0).ms < 2 ^ 64) ∧
    consts.length ≤ looks ∧ looks ≤ consts.length + consts.length * fanF needs * (heightN up + 64) ∧ Below w.heap.size w w'

/-- The blocks of Solve, by their numbers. -/
structure SolI (w0 : World) (up : List Nat) (n l : Nat) (Z L : Option Addr) (z lL : Nat) (sv : Array Value) (S J U B mv wv mb h g c : Nat) (lbs : List Lb) (F : Nat → List Nat) (row : Nat → Value) (W : List Nat) (T : Nat) (wr : World) : Prop where
  low : Below w0.heap.size w0 wr
  s : Blk wr S 26 sv
  j : Blk wr J 54 #[.int .i64 (n : Nat), .slice Z (n * n) z]
  tab : Reads wr B 1 Z (n * n) (u8s (tabTo up n (n * n)))
  lab : wr.ownsRow B 29 2 (.slice L l lL) l (lbVals lbs)
  us : Us wr 3 40 B U l F row
  q : Qs wr mv wv mb h g c W T
  gn : ∀ k, k < l → (row k).ownBlock ≠ some g
  ge : w0.heap.size ≤ B ∧ B ≤ U ∧ B ≤ mv ∧ B ≤ wv ∧ B ≤ mb ∧ B ≤ h ∧ B ≤ g
  lt : S < B ∧ J < B ∧ B ≤ wr.heap.size

section
variable {w0 wr w2 : World} {up : List Nat} {n l : Nat} {Z L : Option Addr} {z lL : Nat} {sv : Array Value} {S J U B mv wv mb h g c G : Nat} {lbs : List Lb} {F : Nat → List Nat} {row : Nat → Value} {W : List Nat} {T : Nat}
theorem SolI.lab_ne (I : SolI w0 up n l Z L z lL sv S J U B mv wv mb h g c lbs F row W T wr) : ∀ b, (Value.slice L l lL).ownBlock = some b → b ≠ U ∧ b ≠ mv ∧ b ≠ wv ∧ b ≠ mb ∧ b ≠ h ∧ b ≠ g ∧ ∀ k, k < l → (row k).ownBlock ≠ some b := by
  intro b hb
  rcases I.lab.2 with ⟨e, _⟩ | ⟨gl, cap, cur, e, _, hh, _⟩
  · rw [e] at hb; cases hb
  · have e2 : gl = b := by rw [e] at hb; simpa [Value.ownBlock] using hb
    subst e2
    have kb : Blk wr gl 29 cur := hh
    obtain ⟨cq, kq, _⟩ := I.q.row
    exact ⟨kb.ne_ I.us.blk (by decide), kb.ne_ I.q.mvk (by decide), kb.ne_ I.q.wvk (by decide), map_ne I.q.map kb, kb.ne_ I.q.hk (by decide), kb.ne_ kq (by decide), fun k hk => I.us.row_ne kb (by decide) hk⟩
theorem SolI.us_ne (I : SolI w0 up n l Z L z lL sv S J U B mv wv mb h g c lbs F row W T wr) : U ≠ mv ∧ U ≠ wv ∧ U ≠ mb ∧ U ≠ h ∧ U ≠ g ∧ ∀ k, k < l → (row k).ownBlock ≠ some mv ∧ (row k).ownBlock ≠ some wv ∧ (row k).ownBlock ≠ some mb ∧ (row k).ownBlock ≠ some h ∧ (row k).ownBlock ≠ some g := by
  obtain ⟨cq, kq, _⟩ := I.q.row
  refine ⟨I.us.blk.ne_ I.q.mvk (by decide), I.us.blk.ne_ I.q.wvk (by decide), map_ne I.q.map I.us.blk, I.us.blk.ne_ I.q.hk (by decide), I.us.blk.ne_ kq (by decide), fun k hk => ⟨I.us.row_ne I.q.mvk (by decide) hk, I.us.row_ne I.q.wvk (by decide) hk, ?_, I.us.row_ne I.q.hk (by decide) hk, I.gn k hk⟩⟩
  obtain ⟨D, ⟨es, cl, hb, _⟩, _⟩ := I.q.map
  exact I.us.row_map hb hk
/-- What a turn of blocks beyond the base leaves. -/
theorem SolI.base (I : SolI w0 up n l Z L z lL sv S J U B mv wv mb h g c lbs F row W T wr) {R : Nat → Prop} (k : Kept R wr w2) (hR : ∀ b, R b → B ≤ b) :
    Below w0.heap.size w0 w2 ∧ Blk w2 S 26 sv ∧ Blk w2 J 54 #[.int .i64 (n : Nat), .slice Z (n * n) z] ∧ Reads w2 B 1 Z (n * n) (u8s (tabTo up n (n * n))) ∧ S < B ∧ J < B ∧ B ≤ w2.heap.size := by
  have hb : Below B wr w2 := k.below I.lt.2.2 fun i hi hr => Nat.lt_irrefl _ (Nat.lt_of_lt_of_le hi (hR i hr))
  exact ⟨I.low.trans (hb.mono I.ge.1), I.s.below hb I.lt.1, I.j.below hb I.lt.2.1, I.tab.below hb, I.lt.1, I.lt.2.1, Nat.le_trans I.lt.2.2 hb.size⟩
/-- Behind a turn of what waits. -/
theorem SolI.turn (I : SolI w0 up n l Z L z lL sv S J U B mv wv mb h g c lbs F row W T wr) {W' : List Nat} {g' c' T' : Nat} (hq : Qs w2 mv wv mb h g' c' W' T') (hg : g' = g ∨ wr.heap.size ≤ g') (hK : Kept (fun k => k = mb ∨ k = h ∨ k = g) wr w2) :
    SolI w0 up n l Z L z lL sv S J U B mv wv mb h g' c' lbs F row W' T' w2 := by
  have hge := I.ge
  obtain ⟨u1, u2, u3, u4, u5, u6⟩ := I.us_ne
  obtain ⟨b1, b2, b3, b4, b5, b6, b7⟩ := I.base hK (by rintro b (e | e | e) <;> omega)
  refine ⟨b1, b2, b3, b4, own_kept I.lab hK (fun b hb => ?_), I.us.kept hK (by rintro (e | e | e) <;> omega) (fun j hj b hb => ?_), hq, fun k hk e => ?_, ⟨hge.1, hge.2.1, hge.2.2.1, hge.2.2.2.1, hge.2.2.2.2.1, hge.2.2.2.2.2.1, ?_⟩, b5, b6, b7⟩
  · have := I.lab_ne b hb
    rintro (e | e | e) <;> omega
  · have := u6 j hj
    rw [hb] at this
    simp only [ne_eq, Option.some.injEq] at this
    rintro (e | e | e) <;> omega
  · rcases hg with e2 | e2
    · rw [e2] at e; exact I.gn k hk e
    · have := (I.us.row_lt hk e).2
      omega
  · have := I.lt.2.2
    rcases hg with e2 | e2 <;> omega
/-- Behind a put. -/
theorem SolI.put (I : SolI w0 up n l Z L z lL sv S J U B mv wv mb h g c lbs F row W T wr) {i : Nat} (p : PutPost mv wv mb h g W T i wr w2) :
    ∃ W' g' c', W'.Perm (putW W i) ∧ SolI w0 up n l Z L z lL sv S J U B mv wv mb h g' c' lbs F row W' (T + 1) w2 := by
  obtain ⟨W', g', c', hp, hq, hg, hK⟩ := p
  exact ⟨W', g', c', hp, I.turn hq hg hK⟩
/-- Behind a label's store. -/
theorem SolI.label (I : SolI w0 up n l Z (some ⟨G, 0, none⟩) z lL sv S J U B mv wv mb h g c lbs F row W T wr) (i : Nat) (y : Lb) :
    SolI w0 up n l Z (some ⟨G, 0, none⟩) z lL sv S J U B mv wv mb h g c (lbs.set i y) F row W T ((wr.setCell ⟨G, i * 2, none⟩ (.int .i64 y.lv)).setCell ⟨G, i * 2 + 1, none⟩ (.int .u64 (y.ms : Nat))) := by
  obtain ⟨o1, g1⟩ := I.lab.stored (i * 2) (.int .i64 y.lv)
  obtain ⟨o2, g2⟩ := o1.stored (i * 2 + 1) (.int .u64 (y.ms : Nat))
  have hK : Kept (fun k => k = G) wr ((wr.setCell ⟨G, i * 2, none⟩ (.int .i64 y.lv)).setCell ⟨G, i * 2 + 1, none⟩ (.int .u64 (y.ms : Nat))) := ((Kept.refl (fun k => k = G) wr).setCell (p := ⟨G, i * 2, none⟩) rfl _).setCell (p := ⟨G, i * 2 + 1, none⟩) rfl _
  have hne := I.lab_ne G rfl
  have hGB := (I.lab.lt G rfl).1
  obtain ⟨b1, b2, b3, b4, b5, b6, b7⟩ := I.base hK (by rintro b rfl; exact hGB)
  refine ⟨b1, b2, b3, b4, by rw [lbVals_set]; exact o2, I.us.kept hK (fun e => hne.1 e.symm) (fun j hj b hb e => hne.2.2.2.2.2.2 j hj (e ▸ hb)), I.q.kept hK (fun e => hne.2.1 e.symm) (fun e => hne.2.2.1 e.symm) (fun e => hne.2.2.2.1 e.symm) (fun e => hne.2.2.2.2.1 e.symm) (fun e => hne.2.2.2.2.2.1 e.symm), I.gn, I.ge, b5, b6, b7⟩
/-- Behind calls that write nothing. -/
theorem SolI.more (I : SolI w0 up n l Z L z lL sv S J U B mv wv mb h g c lbs F row W T wr) (hb : Below wr.heap.size wr w2) : SolI w0 up n l Z L z lL sv S J U B mv wv mb h g c lbs F row W T w2 := by
  have k : Kept (fun _ => False) wr w2 := Kept.of_below hb fun i h1 h2 => absurd h2 (Nat.not_lt_of_ge h1)
  obtain ⟨b1, b2, b3, b4, b5, b6, b7⟩ := I.base k (fun b h => h.elim)
  exact ⟨b1, b2, b3, b4, own_kept I.lab k (fun _ _ h => h), I.us.kept k (fun h => h) (fun _ _ _ _ h => h), I.q.kept k (fun h => h) (fun h => h) (fun h => h) (fun h => h) (fun h => h), I.gn, I.ge, b5, b6, b7⟩
/-- One user more. -/
theorem SolI.user (I : SolI w0 up n l Z L z lL sv S J U B mv wv mb h g c lbs F row W T wr) {k0 i : Nat} (hk : k0 < l) {o : Obj} {w1 : World} {v : Value} (ho : w1.ownsRow B 3 1 v ((F k0).length + 1) (nums (casts (F k0 ++ [i])))) (hg : (wr.alloc o).grownBy w1 (row k0).ownBlock)
    (hat : v.ownBlock = (row k0).ownBlock ∨ v.ownBlock = some (wr.alloc o).heap.size) :
    SolI w0 up n l Z L z lL sv S J U B mv wv mb h g c lbs (fun k => if k = k0 then F k0 ++ [i] else F k) (fun k => if k = k0 then v else row k) W T (w1.setCell ⟨U, k0, none⟩ v) := by
  have hge := I.ge
  obtain ⟨u1, u2, u3, u4, u5, u6⟩ := I.us_ne
  obtain ⟨hus, hK⟩ := I.us.append (by decide) hk ho hg hat
  have hro : ∀ b, (row k0).ownBlock = some b → B ≤ b ∧ b ≠ mv ∧ b ≠ wv ∧ b ≠ mb ∧ b ≠ h ∧ b ≠ g := by
    intro b hb
    have h1 := u6 k0 hk
    rw [hb] at h1
    simp only [ne_eq, Option.some.injEq] at h1
    have := (I.us.row_lt hk hb).1
    omega
  obtain ⟨b1, b2, b3, b4, b5, b6, b7⟩ := I.base hK (by
    rintro b (e | e)
    · omega
    · exact (hro b e).1)
  refine ⟨b1, b2, b3, b4, own_kept I.lab hK (fun b hb => ?_), hus, I.q.kept hK ?_ ?_ ?_ ?_ ?_, fun k hkl e => ?_, hge, b5, b6, b7⟩
  · have h1 := I.lab_ne b hb
    rintro (e | e)
    · exact h1.1 e
    · exact h1.2.2.2.2.2.2 k0 hk e
  · rintro (e | e)
    · exact u1 e.symm
    · exact (hro _ e).2.1 rfl
  · rintro (e | e)
    · exact u2 e.symm
    · exact (hro _ e).2.2.1 rfl
  · rintro (e | e)
    · exact u3 e.symm
    · exact (hro _ e).2.2.2.1 rfl
  · rintro (e | e)
    · exact u4 e.symm
    · exact (hro _ e).2.2.2.2.1 rfl
  · rintro (e | e)
    · exact u5 e.symm
    · exact (hro _ e).2.2.2.2.2 rfl
  · by_cases e2 : k = k0
    · simp only [if_pos e2] at e
      rcases hat with e3 | e3
      · rw [e3] at e; exact I.gn k0 hk e
      · rw [e3] at e
        injection e with e
        obtain ⟨cq, kq, _⟩ := I.q.row
        have := kq.lt
        simp at e
        omega
    · simp only [if_neg e2] at e
      exact I.gn k hkl e
end

set_option maxHeartbeats 8000000 in
set_option maxRecDepth 100000 in
theorem solve_yes (A : Option Addr) (n c : Nat) (up : List Nat) (C D0 : Option Addr) (l lc m mc : Nat) (consts : List Lb) (needs : List (List Nat)) (w : World) (hT : Tab w) (hn : up.length = n) (hn63 : n ≤ maxLen) (hM : Masks up) (hr : Reads w w.heap.size 1 A n (u64s up))
    (hl : consts.length = l) (hl63 : l ≤ 1000) (hc : Reads w w.heap.size 2 C l (lbVals consts)) (hm63 : m ≤ maxLen) (hd : NRows w w.heap.size D0 m (needs.map casts)) (hq : sysB up consts (needs.map casts) = true)
    (hS : Idl.Sys up consts needs) (hcm : ∀ k, k < consts.length → (consts.getD k z0).ms < 2 ^ 64) (hfan : fanF needs ≤ 1000000) :
    Calls Tryd.prog 9 #[.slice A n c, .agg #[.slice C l lc, .slice D0 m mc]] w fun e w' => SolPost up consts needs l w e w' := by
  have hml : maxLen = 9223372036854775807 := rfl
  have hm : m = l := by have := hd.1; rw [List.length_map, hS.len] at this; omega
  subst hm
  have h64 : n ≤ 64 := by rw [← hn]; exact hS.lat.n64
  obtain ⟨i0, hi0, hz0, hz1, hz2⟩ := info_parts2 slice_info
  obtain ⟨i1, hi1, hy0, hy1, hy2⟩ := info_parts1 int_info1
  have hmk := fun W => run_make_rowN (P := Tryd.prog) 24 40 i0 (.slice none 0 0) Tryd.underlying24 hi0 hz0 .i64 .i64 m m (Nat.le_refl _) (by rw [hz2]; omega) (by omega) W
  have hmm := @run_makeMap Tryd.prog
  obtain ⟨W0, hW0⟩ : ∃ W0, w.alloc (.cells #[.slice C m lc, .slice D0 m mc] 26) = W0 := ⟨_, rfl⟩
  have hb0 : Below w.heap.size w W0 := by rw [← hW0]; exact (Below.refl _ w).alloc (Nat.le_refl _) _
  have k0 : Blk W0 w.heap.size 26 #[.slice C m lc, .slice D0 m mc] := by rw [← hW0]; exact Blk.new w _ _
  have hRi := sright_any A n c up C D0 m lc m mc consts (needs.map casts) _ (hT.later hb0) hn hn63 hM ((hr.below hb0).more hb0.size) hl (by omega) ((hc.below hb0).more hb0.size) hm63 ((hd.below hb0).more hb0.size)
  rw [hq] at hRi
  obtain ⟨s0, s1⟩ := pair_cells k0
  replace hRi := Lib.hid hRi
  replace hb0 := Lib.hid hb0
  replace k0 := Lib.hid k0
  replace hr := Lib.hid hr
  replace hM := Lib.hid hM
  replace hT := Lib.hid hT
  replace hc := Lib.hid hc
  replace hd := Lib.hid hd
  replace hn := Lib.hid hn
  replace hl := Lib.hid hl
  replace hq := Lib.hid hq
  replace hS := Lib.hid hS
  replace hcm := Lib.hid hcm
  go_enter Tryd.func9, Tryd.ntmps9
  go_wp2_with fail
  refine hRi.out.mono ?_
  rintro x w1 ⟨rfl, hb1⟩
  have k1 := k0.out.below hb1 k0.out.lt
  obtain ⟨s2, s3⟩ := pair_cells k1
  have hB1 := hb0.out.trans (hb1.mono hb0.out.size)
  have hTab := table_any A n c up w1 hn.out hS.out.lat hM.out ((hr.out.below hB1).more hB1.size)
  replace hTab := Lib.hid hTab
  replace hB1 := Lib.hid hB1
  replace k1 := Lib.hid k1
  clear hb1 s0 s1
  go_wp2_with fail
  refine hTab.out.mono ?_
  rintro x w2 ⟨Z, z, rfl, hz2r, hb2⟩
  obtain ⟨W3, hW3⟩ : ∃ W3, w2.alloc (.cells #[.int .i64 (n : Nat), .slice Z (n * n) z] 54) = W3 := ⟨_, rfl⟩
  have hb23 : Below w2.heap.size w2 W3 := by rw [← hW3]; exact (Below.refl _ w2).alloc (Nat.le_refl _) _
  have hB2 := hB1.out.trans (hb2.mono hB1.out.size)
  have hB3 := hB2.trans (hb23.mono hB2.size)
  have k3 := (k1.out.below hb2 k1.out.lt).below hb23 (k1.out.below hb2 k1.out.lt).lt
  have j3 : Blk W3 w2.heap.size 54 #[.int .i64 (n : Nat), .slice Z (n * n) z] := by rw [← hW3]; exact Blk.new w2 _ _
  have z3 := (hz2r.below hb23).more hb23.size
  obtain ⟨s4, s5⟩ := pair_cells k3
  have hCl := clone_any C m lc consts W3 hl.out (by omega) ((hc.out.below hB3).more hB3.size)
  have hw12 : w1.heap.size ≤ w2.heap.size := hb2.size
  replace hCl := Lib.hid hCl
  replace hB2 := Lib.hid hB2
  replace hB3 := Lib.hid hB3
  replace k3 := Lib.hid k3
  replace j3 := Lib.hid j3
  replace z3 := Lib.hid z3
  replace hb23 := Lib.hid hb23
  clear hb2 hz2r s2 s3
  go_wp2_with fail
  refine hCl.out.mono ?_
  rintro x w4 ⟨L, lL, rfl, ho4, hb4⟩
  have k4 := k3.out.below hb4 k3.out.lt
  have j4 := j3.out.below hb4 j3.out.lt
  have z4 := z3.out.below hb4
  have hB4 := hB3.out.trans (hb4.mono hB3.out.size)
  have hBw : w.heap.size ≤ W3.heap.size := hB3.out.size
  have hW3s : W3.heap.size = w2.heap.size + 1 := by rw [← hW3]; simp
  have hS1 : w.heap.size < w2.heap.size := Nat.lt_of_lt_of_le k1.out.lt hw12
  have hB34 : W3.heap.size ≤ w4.heap.size := hb4.size
  obtain ⟨X, hX⟩ : ∃ X, (((((w4.alloc (.cells (madeCells #[.slice none 0 0] m) 40)).alloc (.cells #[] 3)).alloc (.cells #[.slice (some ⟨(w4.heap.size + 1), 0, none⟩) 0 0] 58)).alloc (.map #[] 0)).alloc (.cells #[.pointer (some ⟨(w4.heap.size + 1 + 1), 0, none⟩)] 57)).alloc (.cells #[.map (some (w4.heap.size + 1 + 1 + 1))] 59) = X := ⟨_, rfl⟩
  have hb4X : Below w4.heap.size w4 X := by
    rw [← hX]
    exact (((((((Below.refl _ w4).alloc (Nat.le_refl _) _).alloc (by simp) _).alloc (by simp; omega) _).alloc (by simp; omega) _).alloc (by simp; omega) _).alloc (by simp; omega) _)
  have hstart : SolI w up n m Z L z lL #[.slice C m lc, .slice D0 m mc] w.heap.size w2.heap.size w4.heap.size W3.heap.size (w4.heap.size + 1 + 1 + 1 + 1 + 1) (w4.heap.size + 1 + 1 + 1 + 1) (w4.heap.size + 1 + 1 + 1) (w4.heap.size + 1 + 1) (w4.heap.size + 1) 0 consts (fun _ => []) (fun _ => .slice none 0 0) [] 0 X := by
    refine ⟨hB4.trans (hb4X.mono hB4.size), k4.below hb4X k4.lt, j4.below hb4X j4.lt, z4.below (hb4X.mono hB34), ?_, ⟨?_, fun k _ => World.ownsRow_nil _ _ _ _, fun k k' _ _ _ b hb => by simp [Value.ownBlock] at hb⟩, ⟨?_, ?_, ?_, ?_, ?_⟩, fun k _ => by simp [Value.ownBlock], by omega, ?_, ?_, ?_⟩
    · rw [← hX]
      exact (((((ho4.alloc _).alloc _).alloc _).alloc _).alloc _).alloc _
    · have e : ((List.range m).map fun _ => Value.slice none 0 0).toArray = madeCells #[Value.slice none 0 0] m := by
        apply Array.ext
        · simp [size_madeCells]
        · intro i h1 h2
          simp [madeCells, Nat.mod_one]
      rw [e, ← hX]
      exact (((((Blk.new w4 _ _).alloc _).alloc _).alloc _).alloc _).alloc _
    · rw [← hX]
      exact Blk.new_at _ _ _ _ (by simp)
    · rw [← hX]
      exact (Blk.new_at _ _ _ _ (by simp)).alloc _
    · rw [← hX]
      exact (((Blk.new_at _ _ _ _ (by simp)).alloc _).alloc _).alloc _
    · refine ⟨#[], ?_, rfl, Nat.le_refl _, Nat.zero_le _, rfl⟩
      rw [← hX]
      exact ((((Blk.new_at _ _ _ _ (by simp)).alloc _).alloc _).alloc _).alloc _
    · refine ⟨.map [], ?_, WaitsD.start⟩
      have e : (w4.heap.size + 1 + 1 + 1) = (((w4.alloc (.cells (madeCells #[.slice none 0 0] m) 40)).alloc (.cells #[] 3)).alloc (.cells #[.slice (some ⟨(w4.heap.size + 1), 0, none⟩) 0 0] 58)).heap.size := by simp
      rw [← hX, e]
      exact ((World.ownsMap_made _ _ _ _).alloc _).alloc _
    · omega
    · rw [hW3s]; omega
    · exact Nat.le_trans hB34 hb4X.size
  obtain ⟨s6, s7⟩ := pair_cells k4
  have hX1 := (k4.below hb4X k4.lt).cell 0
  obtain ⟨s8, s9⟩ := pair_cells (k4.below hb4X k4.lt)
  replace hstart := Lib.hid hstart
  replace hb4 := Lib.hid hb4
  replace ho4 := Lib.hid ho4
  replace k4 := Lib.hid k4
  replace j4 := Lib.hid j4
  replace z4 := Lib.hid z4
  replace hB4 := Lib.hid hB4
  replace hb4X := Lib.hid hb4X
  replace hW3s := Lib.hid hW3s
  clear s4 s5 hX1 hS1 hBw hB34 hw12
  go_wp2
  generalize w4.heap.size + 1 + 1 + 1 + 1 + 1 = MV at *
  generalize w4.heap.size + 1 + 1 + 1 + 1 = WV at *
  generalize w4.heap.size + 1 + 1 + 1 = MB at *
  generalize w4.heap.size + 1 + 1 = Hq at *
  generalize w4.heap.size + 1 = G at *
  generalize w4.heap.size = U at *
  obtain ⟨P1, hP1⟩ : ∃ P1 : Nat → Nat → World → Prop, ∀ i t wr, P1 i t wr ↔ ∃ row W g c, W.Perm (List.range i) ∧ SolI w up n m Z L z lL #[.slice C m lc, .slice D0 m mc] w.heap.size w2.heap.size U W3.heap.size MV WV MB Hq g c consts (usersTo needs i t) row W i wr := ⟨_, fun _ _ _ => Iff.rfl⟩
  have hP0 : P1 0 0 X := (hP1 0 0 X).2 ⟨_, [], G, 0, List.Perm.refl _, by
    have e : usersTo needs 0 0 = fun _ => [] := funext fun k => usersTo_zero needs k
    rw [e]
    exact hstart.out⟩
  replace hP1 := Lib.hid hP1
  replace hP0 := Lib.hid hP0
  go_loopw [42] (fun v wr => ∃ i : Nat, v = .int .i64 (i : Nat) ∧ i ≤ m ∧ P1 i 0 wr) (fun v wr => m - natOf v)
  case atStart => exact ⟨0, rfl, by omega, hP0.out⟩
  case round =>
    obtain ⟨i, rfl, him, hI⟩ := hrel
    by_cases hi : i < m
    · have hlt : ((i : Int) < (m : Int)) := by omega
      obtain ⟨ad2, A2, c2, hD, e2, hcl2, hA2⟩ : ∃ ad2 A2 c2, D0 = some ad2 ∧ wr.cell? (ad2.add i) = some (.slice A2 (needs.getD i []).length c2) ∧ (needs.getD i []).length ≤ 9223372036854775807 ∧ Reads w w.heap.size 1 A2 (needs.getD i []).length (nums (casts (needs.getD i []))) := by
        obtain ⟨row, W, g, c', hp, I⟩ := (hP1.out i 0 wr).1 hI
        obtain ⟨ad2, A2, c2, hD, hbk2, e2, l1, l2, hrow⟩ := hd.out.at_ hi
        rw [castss_getD, casts_len'] at e2 l1 hrow
        exact ⟨ad2, A2, c2, hD, (I.low.cell (by rw [block_of_add]; exact hbk2)).trans e2, by omega, hrow⟩
      subst hD
      have hnd := hS.out.nd i (by have := hl.out; omega)
      rw [hl.out] at hnd
      have hus := fun t (ht : t < (needs.getD i []).length) => funext (usersTo_snoc needs (i := i) (t := t) ht)
      have hfb := fun t k (hk : k < m) => usersTo_len needs (i := i) (t := t) (k := k) (by have := hS.out.len; have := hl.out; omega) (by have := hS.out.len; have := hl.out; omega)
      have hnext := funext (usersTo_next needs i)
      generalize hns : needs.getD i [] = ns at *
      replace hns := Lib.hid hns
      obtain ⟨NN, hNN⟩ : ∃ NN, NN = ns.length := ⟨_, rfl⟩
      rw [← hNN] at e2 hcl2 hA2
      replace hNN := Lib.hid hNN
      replace hI := Lib.hid hI
      replace hnd := Lib.hid hnd
      replace hus := Lib.hid hus
      replace hfb := Lib.hid hfb
      replace hnext := Lib.hid hnext
      replace hA2 := Lib.hid hA2
      go_wp2
      go_loopw [49] (fun v wr' => ∃ t : Nat, v = .int .i64 (t : Nat) ∧ t ≤ NN ∧ P1 i t wr') (fun v wr' => NN - natOf v)
      case atStart => exact ⟨0, rfl, by omega, hI.out⟩
      case round =>
        obtain ⟨t, rfl, htN, hJ⟩ := hrel
        obtain ⟨row, W, g, c', hp, I⟩ := (hP1.out i t _).1 hJ
        by_cases ht : t < NN
        · have hlt2 : ((t : Int) < (NN : Int)) := by omega
          have htl : t < ns.length := by have := hNN.out; omega
          obtain ⟨ad3, hA3, hbk3, hcl⟩ := (hA2.out.below I.low).2 (by omega)
          subst hA3
          have u0 := hcl t _ (nums_at (by rw [casts_len']; exact htl))
          rw [casts_getD] at u0
          have hkm : ns.getD t 0 < m := hnd.out _ (by rw [List.getD_eq_getElem?_getD, List.getElem?_eq_getElem htl]; exact List.getElem_mem htl)
          have husk := hus.out t htl
          generalize ns.getD t 0 = k at *
          have hlt3 : ((k : Int) < (m : Int)) := by omega
          obtain ⟨A4, c4, hrk⟩ := I.us.slice hkm
          have hlen := hfb.out t k hkm
          have v0 := I.us.cell hkm
          rw [hrk] at v0
          have a0 : (⟨U, 0, none⟩ : Addr).add k = ⟨U, k, none⟩ := add0' U k
          have hro := I.us.own k hkm
          have hUb := I.us.blk
          have hUr : (row k).ownBlock ≠ some U := I.us.row_ne I.us.blk (by decide) hkm
          have hBr := I.lt.2.2
          have hfl : ∀ (w1 : World) (v' : Value), w1.ownsRow W3.heap.size 3 1 v' ((usersTo needs i t k).length + 1) (nums (casts (usersTo needs i t k)) ++ [Value.int .i64 (i : Nat)]) → (wr.alloc (.cells [Value.int .i64 (i : Nat)].toArray 3)).grownBy w1 (row k).ownBlock →
              (v'.ownBlock = (row k).ownBlock ∨ v'.ownBlock = some (wr.alloc (.cells [Value.int .i64 (i : Nat)].toArray 3)).heap.size) → P1 i (t + 1) (w1.setCell ⟨U, k, none⟩ v') := by
            intro w1 v' ho hg hat
            have e : nums (casts (usersTo needs i t k)) ++ [Value.int .i64 (i : Nat)] = nums (casts (usersTo needs i t k ++ [i])) := by simp [nums, casts]
            rw [e] at ho
            have I2 := I.user hkm ho hg hat
            rw [← husk] at I2
            exact (hP1.out i (t + 1) _).2 ⟨_, W, g, c', hp, I2⟩
          replace hfl := Lib.hid hfl
          replace husk := Lib.hid husk
          replace hp := Lib.hid hp
          replace hJ := Lib.hid hJ
          replace I := Lib.hid I
          replace hcl := Lib.hid hcl
          rw [hrk] at hro
          generalize hfe : usersTo needs i t k = fl at *
          obtain ⟨LN, hLN⟩ : ∃ LN, LN = fl.length := ⟨_, rfl⟩
          rw [← hLN] at v0 hlen hro hrk
          replace hrk := Lib.hid hrk
          replace hro := Lib.hid hro
          replace hLN := Lib.hid hLN
          replace hUb := Lib.hid hUb
          replace hUr := Lib.hid hUr
          replace hfe := Lib.hid hfe
          go_wp2_with (
            at_builtin
            refine wpList_append_any (wr.alloc (.cells [Value.int .i64 (i : Nat)].toArray 3)) rfl _ _ 40 rfl W3.heap.size 3 i1 (.int .i64 0) 1 8 Tryd.underlying40 hi1 hy0 hy1 hy2 rfl (by decide) _ LN (nums (casts fl)) rfl (hro.out.alloc _) _ _ 1 1 [.int .i64 (i : Nat)] rfl (Reads.newN wr 3 1 1 [.int .i64 (i : Nat)] rfl) (by simp [Value.oneCell']) (by rw [hml]; omega) (by omega) (Nat.le_trans hBr (by simp)) ?_
            intro v' w1 ho1 hg1 hat
            obtain ⟨A5, c5, rfl⟩ := ownsRow_slice ho1
            rw [← hrk.out] at hg1 hat
            have kU1 := (hUb.out.alloc (.cells [Value.int .i64 (i : Nat)].toArray 3)).grown hg1 (fun e => hUr.out e.symm)
            have f1 := kU1.frozen k
            have q1 : w1.cell? ⟨U, k, none⟩ = some (row k) := by rw [kU1.cell k]; simp [hkm]
            have fin := hfl.out w1 _ (by rw [← hLN.out]; exact ho1) hg1 hat
            rw [hrk.out] at q1
            replace fin := Lib.hid fin
            replace kU1 := Lib.hid kU1
            clear ho1 hg1 hat)
          go_roundw
          case rel => exact ⟨t + 1, by go_num, by omega, fin.out⟩
          case measure => simp [natOf]; omega
        · have hte : t = NN := by omega
          have hlt2 : ¬ ((t : Int) < (NN : Int)) := by omega
          rw [hte, hNN.out, ← hnext.out] at I
          have hpu := I.q
          have hWl : W.length = i := by rw [hp.length_eq, List.length_range]
          have hiW : i ∉ W := fun h => by have := List.mem_range.1 (hp.mem_iff.1 h); omega
          have hput := put_any MV WV MB Hq g c' W i i wr hpu (by omega) (by omega) (by omega)
          replace hput := Lib.hid hput
          replace hJ := Lib.hid hJ
          replace hp := Lib.hid hp
          replace I := Lib.hid I
          replace hpu := Lib.hid hpu
          go_wp2_with fail
          refine hput.out.mono ?_
          rintro e wp ⟨rfl, hpp⟩
          have hfin : P1 (i + 1) 0 wp := by
            obtain ⟨W', g2, c3, hp2, I2⟩ := I.out.put hpp
            refine (hP1.out (i + 1) 0 wp).2 ⟨row, W', g2, c3, hp2.trans ?_, I2⟩
            unfold putW
            rw [if_neg hiW, List.range_succ]
            exact hp.out.append_right _
          replace hfin := Lib.hid hfin
          clear hpp
          go_wp2
          go_roundw
          case rel => exact ⟨i + 1, by go_num, by omega, hfin.out⟩
          case measure => simp [natOf]; omega
    · have hie : i = m := by omega
      have hlt : ¬ ((i : Int) < (m : Int)) := by omega
      obtain rfl : m = i := hie.symm
      obtain ⟨P3, hP3⟩ : ∃ P3 : Nat → World → Prop, ∀ looks wr, P3 looks wr ↔ ∃ lbs row W g c T, Wk up consts needs lbs W looks ∧ T ≤ m + looks * fanF needs ∧ SolI w up n m Z L z lL #[.slice C m lc, .slice D0 m mc] w.heap.size w2.heap.size U W3.heap.size MV WV MB Hq g c lbs (usersF needs) row W T wr := ⟨_, fun _ _ => Iff.rfl⟩
      have hQ0 : P3 0 wr := by
        obtain ⟨row, W, g, c', hp, I⟩ := (hP1.out m 0 wr).1 hI
        have hlen := hS.out.len
        have e : usersTo needs m 0 = usersF needs := funext fun k => by
          have := usersTo_all needs k
          rw [hlen, hl.out] at this
          exact this
        rw [e] at I
        have hw := Wk.start hS.out hcm.out
        rw [hl.out] at hw
        refine (hP3 0 wr).2 ⟨consts, row, W, g, c', m, ⟨hw.tow, hw.ms, (hp.nodup_iff).2 hw.nd, fun i hi => hw.lt i (hp.mem_iff.1 hi), fun i hi hn => hw.done i hi fun h => hn (hp.mem_iff.2 h), ?_, ?_⟩, by omega, I⟩
        · rw [hp.length_eq]; exact hw.lo
        · rw [hp.length_eq]; exact hw.hi
      obtain ⟨K, hK⟩ : ∃ K, K = m + m * fanF needs * (heightN up + 64) := ⟨_, rfl⟩
      have hKb : K ≤ 130000001000 := by
        have h1 := heightN_le up
        have h2 : m * fanF needs ≤ 1000 * 1000000 := Nat.mul_le_mul hl63 hfan
        have h3 : m * fanF needs * (heightN up + 64) ≤ 1000 * 1000000 * 128 := Nat.mul_le_mul h2 (by have := hn.out; omega)
        omega
      replace hK := Lib.hid hK
      replace hI := Lib.hid hI
      replace hP3 := Lib.hid hP3
      replace hQ0 := Lib.hid hQ0
      go_wp2
      go_loopw [17] (fun v wr => ∃ looks : Nat, v = .int .i64 (looks : Nat) ∧ P3 looks wr) (fun v wr => K - natOf v)
      case atStart => exact ⟨0, rfl, hQ0.out⟩
      case round =>
        obtain ⟨looks, rfl, hQ⟩ := hrel
        obtain ⟨lbs, row, W, g, c', T, hw, hTl, I⟩ := (hP3.out looks wr).1 hQ
        have d0 := I.q.wvk.cell0
        have d1 := I.q.hk.cell0
        have hWK := hw.hi
        rw [hl.out, ← hK.out] at hWK
        have hne := I.q.ne
        rcases Nat.eq_zero_or_pos W.length with hW0 | hW0
        · have hWn : W = [] := List.eq_nil_of_length_eq_zero hW0
          subst hWn
          have hpost : SolPost up consts needs m w (.returned (.tuple #[.slice L m lL, .int .i64 (looks : Nat), .int .i64 0])) wr := by
            obtain ⟨h1, h2, h3⟩ := hw.least
            have hlc := ownsRow_cap I.lab
            exact ⟨L, lL, lbs, looks, rfl, Reads.of_own I.lab, hlc.1, hlc.2, h1, hw.ms, h2, h3, I.low⟩
          replace hpost := Lib.hid hpost
          replace I := Lib.hid I
          replace hw := Lib.hid hw
          replace hQ := Lib.hid hQ
          clear hne
          go_wp2_with (go_at_call 28; refine (wlen_any (some ⟨g, 0, none⟩) 0 c' wr).mono ?_; rintro e w2 ⟨rfl, rfl⟩)
          exact bodyPost_ret (v := .tuple #[.slice L m lL, .int .i64 (looks : Nat), .int .i64 0]) (by simp [results, Tryd.f9, go_sem]) rfl hpost.out
        · obtain ⟨LW, hLW⟩ : ∃ LW, W.length = LW + 1 := ⟨W.length - 1, by omega⟩
          have hkq := I.q.hk
          rw [hLW] at hkq d1
          obtain ⟨LV, hLV⟩ : ∃ LV, LV = LW + 1 := ⟨_, rfl⟩
          have hpop := hpop_any Hq g c' (casts W) LW wr (by rw [casts_len]; exact hLW) hkq I.q.row hne.2.2.2.2.2.2.1 (by omega)
          rw [← hLV] at d1
          have hgt : ((0 : Int) < (LV : Int)) := by omega
          replace hLV := Lib.hid hLV
          replace hpop := Lib.hid hpop
          replace hkq := Lib.hid hkq
          replace I := Lib.hid I
          replace hw := Lib.hid hw
          replace hQ := Lib.hid hQ
          replace hne := Lib.hid hne
          have hta := fun (v : Value) (W : World) => assert_int v W
          go_wp2_with (first | (go_at_call 28; refine (wlen_any (some ⟨g, 0, none⟩) LV c' wr).mono ?_; rintro e w2 ⟨rfl, rfl⟩) | fail)
          refine hpop.out.mono ?_
          rintro e wp ⟨x, zs', rfl, hperm, kp, zp, hKp⟩
          obtain ⟨i, rfl, W0', hWp, zp', kp'⟩ : ∃ i : Nat, x = (i : Int) ∧ ∃ W0' : List Nat, W.Perm (i :: W0') ∧ Qrow wp g 3 c' (casts W0') ∧ Blk wp Hq 58 #[.slice (some ⟨g, 0, none⟩) W0'.length c'] := by
            obtain ⟨V, hV, hVW⟩ := perm_casts hperm.symm
            rcases V with _ | ⟨i, W0'⟩
            · cases hV
            · injection hV with h1 h2
              have hl1 := hVW.length_eq
              rw [List.length_cons, hLW] at hl1
              refine ⟨i, h1, W0', hVW.symm, by have e : zs' = casts W0' := h2; rw [← e]; exact zp, ?_⟩
              have : W0'.length = LW := by omega
              rw [this]; exact kp
          have hit : i < m := by
            have := hw.out.lt i (hWp.mem_iff.2 (by simp))
            rw [hl.out] at this
            exact this
          obtain ⟨D, hown, hD⟩ := I.out.q.map
          have hneo := hne.out
          have hownp := map_kept hown hKp (by rintro (e | e) <;> omega)
          have hmvp := (I.out.q.mvk.at_kept hKp (by rintro (e | e) <;> omega)).cell0
          have hkey : keyOf Tryd.prog 3 (.int .i64 (i : Nat)) = some (.int .i64 (i : Nat)) := keyOf_int_mk Tryd.underlying3 (nat_wf (by omega))
          have hafter : ∀ wd, wd.ownsMap Tryd.prog 3 (plainElem Tryd.prog 3) MB T (D.del (.int .i64 (i : Nat))) → wp.mapTurned wd MB → SolI w up n m Z L z lL #[.slice C m lc, .slice D0 m mc] w.heap.size w2.heap.size U W3.heap.size MV WV MB Hq g c' lbs (usersF needs) row W0' T wd := by
            intro wd ho hturn
            have hKd : Kept (fun k => k = MB) wp wd := Kept.of_grown hturn.grown fun g e => (Option.some.inj e).symm
            have hKK := hKp.trans hKd (T := fun k => k = MB ∨ k = Hq ∨ k = g) (fun _ _ h => .inr h) (fun _ _ h => .inl h)
            refine I.out.turn ⟨I.out.q.mvk.at_kept hKK (by rintro (e | e | e) <;> omega), I.out.q.wvk.at_kept hKK (by rintro (e | e | e) <;> omega), kp'.at_kept hKd (fun e => by omega), zp'.kept hKd (fun e => by omega), _, ho, hD.del hw.out.nd hWp⟩ (.inl rfl) hKK
          replace hafter := Lib.hid hafter
          replace hownp := Lib.hid hownp
          replace hWp := Lib.hid hWp
          replace hD := Lib.hid hD
          clear hown zp kp zp' kp' hKp hperm hneo
          go_wp2_with (first
            | (at_delete
               refine wpList_delete_own wp rfl _ _ 59 3 rfl 3 klaw Tryd.underlying59 _ MB T D rfl hownp.out _ _ rfl hkey ?_
               intro wd ho1 hturn
               have Id := hafter.out wd ho1 hturn
               have e1 := Id.j
               obtain ⟨j0, j1⟩ := pair_cells Id.j
               obtain ⟨t0, t1⟩ := pair_cells Id.s
               replace Id := Lib.hid Id
               clear ho1 hturn e1)
            | fail)
          have hLb := hw.out.tow.lbs
          have hLm := hw.out.ms
          have hlg := hLb
          rw [hl.out] at hLb hLm
          have hval := value_any n up Z z C D0 L m lc m mc lL consts needs lbs i wd hn.out (Id.out.tab.more Id.out.lt.2.2) hS.out hcm.out hl.out (by omega) ((hc.out.below Id.out.low).more Id.out.low.size) ((hd.out.below Id.out.low).more Id.out.low.size) hLb hLm (Reads.of_own Id.out.lab) hit
          replace hval := Lib.hid hval
          replace hLb := Lib.hid hLb
          replace hLm := Lib.hid hLm
          refine hval.out.mono ?_
          rintro e wv ⟨rfl, hbv⟩
          obtain ⟨GL, cap, hLf, _, _⟩ := Id.out.lab.form (by omega)
          injection hLf with hL1 _ hL2
          subst hL1 hL2
          obtain ⟨X6, hX6⟩ : ∃ X6, wv.alloc (.cells #[.int .i64 (valF up consts needs lbs i).lv, .int .u64 ((valF up consts needs lbs i).ms : Nat)] 29) = X6 := ⟨_, rfl⟩
          have hb6 : Below wv.heap.size wv X6 := by rw [← hX6]; exact (Below.refl _ wv).alloc (Nat.le_refl _) _
          have k6 : Blk X6 wv.heap.size 29 (lbC (valF up consts needs lbs i)) := by rw [← hX6]; exact Blk.new wv _ _
          have I6 := (Id.out.more hbv).more hb6
          obtain ⟨v0, v1⟩ := pair_cells k6
          obtain ⟨l0, l1⟩ := lbVals_at lbs i (by rw [hlg.len, hl.out]; exact hit)
          have x0 := I6.lab.cellAt (i * 2) (by omega)
          have x1 := I6.lab.cellAt (i * 2 + 1) (by omega)
          rw [l0] at x0
          rw [l1] at x1
          change X6.cell? ⟨GL, i * 2, none⟩ = some (Value.int .i64 (lbs.getD i z0).lv) at x0
          change X6.cell? ⟨GL, i * 2 + 1, none⟩ = some (Value.int .u64 ((lbs.getD i z0).ms : Nat)) at x1
          have a0 : (⟨GL, 0, none⟩ : Addr).add (i * 2) = ⟨GL, i * 2, none⟩ := add0' GL (i * 2)
          have f0 := I6.lab.frozenAt (i * 2)
          have f1 := I6.lab.frozenAt (i * 2 + 1)
          have hlti : ((i : Int) < (m : Int)) := by omega
          have hsame := Wk.same hw.out hWp.out
          have hchg := fun W1 => Wk.change hS.out hcm.out (W1 := W1) hw.out hWp.out
          have hlook : looks + 1 ≤ K := by omega
          have hlabel := I6.label i (valF up consts needs lbs i)
          obtain ⟨A6, c6, hr6⟩ := hlabel.us.slice hit
          have u6 := hlabel.us.cell hit
          rw [hr6] at u6
          have a6 : (⟨U, 0, none⟩ : Addr).add i = ⟨U, i, none⟩ := add0' U i
          have hf6 : (usersF needs i).length ≤ fanF needs := by
            rw [users_len]
            exact times_le_fan (by have := hS.out.len; have := hl.out; omega)
          generalize hve : valF up consts needs lbs i = y at *
          generalize hxe : lbs.getD i z0 = x at *
          generalize hue : usersF needs i = us at *
          replace hsame := Lib.hid hsame
          replace hchg := Lib.hid hchg
          replace hlabel := Lib.hid hlabel
          replace I6 := Lib.hid I6
          replace Id := Lib.hid Id
          replace k6 := Lib.hid k6
          replace hb6 := Lib.hid hb6
          replace hbv := Lib.hid hbv
          replace hlg := Lib.hid hlg
          replace hve := Lib.hid hve
          replace hxe := Lib.hid hxe
          replace hr6 := Lib.hid hr6
          replace hWK := Lib.hid hWK
          clear l0 l1
          by_cases hyx : y = x
          · subst hyx
            have e1 : (y.lv == y.lv && ((y.ms : Nat) : Int) == ((y.ms : Nat) : Int)) = true := by simp
            have hEq := fun W => label_equalIn y.lv y.lv (y.ms : Nat) (y.ms : Nat) W
            rw [e1] at hEq
            go_wp2
            go_quiet (fail)
            go_wp2
            go_roundw
            case rel => exact ⟨looks + 1, by go_num, (hP3.out (looks + 1) _).2 ⟨lbs, row, W0', g, c', T, hsame.out (by trivial), by rw [Nat.add_mul]; omega, I6.out.more (below_drewNs (Below.refl _ _) nq)⟩⟩
            case measure => simp [natOf]; omega
          · have e1 : (y.lv == x.lv && ((y.ms : Nat) : Int) == ((x.ms : Nat) : Int)) = false := by
              cases hb : (y.lv == x.lv && ((y.ms : Nat) : Int) == ((x.ms : Nat) : Int)) with
              | false => rfl
              | true =>
                rw [Bool.and_eq_true, beq_iff_eq, beq_iff_eq] at hb
                exact absurd (by cases y; cases x; simp at hb ⊢; omega) hyx
            have hEq := fun W => label_equalIn y.lv x.lv (y.ms : Nat) (x.ms : Nat) W
            rw [e1] at hEq
            go_wp2
            go_quiet (fail)
            have hqq : SolI w up n m Z (some ⟨GL, 0, none⟩) z lL #[.slice C m lc, .slice D0 m mc] w.heap.size w2.heap.size U W3.heap.size MV WV MB Hq g c' (lbs.set i y) (usersF needs) row W0' T (((X6.drewN nq).setCell ⟨GL, i * 2, none⟩ (.int .i64 y.lv)).setCell ⟨GL, i * 2 + 1, none⟩ (.int .u64 (y.ms : Nat))) := (I6.out.more (below_drewNs (Below.refl _ _) nq)).label i y
            have u6q := hqq.us.cell hit
            rw [hr6.out] at u6q
            replace hqq := Lib.hid hqq
            go_wp2
            have hW0l : W0'.length + 1 ≤ K := by
              have h1 := hWp.out.length_eq
              rw [List.length_cons] at h1
              have := hWK.out
              omega
            have hTb : T ≤ 1000 + 130000001000 * 1000000 := by
              have h1 : looks * fanF needs ≤ 130000001000 * 1000000 := Nat.mul_le_mul (by omega) hfan
              omega
            have hnd0 := (List.nodup_cons.1 ((hWp.out.nodup_iff).1 hw.out.nd)).2
            have hWt := fun t => (putW_all (us.take t) W0' hnd0)
            have huslt : ∀ t, t < us.length → us.getD t 0 < m := by
              intro t ht
              have hm1 : us.getD t 0 ∈ us := by
                rw [List.getD_eq_getElem?_getD, List.getElem?_eq_getElem (by omega)]
                exact List.getElem_mem (by omega)
              have hm2 : us.getD t 0 ∈ usersF needs i := by rw [hue]; exact hm1
              have h3 := (mem_users.1 hm2).1
              have := hS.out.len
              have := hl.out
              omega
            obtain ⟨P4, hP4⟩ : ∃ P4 : Nat → World → Prop, ∀ t wr, P4 t wr ↔ ∃ W g c T', W.Perm ((us.take t).foldl putW W0') ∧ T' ≤ T + t ∧ SolI w up n m Z (some ⟨GL, 0, none⟩) z lL #[.slice C m lc, .slice D0 m mc] w.heap.size w2.heap.size U W3.heap.size MV WV MB Hq g c (lbs.set i y) (usersF needs) row W T' wr := ⟨_, fun _ _ => Iff.rfl⟩
            have hR0 := (hP4 0 _).2 ⟨W0', g, c', T, List.Perm.refl _, by omega, hqq.out⟩
            replace hP4 := Lib.hid hP4
            replace hR0 := Lib.hid hR0
            replace hWt := Lib.hid hWt
            replace hnd0 := Lib.hid hnd0
            replace huslt := Lib.hid huslt
            go_wp2
            go_loopw [106] (fun v wr => ∃ t : Nat, v = .int .i64 (t : Nat) ∧ t ≤ us.length ∧ P4 t wr) (fun v wr => us.length - natOf v)
            case atStart => exact ⟨0, rfl, by omega, hR0.out⟩
            case round =>
              obtain ⟨t, rfl, htL, hR⟩ := hrel
              by_cases ht : t < us.length
              · have hltt : ((t : Int) < (us.length : Int)) := by omega
                obtain ⟨V, gq, cq, T', hVp, hT', Iq⟩ := (hP4.out t _).1 hR
                have hkm := huslt.out t ht
                have hrow := Iq.us.own i hit
                rw [hr6.out, hue] at hrow
                obtain ⟨ad7, hA7, hbk7, hcl7⟩ := (Reads.of_own hrow).2 (by omega)
                subst hA7
                have u7 := hcl7 t _ (nums_at (by rw [casts_len']; omega))
                rw [casts_getD] at u7
                have hVl : V.length ≤ W0'.length + t := by
                  rw [hVp.length_eq]
                  have h1 := (hWt.out t).2.2.1
                  have h2 : (us.take t).length ≤ t := by rw [List.length_take]; omega
                  omega
                have hput := put_any MV WV MB Hq gq cq V T' (us.getD t 0) wr Iq.q (by omega) (by omega) (by omega)
                have hnx : (us.take (t + 1)).foldl putW W0' = putW ((us.take t).foldl putW W0') (us.getD t 0) := by
                  have htu : t < us.length := by omega
                  rw [List.take_succ_eq_append_getElem htu, List.foldl_append, List.getD_eq_getElem?_getD, List.getElem?_eq_getElem htu]
                  rfl
                have hafter : ∀ wx, PutPost MV WV MB Hq gq V T' (us.getD t 0) wr wx → P4 (t + 1) wx := by
                  intro wx hpp
                  obtain ⟨V', g2, c3, hp2, I2⟩ := Iq.put hpp
                  refine (hP4.out (t + 1) wx).2 ⟨V', g2, c3, T' + 1, ?_, by omega, I2⟩
                  rw [hnx]
                  exact hp2.trans (putW_perm hVp _)
                replace hafter := Lib.hid hafter
                replace hput := Lib.hid hput
                replace hnx := Lib.hid hnx
                replace hcl7 := Lib.hid hcl7
                replace hrow := Lib.hid hrow
                replace Iq := Lib.hid Iq
                replace hVp := Lib.hid hVp
                replace hR := Lib.hid hR
                generalize us.getD t 0 = k at *
                go_wp2_with fail
                refine hput.out.mono ?_
                rintro e wx ⟨rfl, hpp⟩
                have hfin := Lib.hid (hafter.out wx hpp)
                clear hpp
                go_wp2
                go_roundw
                case rel => exact ⟨t + 1, by go_num, by omega, hfin.out⟩
                case measure => simp [natOf]; omega
              · have hte : t = us.length := by omega
                have hltt : ¬ ((t : Int) < (us.length : Int)) := by omega
                have hfin : P3 (looks + 1) wr := by
                  obtain ⟨V, gq, cq, T', hVp, hT', Iq⟩ := (hP4.out t _).1 hR
                  rw [List.take_of_length_le (by omega)] at hVp
                  exact (hP3.out (looks + 1) wr).2 ⟨lbs.set i y, row, V, gq, cq, T', hchg.out V hyx hVp, by rw [Nat.add_mul]; omega, Iq⟩
                replace hfin := Lib.hid hfin
                replace hR := Lib.hid hR
                go_wp2
                go_roundw
                case rel => exact ⟨looks + 1, by go_num, hfin.out⟩
                case measure => simp [natOf]; omega
end Go.Proofs.YtleckdbdhkgcpaaDoor
