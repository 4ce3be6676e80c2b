/- A row that grows, among rows in memory of the call's own; what SolveGrows says, plainly. -/
import Derived.Test.YtleckdbdhkgcpaaDoorVn
import Derived.Test.YtleckdbdhkgcpaaDoorVy
namespace Go.Idl
open Go Go.RowKit
set_option linter.unusedSimpArgs false
set_option linter.unusedVariables false

theorem map_updV {n k : Nat} {v : Value} {f : Nat → Value} (hk : k < n) : (List.range n).map (fun j => if j = k then v else f j) = ((List.range n).map f).set k v := by
  apply List.ext_getElem
  · simp
  · intro j h3 h4
    simp only [List.length_map, List.length_range] at h3
    rw [List.getElem_set]
    by_cases e : k = j
    · subst e; simp
    · rw [if_neg e]
      simp [show j ≠ k from fun e2 => e e2.symm]
/-- One row's slice is another one, in memory of its own. -/
theorem OwnRows.put_ {w w1 : World} {ti tsl : TypeId} {base m c g : Nat} {F : Nat → List Int} {row : Nat → Value} (h : OwnRows w1 ti tsl base (.slice (some ⟨g, 0, none⟩) m c) m F row) (hne : ti ≠ tsl) {a : Nat} (ha : a < m) {v : Value} {zs : List Int}
    (hv : ∃ A c, v = .slice A zs.length c) (ho : w1.ownsRow base ti 1 v zs.length (nums zs)) (hfar : ∀ k, k < m → k ≠ a → ∀ b, (row k).ownBlock = some b → v.ownBlock ≠ some b) :
    OwnRows (w1.setCell ⟨g, a, none⟩ v) ti tsl base (.slice (some ⟨g, 0, none⟩) m c) m (fun k => if k = a then zs else F k) (fun k => if k = a then v else row k) := by
  have hgl : ∀ {e : TypeId} {vv : Value} {n : Nat} {xs : List Value}, w1.ownsRow base e 1 vv n xs → e ≠ tsl → vv.ownBlock ≠ some g := fun ho hne2 e2 => own_own_ne ho h.own hne2 g e2 rfl
  refine ⟨?_, fun k hk => ?_, fun p q hp hq hpq b hb => ?_⟩
  · rw [map_updV ha]
    exact (h.own.stored a v).1
  · by_cases e : k = a
    · subst e
      simp only [if_true]
      obtain ⟨A, c', e1⟩ := hv
      exact ⟨A, c', e1, ownsRow_setCell ho (hgl ho hne) _⟩
    · simp only [if_neg e]
      obtain ⟨A, c', e1, ho1⟩ := h.rows k hk
      exact ⟨A, c', e1, ownsRow_setCell ho1 (hgl ho1 hne) _⟩
  · by_cases e1 : p = a
    · by_cases e2 : q = a
      · exact absurd (e1.trans e2.symm) hpq
      · simp only [if_pos e1] at hb
        simp only [if_neg e2]
        intro hb2
        exact hfar q hq e2 b hb2 hb
    · simp only [if_neg e1] at hb
      by_cases e2 : q = a
      · simp only [if_pos e2]
        exact hfar p hp e1 b hb
      · simp only [if_neg e2]
        exact h.far p q hp hq hpq b hb
/-- .. as an append leaves it. -/
theorem OwnRows.append {w w1 : World} {ti tsl : TypeId} {base m c g : Nat} {F : Nat → List Int} {row : Nat → Value} (h : OwnRows w ti tsl base (.slice (some ⟨g, 0, none⟩) m c) m F row) (hne : ti ≠ tsl) (hbw : base ≤ w.heap.size) {a : Nat} (ha : a < m) {o : Obj} {v : Value} {x : Int}
    (ho : w1.ownsRow base ti 1 v ((F a).length + 1) (nums (F a ++ [x]))) (hg : (w.alloc o).grownBy w1 (row a).ownBlock) (hat : v.ownBlock = (row a).ownBlock ∨ v.ownBlock = some (w.alloc o).heap.size) :
    OwnRows (w1.setCell ⟨g, a, none⟩ v) ti tsl base (.slice (some ⟨g, 0, none⟩) m c) m (fun k => if k = a then F a ++ [x] else F k) (fun k => if k = a then v else row k) ∧ Below base w (w1.setCell ⟨g, a, none⟩ v) := by
  obtain ⟨A0, c0, er, hor⟩ := h.rows a ha
  have hgb := (h.own.lt g rfl).1
  have hlist : w1.ownsRow base tsl 1 (.slice (some ⟨g, 0, none⟩) m c) m ((List.range m).map row) := World.ownsRow.kept (World.ownsRow.alloc h.own o) hg (.inr fun e => own_own_ne hor h.own hne g (by rw [← e]; rfl) rfl)
  have hothers : ∀ k, k < m → k ≠ a → ∃ A c, row k = .slice A (F k).length c ∧ w1.ownsRow base ti 1 (row k) (F k).length (nums (F k)) := by
    intro k hk hka
    obtain ⟨A, c', e1, ho1⟩ := h.rows k hk
    refine ⟨A, c', e1, World.ownsRow.kept (World.ownsRow.alloc ho1 o) hg ?_⟩
    rcases hb : (row k).ownBlock with _ | b
    · exact .inl rfl
    · exact .inr fun e2 => h.far k a hk ha hka b hb e2.symm
  have hB : Below base w w1 := ((Below.refl base w).alloc hbw o).grown hg (by simp; omega) (fun k hk => (h.row_lt ha hk).1)
  have hlen : (F a ++ [x]).length = (F a).length + 1 := by simp
  have hrow1 : OwnRows w1 ti tsl base (.slice (some ⟨g, 0, none⟩) m c) m (fun k => if k = a then F a ++ [x] else F k) (fun k => if k = a then v else row k) → True := fun _ => trivial
  refine ⟨?_, hB.setCell hgb _⟩
  -- by the put, over rows of which the a-th is no matter
  refine ⟨?_, fun k hk => ?_, fun p q hp hq hpq b hb => ?_⟩
  · rw [map_updV ha]
    exact (hlist.stored a v).1
  · by_cases e : k = a
    · subst e
      simp only [if_true]
      obtain ⟨A, c', e1⟩ := ownsRow_slice ho
      rw [hlen]
      exact ⟨A, c', e1, ownsRow_setCell ho (fun e2 => own_own_ne ho hlist hne g e2 rfl) _⟩
    · simp only [if_neg e]
      obtain ⟨A, c', e1, ho1⟩ := hothers k hk e
      exact ⟨A, c', e1, ownsRow_setCell ho1 (fun e2 => own_own_ne ho1 hlist hne g e2 rfl) _⟩
  · have hnew : ∀ k, k < m → k ≠ a → ∀ b, (row k).ownBlock = some b → v.ownBlock ≠ some b := by
      intro k hk hka b hb hv
      rcases hat with e | e
      · rw [hv] at e
        exact h.far k a hk ha hka b hb e.symm
      · rw [hv] at e
        have := (h.row_lt hk hb).2
        injection e with e
        simp at e
        omega
    by_cases e1 : p = a
    · by_cases e2 : q = a
      · exact absurd (e1.trans e2.symm) hpq
      · simp only [if_pos e1] at hb
        simp only [if_neg e2]
        intro hb2
        exact hnew q hq e2 b hb2 hb
    · simp only [if_neg e1] at hb
      by_cases e2 : q = a
      · simp only [if_pos e2]
        exact hnew p hp e1 b hb
      · simp only [if_neg e2]
        exact h.far p q hp hq hpq b hb

/-- A constant higher, a need more: a system that may be. -/
theorem sys_grown {up : List Nat} {consts : List Lb} {N : List (List Nat)} (S : Idl.Sys up consts N) {a b : Nat} {x : Lb} (ha : a < consts.length) (hb : b < consts.length) (hx : Gd up x) :
    Idl.Sys up (consts.set a (joinL up (consts.getD a z0) x)) (N.set a (N.getD a [] ++ [b])) := by
  refine ⟨S.lat, by rw [List.length_set, List.length_set]; exact S.len, fun i hi => ?_, fun i hi k hk => ?_⟩
  · rw [List.length_set] at hi
    rw [getD_setL]
    split
    · exact S.lat.joinL_gd (S.gd a ha) hx
    · exact S.gd i hi
  · rw [List.length_set] at hi ⊢
    rw [List.getD_eq_getElem?_getD, List.getElem?_set] at hk
    by_cases e : a = i
    · subst e
      have hl : a < N.length := by rw [S.len]; exact ha
      rw [if_pos rfl, if_pos hl] at hk
      simp only [Option.getD_some, List.mem_append, List.mem_singleton] at hk
      rcases hk with h | h
      · exact S.nd a ha k h
      · omega
    · rw [if_neg e, ← List.getD_eq_getElem?_getD] at hk
      exact S.nd i hi k hk
theorem grows_law {up : List Nat} {consts : List Lb} {N : List (List Nat)} (S : Idl.Sys up consts N) {a b : Nat} {x : Lb} (ha : a < consts.length) (hb : b < consts.length) (hx : Gd up x) {l m : List Lb} (hl : Least up consts N l)
    (hm : Least up (consts.set a (joinL up (consts.getD a z0) x)) (N.set a (N.getD a [] ++ [b])) m) : Under up consts.length l m := by
  refine Least.grows S (sys_grown S ha hb hx) (by rw [List.length_set]) (fun i hi => ?_) (fun i hi k hk => ?_) hl hm
  · rw [getD_setL]
    split
    · rename_i h
      obtain ⟨rfl, _⟩ := h
      exact le_joinL_left S.lat (S.gd a ha) hx
    · exact le_refl_of S.lat (S.gd i hi)
  · rw [List.getD_eq_getElem?_getD, List.getElem?_set]
    by_cases e : a = i
    · subst e
      have hl : a < N.length := by rw [S.len]; exact ha
      rw [if_pos rfl, if_pos hl]
      show k ∈ N.getD a [] ++ [b]
      exact List.mem_append_left _ hk
    · rw [if_neg e, ← List.getD_eq_getElem?_getD]
      exact hk
theorem castss_set (N : List (List Nat)) (a b : Nat) (k : Nat) (ha : a < N.length) : ((N.set a (N.getD a [] ++ [b])).map casts).getD k [] = if k = a then casts (N.getD a []) ++ [(b : Int)] else (N.map casts).getD k [] := by
  rw [castss_getD, castss_getD, List.getD_eq_getElem?_getD, List.getElem?_set]
  by_cases e : a = k
  · subst e
    rw [if_pos rfl, if_pos ha, if_pos rfl]
    simp [casts]
  · rw [if_neg e, if_neg (fun h => e h.symm), ← List.getD_eq_getElem?_getD]
theorem wrap_idx (t : Int) (m : Nat) (hm : 0 < m) (hs : m ≤ 60) : ∃ k : Nat, wrap64 ((IntKind.u64.wrap t).tmod (m : Int)) = (k : Int) ∧ k < m := by
  have h0 : 0 ≤ IntKind.u64.wrap t := by
    rw [IntKind.wrap_u64]
    exact Int.emod_nonneg _ (by decide)
  have h1 := Int.tmod_nonneg (m : Int) h0
  have h2 := Int.tmod_lt_of_pos (IntKind.u64.wrap t) (show (0 : Int) < m by omega)
  generalize (IntKind.u64.wrap t).tmod (m : Int) = x at *
  refine ⟨x.toNat, ?_, by omega⟩
  unfold wrap64
  omega
theorem fan_61 {needs : List (List Nat)} (hm : needs.length ≤ 60) (h : ∀ i, i < needs.length → (needs.getD i []).length ≤ 61) : fanF needs ≤ 1000000 := by
  have h4 : ∀ ns ∈ needs, ns.length ≤ 61 := by
    intro ns hns
    obtain ⟨i, hi, rfl⟩ := List.getElem_of_mem hns
    have := h i hi
    rw [List.getD_eq_getElem?_getD, List.getElem?_eq_getElem hi] at this
    exact this
  have := fan_le h4
  have h5 : needs.length * 61 ≤ 60 * 61 := Nat.mul_le_mul_right _ (by omega)
  omega
theorem OwnRows.blk {w : World} {ti tsl : TypeId} {base m c g : Nat} {F : Nat → List Int} {row : Nat → Value} (h : OwnRows w ti tsl base (.slice (some ⟨g, 0, none⟩) m c) m F row) : ∃ cur, Blk w g tsl cur ∧ ∀ k, k < m → cur[k]? = some (row k) := by
  rcases h.own.2 with ⟨h0, _⟩ | ⟨g', cap, cur, hv, _, hh, hcap, hmx, hcs, htk⟩
  · cases h0
  · have e : g = g' := by injection hv with h1; injection h1 with h1; injection h1
    subst e
    refine ⟨cur, hh, fun k hk => ?_⟩
    have h1 : ((List.range m).map row)[k]? = some (row k) := by rw [List.getElem?_map, List.getElem?_range hk]; rfl
    rw [← htk, List.getElem?_take, if_pos (by omega)] at h1
    simpa using h1
theorem OwnRows.far_set {w : World} {ti tsl t : TypeId} {base m : Nat} {v0 : Value} {F : Nat → List Int} {row : Nat → Value} (h : OwnRows w ti tsl base v0 m F row) {g : Nat} {cs : Array Value} (k : Blk w g t cs) (h1 : ti ≠ t) (h2 : tsl ≠ t) (i : Nat) (u : Value) : OwnRows (w.setCell ⟨g, i, none⟩ u) ti tsl base v0 m F row :=
  ⟨ownsRow_setCell h.own (own_blk_ne h.own k h2) _, fun j hj => by
    obtain ⟨A, c, e, ho⟩ := h.rows j hj
    exact ⟨A, c, e, ownsRow_setCell ho (own_blk_ne ho k h1) _⟩, h.far⟩
/-- What an append to one row leaves, and its store. -/
theorem grow_step {Y w1 : World} {ti tsl tl ts : TypeId} {base m c2 g2 g1 xb a : Nat} {F : Nat → List Int} {row : Nat → Value} {cur2 sv : Array Value} {v : Value} {x : Int} (hR : OwnRows Y ti tsl base (.slice (some ⟨g2, 0, none⟩) m c2) m F row) (kg : Blk Y g1 tl cur2) (kx : Blk Y xb ts sv)
    (hne : ti ≠ tsl) (h1 : ti ≠ tl) (h2 : tsl ≠ tl) (h3 : ti ≠ ts) (h4 : tsl ≠ ts) (hbw : base ≤ Y.heap.size) (ha : a < m) {o : Obj} (ho : w1.ownsRow base ti 1 v ((F a).length + 1) (nums (F a ++ [x]))) (hg : (Y.alloc o).grownBy w1 (row a).ownBlock) (hat : v.ownBlock = (row a).ownBlock ∨ v.ownBlock = some (Y.alloc o).heap.size) :
    OwnRows (w1.setCell ⟨g2, a, none⟩ v) ti tsl base (.slice (some ⟨g2, 0, none⟩) m c2) m (fun k => if k = a then F a ++ [x] else F k) (fun k => if k = a then v else row k) ∧ Below base Y (w1.setCell ⟨g2, a, none⟩ v) ∧ Blk (w1.setCell ⟨g2, a, none⟩ v) g1 tl cur2 ∧ Blk (w1.setCell ⟨g2, a, none⟩ v) xb ts sv ∧ Blk w1 xb ts sv ∧ w1.cell? ⟨g2, a, none⟩ = some (row a) ∧ w1.frozen? ⟨g2, a, none⟩ = false := by
  obtain ⟨A0, c0, er, hor⟩ := hR.rows a ha
  obtain ⟨hA, hB⟩ := hR.append hne hbw ha ho hg hat
  obtain ⟨cur, kl, hcur⟩ := hR.blk
  have n1 : some g1 ≠ (row a).ownBlock := fun e => own_blk_ne hor kg h1 e.symm
  have n2 : some xb ≠ (row a).ownBlock := fun e => own_blk_ne hor kx h3 e.symm
  have n3 : some g2 ≠ (row a).ownBlock := fun e => own_blk_ne hor kl hne e.symm
  have kg1 := (kg.alloc o).grown hg n1
  have kx1 := (kx.alloc o).grown hg n2
  have kl1 := (kl.alloc o).grown hg n3
  refine ⟨hA, hB, kg1.far (fun e => ?_) _, kx1.far (fun e => ?_) _, kx1, ?_, kl1.frozen a⟩
  · exact (kl.ne_ kg h2) e.symm
  · exact (kl.ne_ kx h4) e.symm
  · rw [kl1.cell]; exact hcur a ha
theorem own_labelsV {w : World} {base : Nat} {e : TypeId} {A1 : Option Addr} {m c1 : Nat} {ls : List Lb} (h : w.ownsRow base e 2 (.slice A1 m c1) m (lbVals ls)) (hm : 0 < m) (hl : ls.length = m) :
    ∃ (g : Nat) (cur : Array Value), A1 = some ⟨g, 0, none⟩ ∧ base ≤ g ∧ Blk w g e cur ∧ (∀ k, k < m → cur[k * 2]? = some (.int .i64 (ls.getD k z0).lv) ∧ cur[k * 2 + 1]? = some (.int .u64 ((ls.getD k z0).ms : Nat))) ∧
      ∀ (k : Nat) (y : Lb) (W : World), k < m → Blk W g e ((cur.setIfInBounds (k * 2) (.int .i64 y.lv)).setIfInBounds (k * 2 + 1) (.int .u64 (y.ms : Nat))) → Reads W W.heap.size 2 A1 m (lbVals (ls.set k y)) := by
  rcases h.2 with ⟨_, h0⟩ | ⟨g, cap, cur, hv, hb, hg, hcap, hmx, hcs, htk⟩
  · exact absurd h0 (by omega)
  · have hA : A1 = some ⟨g, 0, none⟩ := by injection hv
    have hcc : c1 = cap := by injection hv
    subst hcc
    refine ⟨g, cur, hA, hb, hg, ?_, ?_⟩
    · intro k hk
      obtain ⟨v0, v1⟩ := lbVals_at ls k (by omega)
      rw [← htk, List.getElem?_take, if_pos (by omega)] at v0 v1
      simp only [Array.getElem?_toList] at v0 v1
      exact ⟨v0, v1⟩
    · intro k y W hk hB
      refine Reads.of_own (base := 0) (e := e) (c := c1) ⟨?_, .inr ⟨g, c1, _, by rw [hA], Nat.zero_le _, hB, hcap, hmx, by simpa using hcs, ?_⟩⟩
      · rw [lbVals_len, List.length_set, hl]
      · rw [lbVals_set, ← htk]
        simp [List.take_set]
theorem OwnRows.at0 {w : World} {ti tsl : TypeId} {base m c : Nat} {A : Option Addr} {F : Nat → List Int} {row : Nat → Value} (h : OwnRows w ti tsl base (.slice A m c) m F row) (hm : 0 < m) : ∃ g, A = some ⟨g, 0, none⟩ := by
  rcases h.own.2 with ⟨_, h0⟩ | ⟨g', cap, cur, hv, _⟩
  · exact absurd h0 (by omega)
  · exact ⟨g', by injection hv⟩
/-- A label's two cells are stored. -/
theorem set_step {w0 W : World} {ti tsl tl ts : TypeId} {base B m g1 xb : Nat} {v0 : Value} {F : Nat → List Int} {row : Nat → Value} {cur sv : Array Value} (kg : Blk W g1 tl cur) (hR : OwnRows W ti tsl base v0 m F row) (kx : Blk W xb ts sv) (hB : Below B w0 W) (h1 : ti ≠ tl) (h2 : tsl ≠ tl) (h3 : ts ≠ tl) (hgb : B ≤ g1) (i j : Nat) (u v : Value) :
    Blk ((W.setCell ⟨g1, i, none⟩ u).setCell ⟨g1, j, none⟩ v) g1 tl ((cur.setIfInBounds i u).setIfInBounds j v) ∧ OwnRows ((W.setCell ⟨g1, i, none⟩ u).setCell ⟨g1, j, none⟩ v) ti tsl base v0 m F row ∧ Below B w0 ((W.setCell ⟨g1, i, none⟩ u).setCell ⟨g1, j, none⟩ v) ∧ Blk ((W.setCell ⟨g1, i, none⟩ u).setCell ⟨g1, j, none⟩ v) xb ts sv := by
  have hne := kx.ne_ kg h3
  exact ⟨(kg.set_ i u).set_ j v, (hR.far_set kg h1 h2 i u).far_set (kg.set_ i u) h1 h2 j v, (hB.setCell hgb _).setCell hgb _, (kx.far hne _).far hne _⟩
theorem grown_of {w W w' : World} {r : Option Nat} (h : W.grownBy w' r) (e1 : W.os = w.os) (e2 : W.tape = w.tape) (e3 : W.output = w.output) (e4 : W.heap = w.heap) : w.grownBy w' r :=
  ⟨h.os.trans e1, h.tape.trans e2, h.output.trans e3, by rw [← e4]; exact h.size, fun k hk hr => by rw [← e4] at hk ⊢; exact h.block k hk hr⟩
end Go.Idl
