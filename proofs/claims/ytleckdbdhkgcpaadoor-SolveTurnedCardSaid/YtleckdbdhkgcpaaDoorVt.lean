/- Rows that may begin behind their block's start, among rows in memory of the call's own; what SolveTurned says, plainly. -/
import Derived.ArgAppend
import Derived.Test.YtleckdbdhkgcpaaDoorVn
import Derived.Test.YtleckdbdhkgcpaaDoorVy
namespace Go.Idl
open Go Go.RowKit
set_option linter.unusedSimpArgs false
set_option linter.unusedVariables false

theorem addT (g o j : Nat) : (⟨g, o, none⟩ : Addr).add j = ⟨g, o + j, none⟩ := by
  unfold Addr.add
  split
  · rename_i h; subst h; rfl
  · simp
/-- A row in memory of the call's own, from wherever in its block. -/
def TailRow (w : World) (base : Nat) (e : TypeId) (v : Value) (n : Nat) (xs : List Value) : Prop :=
  xs.length = n ∧ ((v = .slice none 0 0 ∧ n = 0) ∨ ∃ g o cap cur, v = .slice (some ⟨g, o, none⟩) n cap ∧ base ≤ g ∧ Blk w g e cur ∧ n ≤ cap ∧ cap ≤ maxLen ∧ o + cap ≤ cur.size ∧ (cur.toList.drop o).take n = xs)
section
variable {w w' : World} {base n : Nat} {e : TypeId} {v : Value} {xs : List Value}
theorem TailRow.of_own (h : w.ownsRow base e 1 v n xs) : TailRow w base e v n xs := by
  obtain ⟨h1, h2⟩ := h
  rw [Nat.mul_one] at h1
  refine ⟨h1, ?_⟩
  rcases h2 with h2 | ⟨g, cap, cur, e1, hb, hh, hc, hm, hs, ht⟩
  · exact .inl h2
  · refine .inr ⟨g, 0, cap, cur, e1, hb, hh, hc, hm, by omega, ?_⟩
    rw [Nat.mul_one] at ht
    exact ht
theorem TailRow.keep (h : TailRow w base e v n xs) (hk : ∀ g, v.ownBlock = some g → w'.heap[g]? = w.heap[g]?) : TailRow w' base e v n xs := by
  obtain ⟨h1, h2⟩ := h
  refine ⟨h1, ?_⟩
  rcases h2 with h2 | ⟨g, o, cap, cur, e1, hb, hh, h3⟩
  · exact .inl h2
  · exact .inr ⟨g, o, cap, cur, e1, hb, (hk g (by rw [e1]; rfl)).trans hh, h3⟩
theorem TailRow.slice_ (h : TailRow w base e v n xs) : ∃ A c, v = .slice A n c ∧ n ≤ c ∧ c ≤ maxLen := by
  rcases h.2 with ⟨h2, h3⟩ | ⟨g, o, cap, cur, e1, _, _, hc, hm, _⟩
  · subst h3; exact ⟨none, 0, h2, Nat.le_refl _, Nat.zero_le _⟩
  · exact ⟨_, _, e1, hc, hm⟩
theorem TailRow.lt (h : TailRow w base e v n xs) {g : Nat} (hg : v.ownBlock = some g) : base ≤ g ∧ g < w.heap.size := by
  rcases h.2 with ⟨h2, _⟩ | ⟨g', o, cap, cur, e1, hb, hh, _⟩
  · rw [h2] at hg; cases hg
  · rw [e1] at hg
    injection hg with hg
    have hg : g' = g := hg
    subst hg
    exact ⟨hb, hh.lt⟩
theorem TailRow.ne (h : TailRow w base e v n xs) {g : Nat} {t : TypeId} {cs : Array Value} (k : Blk w g t cs) (hne : e ≠ t) : v.ownBlock ≠ some g := by
  intro hg
  rcases h.2 with ⟨h2, _⟩ | ⟨g', o, cap, cur, e1, hb, hh, _⟩
  · rw [h2] at hg; cases hg
  · rw [e1] at hg
    injection hg with hg
    have hg : g' = g := hg
    subst hg
    exact hh.ne_ k hne rfl
theorem TailRow.ne_own (h : TailRow w base e v n xs) {b : Nat} {t : TypeId} {s m : Nat} {u : Value} {ys : List Value} (ho : w.ownsRow b t s u m ys) (hne : e ≠ t) : ∀ g, u.ownBlock = some g → v.ownBlock ≠ some g := by
  intro g hu
  rcases ho.2 with ⟨e1, _⟩ | ⟨g', cap, cur, e1, _, hh, _⟩
  · rw [e1] at hu; cases hu
  · rw [e1] at hu
    injection hu with hu
    have hu : g' = g := hu
    subst hu
    exact h.ne hh hne
theorem TailRow.alloc (h : TailRow w base e v n xs) (o : Obj) : TailRow (w.alloc o) base e v n xs := h.keep fun g hg => Below.heap_alloc w o g (h.lt hg).2
theorem TailRow.drewT (h : TailRow w base e v n xs) : TailRow w.drew base e v n xs := h
theorem TailRow.grown (h : TailRow w base e v n xs) {r : Option Nat} (hg : w.grownBy w' r) (hne : ∀ g, v.ownBlock = some g → some g ≠ r) : TailRow w' base e v n xs := h.keep fun g h1 => hg.block g (h.lt h1).2 (hne g h1)
theorem TailRow.far (h : TailRow w base e v n xs) {p : Addr} (hne : v.ownBlock ≠ some p.block) (u : Value) : TailRow (w.setCell p u) base e v n xs := h.keep fun g hg => Below.heap_setCell w p u g fun e => hne (e ▸ hg)
theorem TailRow.reads {A : Option Addr} {c : Nat} (h : TailRow w base e (.slice A n c) n xs) : Reads w w.heap.size 1 A n xs := by
  obtain ⟨h1, h2⟩ := h
  refine ⟨by omega, fun hn => ?_⟩
  rcases h2 with ⟨_, h3⟩ | ⟨g, o, cap, cur, e1, hb, hh, hc, hm, hs, ht⟩
  · omega
  · have hA : A = some ⟨g, o, none⟩ := by injection e1
    subst hA
    refine ⟨_, rfl, hh.lt, fun j u hu => ?_⟩
    have ha : (⟨g, o, none⟩ : Addr).add j = ⟨g, o + j, none⟩ := addT g o j
    rw [ha, hh.cell, ← Array.getElem?_toList]
    rw [← ht, List.getElem?_take] at hu
    split at hu
    · rw [List.getElem?_drop] at hu; exact hu
    · cases hu
/-- Cut at the front. -/
theorem TailRow.cut {A : Option Addr} {c : Nat} (h : TailRow w base e (.slice A n c) n xs) {l : Nat} (hl : l ≤ n) :
    TailRow w base e (.slice (if c = l then A else A.map (·.add l)) (n - l) (c - l)) (n - l) (xs.drop l) ∧ (Value.slice (if c = l then A else A.map (·.add l)) (n - l) (c - l)).ownBlock = (Value.slice A n c).ownBlock := by
  obtain ⟨h1, h2⟩ := h
  rcases h2 with ⟨h2, h3⟩ | ⟨g, o, cap, cur, e1, hb, hh, hc, hm, hs, ht⟩
  · injection h2 with a1 a2 a3
    subst a1 a2 a3
    obtain rfl : l = 0 := by omega
    obtain rfl : xs = [] := List.eq_nil_of_length_eq_zero h1
    exact ⟨⟨rfl, .inl ⟨rfl, rfl⟩⟩, rfl⟩
  · injection e1 with a1 a2 a3
    subst a1 a3
    by_cases hcl : c = l
    · subst hcl
      obtain rfl : n = c := by omega
      rw [if_pos rfl, Nat.sub_self]
      refine ⟨⟨by rw [List.length_drop]; omega, .inr ⟨g, o, 0, cur, rfl, hb, hh, Nat.le_refl _, Nat.zero_le _, by omega, ?_⟩⟩, rfl⟩
      rw [List.take_zero]
      exact (List.eq_nil_of_length_eq_zero (by rw [List.length_drop]; omega)).symm
    · rw [if_neg hcl]
      simp only [Option.map_some, addT]
      refine ⟨⟨by rw [List.length_drop]; omega, .inr ⟨g, o + l, c - l, cur, rfl, hb, hh, by omega, by omega, by omega, ?_⟩⟩, rfl⟩
      rw [← ht, List.drop_take, List.drop_drop]
end

section
variable {P : Program} (w : World)
theorem take_snocT {cur : Array Value} {o n : Nat} {x : Value} {xs : List Value} (ht : (cur.toList.drop o).take n = xs) (hl : xs.length = n) (hs : o + (n + 1) ≤ cur.size) : ((cur.setIfInBounds (o + n) x).toList.drop o).take (n + 1) = xs ++ [x] := by
  apply List.ext_getElem?
  intro j
  rw [List.getElem?_take]
  by_cases hj : j < n + 1
  · rw [if_pos hj, List.getElem?_drop, Array.getElem?_toList, Array.getElem?_setIfInBounds]
    by_cases e1 : j = n
    · subst e1
      rw [if_pos rfl, if_pos (by omega), List.getElem?_append_right (by omega), hl]
      simp
    · rw [if_neg (by omega), List.getElem?_append_left (by omega), ← ht, List.getElem?_take, if_pos (by omega), List.getElem?_drop, Array.getElem?_toList]
  · rw [if_neg hj, List.getElem?_eq_none (by simp; omega)]
/-- One more at the end. -/
theorem run_append_tail (base : Nat) (t ty e : TypeId) (i : TypeInfo) (z : Value) (bytes : Nat) (ht : P.underlying t = some (.slice e)) (hi : P.info? e = some i) (hz : i.zero = some z)
    (hsize : i.size = 1) (hby : i.bytes = bytes) (hzs : z.cells.size = 1) (v : Value) (n : Nat) (xs : List Value) (h : TailRow w base e v n xs)
    (ad : Addr) (c : Nat) (x : Value) (hx : w.cell? ad = some x) (h1 : x.oneCell' = true) (h63 : n + 1 ≤ maxLen) (hbytes : (n + 1) * bytes ≤ 140737488355328) (hbase : base ≤ w.heap.size) :
    ∃ v' w', (Builtin.append_ #[t, t] ty #[v, .slice (some ad) 1 c]).run P w = .ok v' w' ∧ TailRow w' base e v' (n + 1) (xs ++ [x]) ∧ w.grownBy w' v.ownBlock ∧ (v'.ownBlock = v.ownBlock ∨ ∃ b, v'.ownBlock = some b ∧ w.heap.size ≤ b) := by
  have hnews : ∀ j u, [x][j]? = some u → w.cell? (ad.add j) = some u := by
    intro j u hu
    cases j with
    | zero =>
      have : x = u := by simpa using hu
      subst this
      have ha : ad.add 0 = ad := rfl
      rw [ha]
      exact hx
    | succ j => simp at hu
  obtain ⟨hl, h2⟩ := h
  rcases h2 with ⟨rfl, rfl⟩ | ⟨g, o, cap, cur, rfl, hb, hh, hc, hm, hs, hk⟩
  · obtain rfl : xs = [] := List.eq_nil_of_length_eq_zero hl
    obtain ⟨v', w', hrun, h3, h4, _, h5⟩ := run_append_own_at (P := P) w base t ty e i z 1 bytes ht hi hz hsize hby hzs (by decide) (.slice none 0 0) 0 [] (World.ownsRow_nil w base e 1) ad 1 c [x] rfl hnews (by simpa using h1) h63 hbytes hbase
    refine ⟨v', w', hrun, TailRow.of_own h3, h4, ?_⟩
    rcases h5 with h5 | h5
    · exact .inl h5
    · exact .inr ⟨_, h5, Nat.le_refl _⟩
  · by_cases hroom : n + 1 ≤ cap
    · have hr := run_append_room_cells (P := P) w t ty e i ht hi g o n cap ad 1 c [x] (by rw [hsize]; rfl) hnews (by simpa using h1) hroom (by
        intro j hj
        obtain rfl : j = 0 := by simpa using hj
        rw [hsize, hh.cell, Array.getElem?_eq_getElem (by omega)]
        rfl) (fun j hj => hh.frozen _)
      rw [hsize, Nat.mul_one] at hr
      have hw : w.setCells g (o + n) [x] = w.setCell ⟨g, o + n, none⟩ x := rfl
      rw [hw] at hr
      refine ⟨_, _, hr, ⟨by simp [hl], .inr ⟨g, o, cap, _, rfl, hb, hh.set_ (o + n) x, hroom, hm, by simpa using hs, take_snocT hk hl (by omega)⟩⟩, ⟨rfl, rfl, rfl, by simp [World.setCell], fun k hk1 hk2 => Below.heap_setCell w ⟨g, o + n, none⟩ x k fun e1 => hk2 ?_⟩, .inl rfl⟩
      rw [e1]; rfl
    · obtain ⟨v', w', hrun, h3, h4⟩ := run_append_arg_grows (P := P) w t ty e i z 1 bytes ht hi hz hsize hby hzs (by decide) ⟨g, o, none⟩ n cap xs (by omega) (by
        intro j u hu
        have ha : (⟨g, o, none⟩ : Addr).add j = ⟨g, o + j, none⟩ := addT g o j
        rw [ha, hh.cell, ← Array.getElem?_toList]
        rw [← hk, List.getElem?_take] at hu
        split at hu
        · rw [List.getElem?_drop] at hu; exact hu
        · cases hu) ad 1 c [x] rfl hnews (by omega) h63 hbytes
      refine ⟨v', w', hrun, TailRow.of_own (ownsRow_less h3 hbase), ⟨h4.os, h4.tape, h4.output, h4.size, fun k hk1 _ => h4.block k hk1 (by simp)⟩, ?_⟩
      rcases hv : v'.ownBlock with _ | b
      · exfalso
        obtain ⟨g', cap', hv', _⟩ := h3.form (by omega)
        rw [hv'] at hv
        cases hv
      · exact .inr ⟨b, rfl, (h3.lt b hv).1⟩
theorem step_append_tail {w : World} {ops : Array Oper} {o : Oper} {a : Act} {K : Act → World → Prop} {Q : Exit → Act → World → Prop} {E : Prop} (hgd : o.guard = none) (s x : Operand) (t : TypeId)
    (ho : o.op = .call { callee := .builtin .append, args := #[s, x], argTypes := #[t, t] })
    (base : Nat) (e : TypeId) (i : TypeInfo) (z : Value) (bytes : Nat) (ht : P.underlying t = some (.slice e)) (hi : P.info? e = some i) (hz : i.zero = some z)
    (hsize : i.size = 1) (hby : i.bytes = bytes) (hzs : z.cells.size = 1)
    (v : Value) (n : Nat) (xs : List Value) (hs : a.eval s = v) (hown : TailRow w base e v n xs)
    (ad : Addr) (c : Nat) (u : Value) (hx : a.eval x = .slice (some ad) 1 c) (hc : w.cell? ad = some u) (h1 : u.oneCell' = true)
    (h63 : n + 1 ≤ maxLen) (hbytes : (n + 1) * bytes ≤ 140737488355328) (hbase : base ≤ w.heap.size)
    (h : ∀ v' w', TailRow w' base e v' (n + 1) (xs ++ [u]) → w.grownBy w' v.ownBlock → (v'.ownBlock = v.ownBlock ∨ ∃ b, v'.ownBlock = some b ∧ w.heap.size ≤ b) → K (a.put o.dst v') w') :
    if Region.wanted o (yielded ops a.tmps) = true then Oper.wp P o a w K Q else E := by
  have hw : Region.wanted o (yielded ops a.tmps) = true := by simp [Region.wanted, hgd]
  rw [if_pos hw]
  obtain ⟨v', w', hrun, h2, h3, h4⟩ := run_append_tail (P := P) w base t o.type e i z bytes ht hi hz hsize hby hzs v n xs hown ad c u hc h1 h63 hbytes hbase
  unfold Oper.wp execOp
  simp only [ho, resolve, invoke, builtin, Sem.run_bind, Sem.run_pure, Result.andThen_ok, List.map_toArray, List.map_cons, List.map_nil, hs, hx, hrun]
  exact h v' w' h2 h3 h4
end

/-- Rows as they are while one is turned. -/
structure TRows (w : World) (ti tsl : TypeId) (base : Nat) (v : Value) (m : Nat) (F : Nat → List Int) (row : Nat → Value) : Prop where
  own : w.ownsRow base tsl 1 v m ((List.range m).map row)
  rows : ∀ k, k < m → TailRow w base ti (row k) (F k).length (nums (F k))
  far : ∀ k k', k < m → k' < m → k ≠ k' → ∀ b, (row k).ownBlock = some b → (row k').ownBlock ≠ some b
section
variable {w w1 : World} {ti tsl : TypeId} {base m : Nat} {F : Nat → List Int} {row : Nat → Value}
theorem TRows.of_own {v : Value} (h : OwnRows w ti tsl base v m F row) : TRows w ti tsl base v m F row :=
  ⟨h.own, fun k hk => by obtain ⟨A, c, e, ho⟩ := h.rows k hk; exact TailRow.of_own ho, h.far⟩
theorem TRows.at0 {A : Option Addr} {c : Nat} (h : TRows w ti tsl base (.slice A m c) m F row) (hm : 0 < m) : ∃ g, A = some ⟨g, 0, none⟩ := by
  rcases h.own.2 with ⟨_, h0⟩ | ⟨g', cap, cur, hv, _⟩
  · exact absurd h0 (by omega)
  · exact ⟨g', by injection hv⟩
theorem TRows.blk {c g : Nat} (h : TRows w ti tsl base (.slice (some ⟨g, 0, none⟩) m c) m F row) : ∃ cur, Blk w g tsl cur ∧ ∀ k, k < m → cur[k]? = some (row k) := by
  rcases h.own.2 with ⟨h0, _⟩ | ⟨g', cap, cur, hv, _, hh, hcap, hmx, hcs, htk⟩
  · cases h0
  · have e : g = g' := by injection hv with h1; injection h1 with h1; injection h1
    subst e
    refine ⟨cur, hh, fun k hk => ?_⟩
    have h1 : ((List.range m).map row)[k]? = some (row k) := by rw [List.getElem?_map, List.getElem?_range hk]; rfl
    rw [← htk, List.getElem?_take, if_pos (by omega)] at h1
    simpa using h1
theorem TRows.nrows {A : Option Addr} {c : Nat} {needs : List (List Int)} (h : TRows w ti tsl base (.slice A m c) m (fun k => needs.getD k []) row) (hm : needs.length = m) : NRows w w.heap.size A m needs := by
  refine ⟨hm, _, Reads.of_own h.own, fun i hi => ?_⟩
  have hr := h.rows i hi
  obtain ⟨A', c', e, hc⟩ := hr.slice_
  rw [e] at hr
  refine ⟨A', c', ?_, hc.1, hc.2, hr.reads⟩
  rw [List.getElem?_map, List.getElem?_range hi]
  simp only [Option.map_some, e]
theorem map_updT {n k : Nat} {v : Value} {f : Nat → Value} (hk : k < n) : (List.range n).map (fun j => if j = k then v else f j) = ((List.range n).map f).set k v := by
  apply List.ext_getElem
  · simp
  · intro j h3 h4
    simp only [List.length_map, List.length_range] at h3
    rw [List.getElem_set]
    by_cases e : k = j
    · subst e; simp
    · rw [if_neg e]
      simp [show j ≠ k from fun e2 => e e2.symm]
/-- One row's slice is another one. -/
theorem TRows.put {c g a : Nat} {v : Value} {zs : List Int} (hown : w1.ownsRow base tsl 1 (.slice (some ⟨g, 0, none⟩) m c) m ((List.range m).map row)) (hothers : ∀ k, k < m → k ≠ a → TailRow w1 base ti (row k) (F k).length (nums (F k)))
    (hfar : ∀ k k', k < m → k' < m → k ≠ k' → ∀ b, (row k).ownBlock = some b → (row k').ownBlock ≠ some b) (hv : TailRow w1 base ti v zs.length (nums zs)) (hnew : ∀ k, k < m → k ≠ a → ∀ b, (row k).ownBlock = some b → v.ownBlock ≠ some b) (ha : a < m) (hne : ti ≠ tsl) :
    TRows (w1.setCell ⟨g, a, none⟩ v) ti tsl base (.slice (some ⟨g, 0, none⟩) m c) m (fun k => if k = a then zs else F k) (fun k => if k = a then v else row k) := by
  refine ⟨?_, fun k hk => ?_, fun p q hp hq hpq b hb => ?_⟩
  · rw [map_updT ha]
    exact (hown.stored a v).1
  · by_cases e : k = a
    · subst e
      simp only [if_true]
      exact hv.far (hv.ne_own hown hne g rfl) _
    · simp only [if_neg e]
      exact (hothers k hk e).far ((hothers k hk e).ne_own hown hne g rfl) _
  · by_cases e1 : p = a
    · by_cases e2 : q = a
      · exact absurd (e1.trans e2.symm) hpq
      · simp only [if_pos e1] at hb
        simp only [if_neg e2]
        intro hb2
        exact hnew q hq e2 b hb2 hb
    · simp only [if_neg e1] at hb
      by_cases e2 : q = a
      · simp only [if_pos e2]
        exact hnew p hp e1 b hb
      · simp only [if_neg e2]
        exact hfar p q hp hq hpq b hb
/-- What an append to one row leaves, and its store. -/
theorem TRows.grow {tl ts : TypeId} {c2 g2 xb a lm : Nat} {vl : Value} {ls : List Value} {sv : Array Value} {v : Value} {x : Int} (hR : TRows w ti tsl base (.slice (some ⟨g2, 0, none⟩) m c2) m F row) (hL : w.ownsRow base tl 2 vl lm ls) (kx : Blk w xb ts sv)
    (hne : ti ≠ tsl) (h1 : ti ≠ tl) (h2 : tsl ≠ tl) (h3 : ti ≠ ts) (h4 : tsl ≠ ts) (hbw : base ≤ w.heap.size) (ha : a < m) {o : Obj} (ho : TailRow w1 base ti v ((F a).length + 1) (nums (F a ++ [x]))) (hg : (w.alloc o).grownBy w1 (row a).ownBlock) (hat : v.ownBlock = (row a).ownBlock ∨ ∃ b, v.ownBlock = some b ∧ (w.alloc o).heap.size ≤ b) :
    TRows (w1.setCell ⟨g2, a, none⟩ v) ti tsl base (.slice (some ⟨g2, 0, none⟩) m c2) m (fun k => if k = a then F a ++ [x] else F k) (fun k => if k = a then v else row k) ∧ Below base w (w1.setCell ⟨g2, a, none⟩ v) ∧ (w1.setCell ⟨g2, a, none⟩ v).ownsRow base tl 2 vl lm ls ∧ Blk (w1.setCell ⟨g2, a, none⟩ v) xb ts sv ∧ Blk w1 xb ts sv ∧ w1.cell? ⟨g2, a, none⟩ = some (row a) ∧ w1.frozen? ⟨g2, a, none⟩ = false := by
  have hra := hR.rows a ha
  obtain ⟨cur, kl, hcur⟩ := hR.blk
  have hgb := (hR.own.lt g2 rfl).1
  have n2 : some xb ≠ (row a).ownBlock := fun e => hra.ne kx h3 e.symm
  have n3 : some g2 ≠ (row a).ownBlock := fun e => hra.ne kl hne e.symm
  have kx1 := (kx.alloc o).grown hg n2
  have kl1 := (kl.alloc o).grown hg n3
  have hlist : w1.ownsRow base tsl 1 (.slice (some ⟨g2, 0, none⟩) m c2) m ((List.range m).map row) := World.ownsRow.kept (World.ownsRow.alloc hR.own o) hg (.inr fun e => n3 (by rw [← e]; rfl))
  have hlab : w1.ownsRow base tl 2 vl lm ls := World.ownsRow.kept (World.ownsRow.alloc hL o) hg (by
    rcases hb : vl.ownBlock with _ | b
    · exact .inl rfl
    · exact .inr fun e => hra.ne_own hL h1 b hb e.symm)
  have hothers : ∀ k, k < m → k ≠ a → TailRow w1 base ti (row k) (F k).length (nums (F k)) := fun k hk hka => ((hR.rows k hk).alloc o).grown hg fun b hb e => hR.far k a hk ha hka b hb e.symm
  have hB : Below base w w1 := ((Below.refl base w).alloc hbw o).grown hg (by simp; omega) (fun k hk => (hra.lt hk).1)
  have hlen : (F a ++ [x]).length = (F a).length + 1 := by simp
  have hnew : ∀ k, k < m → k ≠ a → ∀ b, (row k).ownBlock = some b → v.ownBlock ≠ some b := by
    intro k hk hka b hb hv
    rcases hat with e | ⟨b', e, hle⟩
    · rw [hv] at e
      exact hR.far k a hk ha hka b hb e.symm
    · rw [hv] at e
      have := ((hR.rows k hk).lt hb).2
      injection e with e
      simp at hle
      omega
  refine ⟨TRows.put hlist hothers hR.far (by rw [hlen]; exact ho) hnew ha hne, hB.setCell hgb _, ownsRow_setCell hlab (fun e => own_own_ne hlab hlist (fun e => h2 e.symm) g2 e rfl) _, kx1.far (fun e => (kl.ne_ kx h4) e.symm) _, kx1, ?_, kl1.frozen a⟩
  rw [kl1.cell]; exact hcur a ha
/-- A row's slice, cut at the front, is stored. -/
theorem TRows.cut {tl ts : TypeId} {c2 g2 xb a lm : Nat} {vl : Value} {ls : List Value} {sv : Array Value} {v : Value} {zs : List Int} (hR : TRows w ti tsl base (.slice (some ⟨g2, 0, none⟩) m c2) m F row) (hL : w.ownsRow base tl 2 vl lm ls) (kx : Blk w xb ts sv)
    (hne : ti ≠ tsl) (h2 : tsl ≠ tl) (h4 : tsl ≠ ts) (ha : a < m) (ho : TailRow w base ti v zs.length (nums zs)) (hat : v.ownBlock = (row a).ownBlock) :
    TRows (w.setCell ⟨g2, a, none⟩ v) ti tsl base (.slice (some ⟨g2, 0, none⟩) m c2) m (fun k => if k = a then zs else F k) (fun k => if k = a then v else row k) ∧ Below base w (w.setCell ⟨g2, a, none⟩ v) ∧ (w.setCell ⟨g2, a, none⟩ v).ownsRow base tl 2 vl lm ls ∧ Blk (w.setCell ⟨g2, a, none⟩ v) xb ts sv := by
  obtain ⟨cur, kl, hcur⟩ := hR.blk
  have hgb := (hR.own.lt g2 rfl).1
  refine ⟨TRows.put hR.own (fun k hk _ => hR.rows k hk) hR.far ho (fun k hk hka b hb hv => ?_) ha hne, (Below.refl base w).setCell hgb _, ownsRow_setCell hL (fun e => own_own_ne hL hR.own (fun e => h2 e.symm) g2 e rfl) _, kx.far (fun e => (kl.ne_ kx h4) e.symm) _⟩
  rw [hat] at hv
  exact hR.far k a hk ha hka b hb hv
end

/-! What it says, plainly. -/
def turnL {α : Type} (z : List α) : List α := z.reverse ++ z.take 1
/-- The rows, those below i turned, j more in row i. -/
def turnF (needs : List (List Int)) (i j k : Nat) : List Int :=
  if k < i then turnL (needs.getD k []) else if k = i then needs.getD k [] ++ (needs.getD k []).reverse.take j else needs.getD k []
/-- .. row i cut. -/
def cutF (needs : List (List Int)) (i k : Nat) : List Int := if k = i then (needs.getD i []).reverse else turnF needs i (needs.getD i []).length k
section
variable (needs : List (List Int)) (i : Nat)
theorem turnF_0 : turnF needs 0 0 = fun k => needs.getD k [] := by
  funext k
  unfold turnF
  rw [if_neg (Nat.not_lt_zero k)]
  split <;> simp
theorem turnF_at (j : Nat) : turnF needs i j i = needs.getD i [] ++ (needs.getD i []).reverse.take j := by
  unfold turnF
  rw [if_neg (Nat.lt_irrefl i), if_pos rfl]
theorem turnF_len (j : Nat) (hj : j ≤ (needs.getD i []).length) : (turnF needs i j i).length = (needs.getD i []).length + j := by
  rw [turnF_at, List.length_append, List.length_take, List.length_reverse]
  omega
theorem turnF_step {j : Nat} (hj : j < (needs.getD i []).length) {x : Int} (hx : (needs.getD i [])[(needs.getD i []).length - 1 - j]? = some x) : (fun k => if k = i then turnF needs i j i ++ [x] else turnF needs i j k) = turnF needs i (j + 1) := by
  funext k
  by_cases e : k = i
  · subst e
    rw [if_pos rfl, turnF_at, turnF_at, List.append_assoc]
    congr 1
    rw [List.take_add_one, List.getElem?_reverse (by omega), hx]
    rfl
  · rw [if_neg e]
    unfold turnF
    rw [if_neg e, if_neg e]
theorem turnF_cut : (fun k => if k = i then (turnF needs i (needs.getD i []).length i).drop (needs.getD i []).length else turnF needs i (needs.getD i []).length k) = cutF needs i := by
  funext k
  unfold cutF
  by_cases e : k = i
  · rw [if_pos e, if_pos e, turnF_at, List.drop_left, List.take_of_length_le (by simp)]
  · rw [if_neg e, if_neg e]
theorem cutF_at : cutF needs i i = (needs.getD i []).reverse := by
  unfold cutF
  rw [if_pos rfl]
theorem cutF_next {k : Nat} (e : k ≠ i) : cutF needs i k = turnF needs (i + 1) 0 k := by
  unfold cutF turnF
  rw [if_neg e, if_neg e]
  by_cases h : k < i
  · rw [if_pos h, if_pos (by omega)]
  · rw [if_neg h, if_neg (by omega)]
    split <;> simp
theorem turnF_next : turnF needs (i + 1) 0 i = turnL (needs.getD i []) := by
  unfold turnF
  rw [if_pos (by omega)]
theorem cutF_none (h : (needs.getD i []).length = 0) : cutF needs i = turnF needs (i + 1) 0 := by
  funext k
  by_cases e : k = i
  · subst e
    rw [cutF_at, turnF_next, List.eq_nil_of_length_eq_zero h]
    rfl
  · exact cutF_next needs i e
theorem cutF_first {x : Int} (hx : (needs.getD i [])[0]? = some x) : (fun k => if k = i then cutF needs i i ++ [x] else cutF needs i k) = turnF needs (i + 1) 0 := by
  funext k
  by_cases e : k = i
  · subst e
    rw [if_pos rfl, cutF_at, turnF_next]
    unfold turnL
    congr 1
    rw [show (1 : Nat) = 0 + 1 from rfl, List.take_add_one, List.take_zero, hx]
    rfl
  · rw [if_neg e]
    exact cutF_next needs i e
theorem turn_getD {α : Type} (needs : List (List α)) (k : Nat) : (needs.map turnL).getD k [] = turnL (needs.getD k []) := by
  rw [List.getD_eq_getElem?_getD, List.getElem?_map, List.getD_eq_getElem?_getD]
  cases needs[k]? <;> rfl
theorem turnF_end {m : Nat} (hm : needs.length = m) : turnF needs m 0 = fun k => (needs.map turnL).getD k [] := by
  funext k
  rw [turn_getD]
  unfold turnF
  by_cases h : k < m
  · rw [if_pos h]
  · have : needs.getD k [] = [] := by rw [List.getD_eq_getElem?_getD, List.getElem?_eq_none (by omega)]; rfl
    rw [if_neg h, this]
    split <;> rfl
end
theorem mem_turnL {α : Type} {z : List α} {x : α} : x ∈ turnL z ↔ x ∈ z := by
  unfold turnL
  rw [List.mem_append, List.mem_reverse]
  exact ⟨fun h => h.elim id List.mem_of_mem_take, .inl⟩
theorem any_turnL {α : Type} (z : List α) (p : α → Bool) : (turnL z).any p = z.any p := by
  rw [Bool.eq_iff_iff, List.any_eq_true, List.any_eq_true]
  exact ⟨fun ⟨x, h1, h2⟩ => ⟨x, mem_turnL.1 h1, h2⟩, fun ⟨x, h1, h2⟩ => ⟨x, mem_turnL.2 h1, h2⟩⟩
theorem sysB_turn (up : List Nat) (consts : List Lb) (needs : List (List Int)) : sysB up consts (needs.map turnL) = sysB up consts needs := by
  unfold sysB
  rw [List.length_map]
  congr 1
  congr 1
  funext i
  rw [turn_getD, any_turnL]
theorem turn_casts (N : List (List Nat)) : (N.map casts).map turnL = (N.map turnL).map casts := by
  rw [List.map_map, List.map_map]
  apply List.map_congr_left
  intro z _
  simp [turnL, casts]
theorem sys_turn {up : List Nat} {consts : List Lb} {N : List (List Nat)} (S : Idl.Sys up consts N) : Idl.Sys up consts (N.map turnL) :=
  ⟨S.lat, by rw [List.length_map]; exact S.len, S.gd, fun i hi k hk => by
    rw [turn_getD] at hk
    exact S.nd i hi k (mem_turnL.1 hk)⟩
theorem turn_same {up : List Nat} {consts : List Lb} {N : List (List Nat)} (S : Idl.Sys up consts N) {l m : List Lb} (hl : Least up consts N l) (hm : Least up consts (N.map turnL) m) : l = m :=
  Least.sets S (sys_turn S) (fun i _ k => by rw [turn_getD]; exact mem_turnL.symm) hl hm
theorem turnL_len {α : Type} (z : List α) : (turnL z).length ≤ z.length + 1 := by
  unfold turnL
  rw [List.length_append, List.length_reverse, List.length_take]
  omega
end Go.Idl
