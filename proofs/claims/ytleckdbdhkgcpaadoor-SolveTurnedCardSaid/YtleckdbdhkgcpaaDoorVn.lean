/- The reference's Copy of rows; copied. copied: a system in memory of its own. -/
import Derived.Deep.RegionHeld3
import Derived.Deep.DeepCutAuto
import Derived.Test.YtleckdbdhkgcpaaDoorVs
namespace Go.Idl
open Go Go.RowKit
set_option linter.unusedSimpArgs false
set_option linter.unusedVariables false
/-- Rows of numbers, each in memory of its own, as a list of slices in memory of its own. -/
structure OwnRows (w : World) (ti tsl : TypeId) (base : Nat) (v : Value) (m : Nat) (F : Nat → List Int) (row : Nat → Value) : Prop where
  own : w.ownsRow base tsl 1 v m ((List.range m).map row)
  rows : ∀ k, k < m → ∃ A c, row k = .slice A (F k).length c ∧ w.ownsRow base ti 1 (row k) (F k).length (nums (F k))
  far : ∀ k k', k < m → k' < m → k ≠ k' → ∀ b, (row k).ownBlock = some b → (row k').ownBlock ≠ some b
theorem own_own_ne {w : World} {b b' : Nat} {e e' : TypeId} {s s' n n' : Nat} {v v' : Value} {xs xs' : List Value} (h : w.ownsRow b e s v n xs) (h' : w.ownsRow b' e' s' v' n' xs') (hne : e ≠ e') : ∀ k, v.ownBlock = some k → v'.ownBlock ≠ some k := by
  intro k hk
  rcases h.2 with ⟨e1, _⟩ | ⟨g, cap, cur, e1, _, hh, _⟩
  · rw [e1] at hk; cases hk
  · have e2 : g = k := by rw [e1] at hk; simpa [Value.ownBlock] using hk
    subst e2
    exact own_blk_ne (t := e) (cs := cur) h' hh fun e3 => hne e3.symm
/-- One row more. -/
theorem OwnRows.snoc {wr w1 w2 : World} {ti tsl : TypeId} {base m : Nat} {v v' : Value} {F : Nat → List Int} {row : Nat → Value} {A3 : Option Addr} {c3 : Nat} {o : Obj} (h : OwnRows wr ti tsl base v m F row) (hne : ti ≠ tsl) (hb : base ≤ wr.heap.size) (hb1 : Below wr.heap.size wr w1)
    (ho1 : w1.ownsRow wr.heap.size ti 1 (.slice A3 (F m).length c3) (F m).length (nums (F m))) (ho2 : w2.ownsRow base tsl 1 v' (m + 1) ((List.range m).map row ++ [.slice A3 (F m).length c3])) (hg : (w1.alloc o).grownBy w2 v.ownBlock) :
    OwnRows w2 ti tsl base v' (m + 1) F (fun k => if k = m then .slice A3 (F m).length c3 else row k) ∧ Kept (fun k => v.ownBlock = some k) wr w2 := by
  have k1 : Kept (fun _ => False) wr w1 := Kept.of_below hb1 fun i h1 h2 => absurd h2 (Nat.not_lt_of_ge h1)
  have hv1 : w1.ownsRow base tsl 1 v m ((List.range m).map row) := own_kept h.own k1 (fun _ _ h => h)
  have k2 : Kept (fun k => v.ownBlock = some k) w1 w2 := ((Kept.refl (fun k => v.ownBlock = some k) w1).alloc o).trans (Kept.of_grown (S := fun k => v.ownBlock = some k) hg fun g e => e) (fun _ _ h => h) (fun _ _ h => h)
  refine ⟨⟨?_, fun k hk => ?_, fun a b ha hb' hab x hx => ?_⟩, k1.trans k2 (fun _ _ h => h.elim) (fun _ _ h => h)⟩
  · have e : (List.range (m + 1)).map (fun k => if k = m then Value.slice A3 (F m).length c3 else row k) = (List.range m).map row ++ [.slice A3 (F m).length c3] := by
      rw [List.range_succ, List.map_append]
      congr 1
      · apply List.map_congr_left
        intro k hk
        rw [if_neg (by have := List.mem_range.1 hk; omega)]
      · simp
    rw [e]
    exact ho2
  · by_cases e : k = m
    · subst e
      simp only [if_true]
      refine ⟨A3, c3, rfl, ?_⟩
      exact own_kept (ownsRow_less ho1 hb) k2 fun g hg e => own_own_ne ho1 hv1 hne g hg e
    · simp only [if_neg e]
      obtain ⟨A, c, e1, ho⟩ := h.rows k (by omega)
      refine ⟨A, c, e1, own_kept (own_kept ho k1 (fun _ _ h => h)) k2 fun g hg e => own_own_ne ho h.own hne g hg e⟩
  · have hold : ∀ k, k < m → ∀ y, (row k).ownBlock = some y → y < wr.heap.size := fun k hk y hy => by
      obtain ⟨A, c, e1, ho⟩ := h.rows k hk
      exact (ho.lt y hy).2
    have hnew : ∀ y, (Value.slice A3 (F m).length c3).ownBlock = some y → wr.heap.size ≤ y := fun y hy => (ho1.lt y hy).1
    by_cases e1 : a = m
    · by_cases e2 : b = m
      · exact absurd (e1.trans e2.symm) hab
      · simp only [if_pos e1] at hx
        simp only [if_neg e2]
        intro h2
        have := hold b (by omega) x h2
        have := hnew x hx
        omega
    · simp only [if_neg e1] at hx
      by_cases e2 : b = m
      · simp only [if_pos e2]
        intro h2
        have := hold a (by omega) x hx
        have := hnew x h2
        omega
      · simp only [if_neg e2]
        exact h.far a b (by omega) (by omega) hab x hx
theorem OwnRows.kept {w w' : World} {ti tsl : TypeId} {base m : Nat} {v : Value} {F : Nat → List Int} {row : Nat → Value} {S : Nat → Prop} (h : OwnRows w ti tsl base v m F row) (k : Kept S w w') (hv : ∀ g, v.ownBlock = some g → ¬ S g) (hr : ∀ j, j < m → ∀ g, (row j).ownBlock = some g → ¬ S g) : OwnRows w' ti tsl base v m F row :=
  ⟨own_kept h.own k hv, fun j hj => by
    obtain ⟨A, c, e, ho⟩ := h.rows j hj
    exact ⟨A, c, e, own_kept ho k (hr j hj)⟩, h.far⟩
theorem OwnRows.row_lt {w : World} {ti tsl : TypeId} {base m : Nat} {v : Value} {F : Nat → List Int} {row : Nat → Value} (h : OwnRows w ti tsl base v m F row) {j g : Nat} (hj : j < m) (hg : (row j).ownBlock = some g) : base ≤ g ∧ g < w.heap.size := by
  obtain ⟨A, c, e, ho⟩ := h.rows j hj
  exact ho.lt g hg
theorem OwnRows.at_kept {w w' : World} {ti tsl : TypeId} {base m : Nat} {v : Value} {F : Nat → List Int} {row : Nat → Value} {S : Nat → Prop} (h : OwnRows w ti tsl base v m F row) (k : Kept S w w') (hS : ∀ g, S g → g < base) : OwnRows w' ti tsl base v m F row :=
  h.kept k (fun g hg hs => by have := (h.own.lt g hg).1; have := hS g hs; omega) (fun j hj g hg hs => by have := (h.row_lt hj hg).1; have := hS g hs; omega)
theorem OwnRows.less {w : World} {ti tsl : TypeId} {base base' m : Nat} {v : Value} {F : Nat → List Int} {row : Nat → Value} (h : OwnRows w ti tsl base v m F row) (hb : base' ≤ base) : OwnRows w ti tsl base' v m F row :=
  ⟨ownsRow_less h.own hb, fun j hj => by
    obtain ⟨A, c, e, ho⟩ := h.rows j hj
    exact ⟨A, c, e, ownsRow_less ho hb⟩, h.far⟩
theorem OwnRows.below {w w' : World} {ti tsl : TypeId} {base m : Nat} {v : Value} {F : Nat → List Int} {row : Nat → Value} (h : OwnRows w ti tsl base v m F row) (hb : Below w.heap.size w w') : OwnRows w' ti tsl base v m F row :=
  h.kept (Kept.of_below (S := fun _ => False) hb fun i h1 h2 => absurd h2 (Nat.not_lt_of_ge h1)) (fun _ _ h => h) (fun _ _ _ _ h => h)
theorem OwnRows.nrows {w : World} {ti tsl : TypeId} {base m : Nat} {A : Option Addr} {c : Nat} {needs : List (List Int)} {row : Nat → Value} (h : OwnRows w ti tsl base (.slice A m c) m (fun k => needs.getD k []) row) (hm : needs.length = m) : NRows w w.heap.size A m needs := by
  refine ⟨hm, _, Reads.of_own h.own, fun i hi => ?_⟩
  obtain ⟨A', c', e, ho⟩ := h.rows i hi
  rw [e] at ho
  have hc := ownsRow_cap ho
  refine ⟨A', c', ?_, hc.1, hc.2, Reads.of_own ho⟩
  rw [List.getElem?_map, List.getElem?_range hi]
  simp only [Option.map_some, e]
end Go.Idl
namespace Go.Proofs.YtleckdbdhkgcpaaDoor
open Go.RowKit Go.Shelf Go.Idl
set_option linter.unusedSimpArgs false
set_option linter.unusedVariables false

/-- What Copy gives. -/
def CopyPost (m : Nat) (needs : List (List Int)) (w : World) (e : Ending) (w' : World) : Prop :=
  ∃ A c row, e = .returned (.slice A m c) ∧ OwnRows w' 3 40 w.heap.size (.slice A m c) m (fun k => needs.getD k []) row ∧ Below w.heap.size w w'

set_option maxHeartbeats 4000000 in
set_option maxRecDepth 100000 in
theorem copy_any (D : Option Addr) (m mc : Nat) (needs : List (List Int)) (w : World) (hm : m ≤ 60) (hlen : ∀ i, i < m → (needs.getD i []).length ≤ 60) (hd : NRows w w.heap.size D m needs) :
    Calls Tryd.prog 31 #[.slice D m mc] w fun e w' => CopyPost m needs w e w' := by
  have hml : maxLen = 9223372036854775807 := rfl
  obtain ⟨i0, hi0, hz0, hz1, hz2⟩ := info_parts2 slice_info
  obtain ⟨i1, hi1, hy0, hy1, hy2⟩ := info_parts1 int_info1
  replace hd := Lib.hid hd
  replace hlen := Lib.hid hlen
  obtain ⟨P1, hP1⟩ : ∃ P1 : Nat → Option Addr → Nat → World → Prop, ∀ i A c wr, P1 i A c wr ↔ ∃ row, OwnRows wr 3 40 w.heap.size (.slice A i c) i (fun k => needs.getD k []) row ∧ Below w.heap.size w wr := ⟨_, fun _ _ _ _ => Iff.rfl⟩
  have hP0 := (hP1 0 none 0 w).2 ⟨fun _ => .nilIface, ⟨World.ownsRow_nil _ _ _ _, fun k hk => absurd hk (Nat.not_lt_zero k), fun k _ hk => absurd hk (Nat.not_lt_zero k)⟩, Below.refl _ _⟩
  replace hP1 := Lib.hid hP1
  replace hP0 := Lib.hid hP0
  go_enter Tryd.func31, Tryd.ntmps31
  go_wp2
  go_loopw [3, 4] (fun u v wr => ∃ (i : Nat) (A : Option Addr) (c : Nat), v = .int .i64 (i : Nat) ∧ u = .slice A i c ∧ i ≤ m ∧ P1 i A c wr) (fun u v wr => m - natOf v)
  case atStart => exact ⟨0, none, 0, rfl, rfl, by omega, hP0.out⟩
  case round =>
    obtain ⟨i, A, c, rfl, rfl, him, hI⟩ := hrel
    by_cases hi : i < m
    · have hlt : ((i : Int) < (m : Int)) := by omega
      obtain ⟨row, hO, hB⟩ := (hP1.out i A c wr).1 hI
      obtain ⟨ad2, A2, c2, hD, hbk2, e2, l1, l2, hrow⟩ := hd.out.at_ hi
      subst hD
      have hl60 := hlen.out i hi
      have e2' := (hB.cell (p := ad2.add i) (by rw [block_of_add]; exact hbk2)).trans e2
      have hrowr := (hrow.below hB).more hB.size
      have hsz := hB.size
      have h1 := nums_one (needs.getD i [])
      obtain ⟨ns, hns⟩ : ∃ ns, ns = needs.getD i [] := ⟨_, rfl⟩
      rw [← hns] at hl60 e2' hrowr h1
      have e3 : (wr.alloc (.cells #[] 3)).cell? (ad2.add i) = some (.slice A2 ns.length c2) := (World.cell?_alloc_lt wr _ _ (by rw [block_of_add]; omega)).trans e2'
      replace hns := Lib.hid hns
      replace hI := Lib.hid hI
      replace hO := Lib.hid hO
      replace hB := Lib.hid hB
      replace hrow := Lib.hid hrow
      replace hrowr := Lib.hid hrowr
      replace h1 := Lib.hid h1
      clear e2 e2'
      go_wp2_with (first
        | (at_builtin
           refine wpList_append_copy wr rfl _ _ 40 rfl 3 i1 (.int .i64 0) 1 8 Tryd.underlying40 hi1 hy0 hy1 hy2 rfl (by decide) rfl wr.heap.size _ ns.length _ (nums ns) rfl hrowr.out (Nat.le_refl _) h1.out (by rw [hml]; omega) (by omega) ?_
           intro A3 c3 w1 ho1 _ hb1
           have hO1 : w1.ownsRow w.heap.size 40 1 (.slice A i c) i ((List.range i).map row) := own_kept hO.out.own (Kept.of_below (S := fun _ => False) hb1 fun i h1 h2 => absurd h2 (Nat.not_lt_of_ge h1)) (fun _ _ h => h)
           have hs1 := hb1.size
           replace ho1 := Lib.hid ho1
           replace hb1 := Lib.hid hb1
           replace hO1 := Lib.hid hO1)
        | (at_builtin
           refine wpList_append_any (w1.alloc (.cells [Value.slice A3 ns.length c3].toArray 40)) rfl _ _ 24 rfl w.heap.size 40 i0 (.slice none 0 0) 1 24 Tryd.underlying24 hi0 hz0 hz1 hz2 rfl (by decide) _ i ((List.range i).map row) rfl (hO1.out.alloc _) _ _ 1 1 [Value.slice A3 ns.length c3] rfl (Reads.newN w1 40 1 1 [Value.slice A3 ns.length c3] rfl) (by simp [Value.oneCell']) (by rw [hml]; omega) (by omega) (by simp; omega) ?_
           intro v' w2 ho2 hg2 _
           obtain ⟨A4, c4, rfl⟩ := ownsRow_slice ho2
           have hfin : P1 (i + 1) A4 c4 w2 := by
             have ho1' := ho1.out
             rw [hns.out] at ho1' ho2
             obtain ⟨h1, h2⟩ := OwnRows.snoc (F := fun k => needs.getD k []) hO.out (by decide) hsz hb1.out ho1' ho2 hg2
             refine (hP1.out (i + 1) A4 c4 w2).2 ⟨_, h1, hB.out.trans (h2.below hsz fun k hk e => ?_)⟩
             have := (hO.out.own.lt k e).1
             omega
           replace hfin := Lib.hid hfin
           clear ho2 hg2)
        | fail)
      go_roundw
      case rel => exact ⟨i + 1, A4, c4, by go_num, rfl, by omega, hfin.out⟩
      case measure => simp [natOf]; omega
    · have hie : i = m := by omega
      have hlt : ¬ ((i : Int) < (m : Int)) := by omega
      subst hie
      obtain ⟨row, hO, hB⟩ := (hP1.out i A c wr).1 hI
      have hpost : CopyPost i needs w (.returned (.slice A i c)) wr := ⟨A, c, row, rfl, hO, hB⟩
      replace hpost := Lib.hid hpost
      replace hO := Lib.hid hO
      replace hB := Lib.hid hB
      replace hI := Lib.hid hI
      go_wp2
      go_ret
      exact hpost.out
end Go.Proofs.YtleckdbdhkgcpaaDoor
namespace Go.Proofs.YtleckdbdhkgcpaaDoor
open Go.RowKit Go.Shelf Go.Idl
set_option linter.unusedSimpArgs false
set_option linter.unusedVariables false

theorem own_emptyV {w : World} {base g size : Nat} {e : TypeId} (h : Blk w g e #[]) (hb : base ≤ g) : w.ownsRow base e size (.slice (some ⟨g, 0, none⟩) 0 0) 0 [] :=
  ⟨by simp, .inr ⟨g, 0, #[], rfl, hb, h, Nat.le_refl _, Nat.zero_le _, by simp, by simp⟩⟩
theorem ownsRow_belowV {w w' : World} {base : Nat} {e : TypeId} {size n : Nat} {v : Value} {xs : List Value} (h : w.ownsRow base e size v n xs) (hb : Below w.heap.size w w') : w'.ownsRow base e size v n xs :=
  own_kept h (Kept.of_below (S := fun _ => False) hb fun i h1 h2 => absurd h2 (Nat.not_lt_of_ge h1)) (fun _ _ h => h)

/-- What copied gives. -/
def CopiedPost (l m : Nat) (consts : List Lb) (needs : List (List Int)) (w : World) (e : Ending) (w' : World) : Prop :=
  ∃ A1 c1 A2 c2 row, e = .returned (.agg #[.slice A1 l c1, .slice A2 m c2]) ∧ w'.ownsRow w.heap.size 29 2 (.slice A1 l c1) l (lbVals consts) ∧ OwnRows w' 3 40 w.heap.size (.slice A2 m c2) m (fun k => needs.getD k []) row ∧ Below w.heap.size w w'

set_option maxHeartbeats 8000000 in
set_option maxRecDepth 100000 in
theorem copied_any (C D : Option Addr) (l lc m mc : Nat) (consts : List Lb) (needs : List (List Int)) (w : World) (hl : consts.length = l) (hl60 : l ≤ 60) (hm60 : m ≤ 60) (hlen : ∀ i, i < m → (needs.getD i []).length ≤ 60) (hc : Reads w w.heap.size 2 C l (lbVals consts)) (hd : NRows w w.heap.size D m needs) :
    Calls Tryd.prog 12 #[.agg #[.slice C l lc, .slice D m mc]] w fun e w' => CopiedPost l m consts needs w e w' := by
  have hml : maxLen = 9223372036854775807 := rfl
  obtain ⟨i0, hi0, hz0, hz1, hz2⟩ := info_parts2 label_info
  obtain ⟨X, hX⟩ : ∃ X, (w.alloc (.cells #[.slice C l lc, .slice D m mc] 26)).alloc (.cells #[.slice none 0 0, .slice none 0 0] 26) = X := ⟨_, rfl⟩
  have k0 : Blk X w.heap.size 26 #[.slice C l lc, .slice D m mc] := by rw [← hX]; exact (Blk.new w _ _).alloc _
  have k1 : Blk X (w.heap.size + 1) 26 #[.slice none 0 0, .slice none 0 0] := by rw [← hX]; exact Blk.new_at _ _ _ _ (by simp)
  have hsz : X.heap.size = w.heap.size + 2 := by rw [← hX]; simp
  have hB0 : Below w.heap.size w X := by rw [← hX]; exact ((Below.refl _ w).alloc (Nat.le_refl _) _).alloc (by simp) _
  obtain ⟨p0, p1⟩ := pair_cells k0
  have h1 := Lib.hid (lbVals_one consts)
  have hcX := Lib.hid (show Reads X (w.heap.size + 2) 2 C l (lbVals consts) from (hc.below hB0).more (by omega))
  have hdX := Lib.hid (show NRows X (w.heap.size + 2) D m needs from (hd.below hB0).more (by omega))
  have hcell := Lib.hid (fun (W : World) (p : Addr) (v : Value) (h : Below (w.heap.size + 1) X W) (hp : p.block < w.heap.size + 1) (hv : X.cell? p = some v) => (h.cell hp).trans hv)
  replace hc := Lib.hid hc
  replace hd := Lib.hid hd
  replace k0 := Lib.hid k0
  replace k1 := Lib.hid k1
  replace hB0 := Lib.hid hB0
  replace hlen := Lib.hid hlen
  replace hl := Lib.hid hl
  go_enter Tryd.func12, Tryd.ntmps12
  go_upto_region 1 with fail
  go_region_held3 (fun w' => w'.cell? ⟨w.heap.size, 0, none⟩ = some (.slice C l lc) ∧ w'.cell? ⟨w.heap.size, 1, none⟩ = some (.slice D m mc))
    (first
        | (refine ⟨?_, ?_⟩ <;> (refine hcell.out _ _ _ ?_ (by first | omega | (simp <;> omega)) (by assumption); (repeat (first | with_reducible exact (hb2.out.mono (by omega)) | with_reducible exact (hb1.out.mono (by omega)) | with_reducible exact Below.refl _ _ | with_reducible refine Below.drew ?_ | (with_reducible refine Below.alloc ?_ ?_ _; rotate_left; · first | omega | (simp <;> omega)) | (with_reducible refine Below.setCell ?_ ?_ _; rotate_left; · first | omega | (simp <;> omega))))))
        | (refine hcell.out _ _ _ ?_ (by first | omega | (simp <;> omega)) (by assumption); (repeat (first | with_reducible exact (hb2.out.mono (by omega)) | with_reducible exact (hb1.out.mono (by omega)) | with_reducible exact Below.refl _ _ | with_reducible refine Below.drew ?_ | (with_reducible refine Below.alloc ?_ ?_ _; rotate_left; · first | omega | (simp <;> omega)) | (with_reducible refine Below.setCell ?_ ?_ _; rotate_left; · first | omega | (simp <;> omega)))))
        | go_keep)
    (first
      | (refine step_append_any _ (by rfl) _ _ _ (by rfl) (w.heap.size + 2) 29 i0 _ 2 16 Tryd.underlying23 hi0 hz0 hz1 hz2 rfl (by decide) (.slice (some ⟨_, 0, none⟩) 0 0) 0 [] (by rfl) (own_emptyV (base := w.heap.size + 2) (g := _) (by (repeat (first  | exact Blk.new_at _ _ _ _ (by first | rfl | (simp <;> omega) | (simp [hsz] <;> omega)) | with_reducible refine Blk.drew ?_ | with_reducible refine Blk.alloc ?_ _))) (by simp [hsz])) (w.heap.size + 2) C l lc (lbVals consts) (by rfl) (by (repeat (first | with_reducible exact hcX.out | with_reducible refine Reads.drew ?_ | (with_reducible refine Reads.alloc ?_ ?_ _; rotate_left; · first | omega | (simp <;> omega))))) h1.out (by omega) (by omega) (by simp; omega) ?_
         intro v1 w1 hown1 hg1 hat1
         rw [Nat.zero_add, List.nil_append] at hown1
         obtain ⟨A1, c1, rfl⟩ := ownsRow_slice hown1
         have hb1 := Lib.hid ((show Below (w.heap.size + 2) X _ by (repeat (first  | with_reducible exact Below.refl _ _ | with_reducible refine Below.drew ?_ | (with_reducible refine Below.alloc ?_ ?_ _; rotate_left; · first | omega | (simp <;> omega)) | (with_reducible refine Below.setCell ?_ ?_ _; rotate_left; · first | omega | (simp <;> omega))))).grown hg1 (by simp; omega) (fun j hj => by simp [Value.ownBlock] at hj; omega))
         replace hown1 := Lib.hid hown1
         have hs1 := hb1.out.size
         clear hg1 hat1)
      | (go_at_call 31
         refine (copy_any D m mc needs _ hm60 hlen.out ?_).mono ?_
         · exact (hdX.out.below (by (repeat (first | with_reducible exact hb2.out | with_reducible exact hb1.out | with_reducible exact Below.refl _ _ | with_reducible refine Below.drew ?_ | (with_reducible refine Below.alloc ?_ ?_ _; rotate_left; · first | omega | (simp <;> omega)) | (with_reducible refine Below.setCell ?_ ?_ _; rotate_left; · first | omega | (simp <;> omega)))))).more (by first | omega | (simp <;> omega))
         rintro e w2 ⟨A2, c2, row, rfl, hO2, hb2'⟩
         have hs2 := hb2'.size
         have hb2 := Lib.hid (Below.trans (show Below (w.heap.size + 2) X _ by (repeat (first | with_reducible exact hb2.out | with_reducible exact hb1.out | with_reducible exact Below.refl _ _ | with_reducible refine Below.drew ?_ | (with_reducible refine Below.alloc ?_ ?_ _; rotate_left; · first | omega | (simp <;> omega)) | (with_reducible refine Below.setCell ?_ ?_ _; rotate_left; · first | omega | (simp <;> omega))))) (hb2'.mono (by first | omega | (simp <;> omega))))
         have hlab := Lib.hid (show w2.ownsRow (w.heap.size + 2) 29 2 (.slice A1 l c1) l (lbVals consts) from ownsRow_belowV (by (repeat (first | with_reducible exact hown1.out | with_reducible refine World.ownsRow.alloc ?_ _ | with_reducible refine World.ownsRow.drew ?_))) hb2')
         have kR := k1.out.below hb2.out (by omega)
         have kf0 := kR.frozen 0
         have kf1 := kR.frozen 1
         obtain ⟨q0, q1⟩ := pair_cells kR
         replace kR := Lib.hid kR
         replace hO2 := Lib.hid hO2
         clear hb2')
      | fail)
  all_goals (
    obtain ⟨e0, e1⟩ := pair_cells (pair_set kR.out (.slice A1 l c1) (.slice A2 m c2))
    go_wp2
    refine bodyPost_ret (v := .agg #[.slice A1 l c1, .slice A2 m c2]) (by simp [results, Tryd.f12, go_sem, e0, e1]) rfl ?_
    have hKs : Kept (fun k => k = w.heap.size + 1) w2 ((w2.setCell ⟨w.heap.size + 1, 0, none⟩ (.slice A1 l c1)).setCell ⟨w.heap.size + 1, 1, none⟩ (.slice A2 m c2)) := ((Kept.refl (fun k => k = w.heap.size + 1) w2).setCell (p := ⟨w.heap.size + 1, 0, none⟩) rfl _).setCell (p := ⟨w.heap.size + 1, 1, none⟩) rfl _
    have hBs : Below (w.heap.size + 1) X ((w2.setCell ⟨w.heap.size + 1, 0, none⟩ (.slice A1 l c1)).setCell ⟨w.heap.size + 1, 1, none⟩ (.slice A2 m c2)) := ((hb2.out.mono (by omega)).setCell (by simp) _).setCell (by simp) _
    exact ⟨A1, c1, A2, c2, row, rfl, ownsRow_less (own_kept hlab.out hKs fun g hg e => by have := (hlab.out.lt g hg).1; omega) (by omega), (hO2.out.at_kept hKs (fun g e => by omega)).less (by omega), hB0.out.trans (hBs.mono (by omega))⟩)
end Go.Proofs.YtleckdbdhkgcpaaDoor
