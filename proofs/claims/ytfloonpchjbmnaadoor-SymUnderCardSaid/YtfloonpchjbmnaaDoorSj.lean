/- sym.Join, sym.Leq. -/
import Derived.Test.YtfloonpchjbmnaaDoorSl
namespace Go.Idl
open Go Go.RowKit
/-- What sym.Join answers. -/
def sjL (up : List Nat) (a b : Lb) : Lb := if bothL up a.lv b.lv = true then joinL up a b else ⟨0, 0⟩
def slB (up : List Nat) (a b : Lb) : Bool := bothL up a.lv b.lv && leL up a b
theorem joinI_small (up : List Nat) (a b : Nat) (h : up.length ≤ 64) : -1 ≤ joinI up a b ∧ joinI up a b < 64 := by
  rcases firstI_cases up.length (isJoinB up a b) with ⟨k, hk, _, _, he⟩ | ⟨_, he⟩
  · unfold joinI; rw [he]; omega
  · unfold joinI; rw [he]; omega
/-- A pair of cells stored. -/
theorem pair_set {W : World} {g : Nat} {t : TypeId} {p q : Value} (h : Blk W g t #[p, q]) (x y : Value) : Blk ((W.setCell ⟨g, 0, none⟩ x).setCell ⟨g, 1, none⟩ y) g t #[x, y] := by
  have := (h.set_ 0 x).set_ 1 y
  simpa using this
theorem pair_cells {W : World} {g : Nat} {t : TypeId} {p q : Value} (h : Blk W g t #[p, q]) : W.cell? ⟨g, 0, none⟩ = some p ∧ W.cell? ⟨g, 1, none⟩ = some q := by
  have h0 := h.cell 0
  have h1 := h.cell 1
  exact ⟨h0, h1⟩
end Go.Idl
namespace Go.Proofs.YtfloonpchjbmnaaDoor
open Go.RowKit Go.Shelf Go.Idl

theorem sjoin_any (A : Option Addr) (n c : Nat) (up : List Nat) (a b : Lb) (w : World) (hT : Tab w) (hn : up.length = n) (hn63 : n ≤ maxLen) (hM : Masks up) (hr : Reads w w.heap.size 1 A n (u64s up)) (ha : a.ms < 2 ^ 64) (hb : b.ms < 2 ^ 64) :
    Calls Tryd.prog 19 #[.slice A n c, lbV a, lbV b] w fun e w' => e = .returned (.tuple #[lbV (sjL up a b), .bool (bothL up a.lv b.lv)]) ∧ Below w.heap.size w w' := by
  obtain ⟨av, am⟩ := a
  obtain ⟨bv, bm⟩ := b
  dsimp only at ha hb ⊢
  obtain ⟨W0, hW0⟩ : ∃ W0, ((w.alloc (.cells #[.int .i64 av, .int .u64 (am : Nat)] 25)).alloc (.cells #[.int .i64 bv, .int .u64 (bm : Nat)] 25)).alloc (.cells #[.int .i64 0, .int .u64 0] 25) = W0 := ⟨_, rfl⟩
  have k0 : Blk W0 w.heap.size 25 #[.int .i64 av, .int .u64 (am : Nat)] := by rw [← hW0]; exact ((Blk.new w _ _).alloc _).alloc _
  have k1 : Blk W0 (w.heap.size + 1) 25 #[.int .i64 bv, .int .u64 (bm : Nat)] := by rw [← hW0]; exact (Blk.new_at _ _ _ _ (by simp)).alloc _
  have k2 : Blk W0 (w.heap.size + 2) 25 #[.int .i64 0, .int .u64 0] := by rw [← hW0]; exact Blk.new_at _ _ _ _ (by simp)
  have hs0 : W0.heap.size = w.heap.size + 3 := by rw [← hW0]; simp
  have hB0 : Below w.heap.size w W0 := by rw [← hW0]; exact (((Below.refl _ w).alloc (Nat.le_refl _) _).alloc (by simp) _).alloc (by simp; omega) _
  have hJ := join_any A n c up av bv W0 (hT.later hB0) hn hn63 hM ((hr.below hB0).more hB0.size)
  have p0 := k0.cell 0
  have p1 := k1.cell 0
  simp only [List.getElem?_toArray, List.getElem?_cons_zero] at p0 p1
  have hor := u64_or_eq am bm ha hb
  replace hJ := Lib.hid hJ
  replace k0 := Lib.hid k0
  replace k1 := Lib.hid k1
  replace k2 := Lib.hid k2
  replace hB0 := Lib.hid hB0
  replace hT := Lib.hid hT
  replace hr := Lib.hid hr
  replace hn := Lib.hid hn
  replace hM := Lib.hid hM
  cases hq : bothL up av bv with
  | false =>
    have hsj : sjL up ⟨av, am⟩ ⟨bv, bm⟩ = ⟨0, 0⟩ := by unfold sjL; simp only [hq]; rfl
    rw [hsj]
    replace hsj := Lib.hid hsj
    replace hq := Lib.hid hq
    go_enter Tryd.func19, Tryd.ntmps19
    go_wp2_with fail
    refine hJ.out.mono ?_
    rintro e w1 ⟨rfl, hb1⟩
    rw [hq.out]
    have u2 := k2.out.below hb1 (by omega)
    have c20 := u2.cell 0
    have c21 := u2.cell 1
    simp only [List.getElem?_toArray, List.getElem?_cons_zero, List.getElem?_cons_succ] at c20 c21
    have f20 := u2.frozen 0
    have f21 := u2.frozen 1
    replace u2 := Lib.hid u2
    replace hb1 := Lib.hid hb1
    go_wp2
    obtain ⟨e0, e1⟩ := pair_cells (pair_set u2.out (.int .i64 0) (.int .u64 0))
    exact bodyPost_ret (v := .tuple #[.agg #[.int .i64 0, .int .u64 0], .bool false]) (by simp [results, Tryd.f19, go_sem, e0, e1]) rfl ⟨rfl, (((hB0.out.trans (hb1.out.mono hB0.out.size)).setCell (by simp; omega) _).setCell (by simp; omega) _)⟩
  | true =>
    have hsj : sjL up ⟨av, am⟩ ⟨bv, bm⟩ = joinL up ⟨av, am⟩ ⟨bv, bm⟩ := by unfold sjL; simp only [hq]; rfl
    rw [hsj]
    replace hsj := Lib.hid hsj
    replace hq := Lib.hid hq
    go_enter Tryd.func19, Tryd.ntmps19
    go_wp2_with fail
    refine hJ.out.mono ?_
    rintro e w1 ⟨rfl, hb1⟩
    rw [hq.out, if_pos rfl]
    have u0 := k0.out.below hb1 (by omega)
    have u1 := k1.out.below hb1 (by omega)
    have u2 := k2.out.below hb1 (by omega)
    have c01 := u0.cell 1
    have c11 := u1.cell 1
    have c20 := u2.cell 0
    have c21 := u2.cell 1
    simp only [List.getElem?_toArray, List.getElem?_cons_zero, List.getElem?_cons_succ] at c01 c11 c20 c21
    have f20 := u2.frozen 0
    have f21 := u2.frozen 1
    replace u2 := Lib.hid u2
    replace u0 := Lib.hid u0
    replace u1 := Lib.hid u1
    replace hb1 := Lib.hid hb1
    go_wp2
    obtain ⟨e0, e1⟩ := pair_cells (pair_set u2.out (.int .i64 (joinI up av.toNat bv.toNat)) (.int .u64 ((am ||| bm : Nat) : Int)))
    exact bodyPost_ret (v := .tuple #[.agg #[.int .i64 (joinI up av.toNat bv.toNat), .int .u64 ((am ||| bm : Nat) : Int)], .bool true]) (by simp [results, Tryd.f19, go_sem, e0, e1]) rfl ⟨rfl, (((hB0.out.trans (hb1.out.mono hB0.out.size)).setCell (by simp; omega) _).setCell (by simp; omega) _)⟩

theorem sleq_any (A : Option Addr) (n c : Nat) (up : List Nat) (a b : Lb) (w : World) (hT : Tab w) (hn : up.length = n) (hn63 : n ≤ maxLen) (hM : Masks up) (hr : Reads w w.heap.size 1 A n (u64s up)) (ha : a.ms < 2 ^ 64) (hb : b.ms < 2 ^ 64) :
    Calls Tryd.prog 20 #[.slice A n c, lbV a, lbV b] w fun e w' => e = .returned (.bool (slB up a b)) ∧ Below w.heap.size w w' := by
  obtain ⟨av, am⟩ := a
  obtain ⟨bv, bm⟩ := b
  dsimp only at ha hb ⊢
  obtain ⟨W0, hW0⟩ : ∃ W0, (w.alloc (.cells #[.int .i64 av, .int .u64 (am : Nat)] 25)).alloc (.cells #[.int .i64 bv, .int .u64 (bm : Nat)] 25) = W0 := ⟨_, rfl⟩
  have k0 : Blk W0 w.heap.size 25 #[.int .i64 av, .int .u64 (am : Nat)] := by rw [← hW0]; exact (Blk.new w _ _).alloc _
  have k1 : Blk W0 (w.heap.size + 1) 25 #[.int .i64 bv, .int .u64 (bm : Nat)] := by rw [← hW0]; exact Blk.new_at _ _ _ _ (by simp)
  have hs0 : W0.heap.size = w.heap.size + 2 := by rw [← hW0]; simp
  have hB0 : Below w.heap.size w W0 := by rw [← hW0]; exact ((Below.refl _ w).alloc (Nat.le_refl _) _).alloc (by simp) _
  have hJ := leq_any A n c up av bv W0 (hT.later hB0) hn hn63 hM ((hr.below hB0).more hB0.size)
  obtain ⟨p0, p2⟩ := pair_cells k0
  obtain ⟨p1, p3⟩ := pair_cells k1
  have hsub := andNot_sub am bm ha hb
  have hsl : slB up ⟨av, am⟩ ⟨bv, bm⟩ = ((bothL up av bv && le up av.toNat bv.toNat) && subB am bm) := by
    unfold slB leL
    rw [Bool.and_assoc]
  rw [hsl]
  replace hsl := Lib.hid hsl
  generalize (bothL up av bv && le up av.toNat bv.toNat) = q at *
  generalize subB am bm = q2 at *
  replace hJ := Lib.hid hJ
  replace k0 := Lib.hid k0
  replace k1 := Lib.hid k1
  replace hB0 := Lib.hid hB0
  replace hT := Lib.hid hT
  replace hr := Lib.hid hr
  replace hn := Lib.hid hn
  replace hM := Lib.hid hM
  go_enter Tryd.func20, Tryd.ntmps20
  go_wp2_with fail
  refine hJ.out.mono ?_
  rintro e w1 ⟨rfl, hb1⟩
  obtain ⟨c00, c01⟩ := pair_cells (k0.out.below hb1 (by omega))
  obtain ⟨c10, c11⟩ := pair_cells (k1.out.below hb1 (by omega))
  replace hb1 := Lib.hid hb1
  cases q with
  | false =>
    go_wp2
    go_ret
    exact ⟨rfl, hB0.out.trans (hb1.out.mono hB0.out.size)⟩
  | true =>
    go_wp2
    go_ret
    exact ⟨by simp, hB0.out.trans (hb1.out.mono hB0.out.size)⟩

end Go.Proofs.YtfloonpchjbmnaaDoor
