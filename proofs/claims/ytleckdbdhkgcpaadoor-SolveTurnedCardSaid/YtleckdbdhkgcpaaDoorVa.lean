/- awake: the chapter's example. -/
import Derived.Test.YtleckdbdhkgcpaaDoorVf
namespace Go.Idl
open Go Go.RowKit
set_option linter.unusedSimpArgs false
set_option linter.unusedVariables false
def awUp : List Nat := [3, 2]
def awC : List Lb := [⟨0, 0⟩, ⟨1, 0⟩, ⟨0, 4⟩]
def awN : List (List Nat) := [[1], [2], []]
def awL : List Lb := [⟨1, 4⟩, ⟨1, 4⟩, ⟨0, 4⟩]
theorem aw_masks : Masks awUp := by
  intro k
  match k with
  | 0 => decide
  | 1 => decide
  | k + 2 => exact (by decide : 0 < 2 ^ 64)
theorem aw_sysB : sysB awUp awC (awN.map casts) = true := by decide
theorem aw_sys : Idl.Sys awUp awC awN := by
  refine ⟨Lat.of aw_masks (by decide), rfl, fun i hi => ?_, fun i hi k hk => ?_⟩
  · match i, hi with
    | 0, _ => exact ⟨0, rfl, by decide⟩
    | 1, _ => exact ⟨1, rfl, by decide⟩
    | 2, _ => exact ⟨0, rfl, by decide⟩
  · match i, hi with
    | 0, _ => simp [awN] at hk; subst hk; decide
    | 1, _ => simp [awN] at hk; subst hk; decide
    | 2, _ => simp [awN] at hk
theorem aw_least : Least awUp awC awN awL := by
  have h1 := (Toward.start aw_sys).step aw_sys (i := 1) (by decide)
  have e1 : awC.set 1 (valF awUp awC awN awC 1) = [⟨0, 0⟩, ⟨1, 4⟩, ⟨0, 4⟩] := by decide
  rw [e1] at h1
  have h2 := h1.1.step aw_sys (i := 0) (by decide)
  have e2 : ([⟨0, 0⟩, ⟨1, 4⟩, ⟨0, 4⟩] : List Lb).set 0 (valF awUp awC awN [⟨0, 0⟩, ⟨1, 4⟩, ⟨0, 4⟩] 0) = awL := by decide
  rw [e2] at h2
  refine h2.1.least fun i hi => ?_
  match i, hi with
  | 0, _ => decide
  | 1, _ => decide
  | 2, _ => decide
theorem reads_blkN {w : World} {g size n : Nat} {t : TypeId} {xs : List Value} (h : Blk w g t xs.toArray) (hn : xs.length = n * size) (B : Nat) (hB : g < B) : Reads w B size (some ⟨g, 0, none⟩) n xs := by
  refine ⟨hn, fun _ => ⟨_, rfl, hB, fun j u hu => ?_⟩⟩
  have e1 : (⟨g, 0, none⟩ : Addr).add j = ⟨g, j, none⟩ := by
    unfold Addr.add
    split
    · rename_i h; subst h; rfl
    · simp
  rw [e1, h.cell, List.getElem?_toArray]
  exact hu
theorem aw_fan : fanF awN ≤ 1000000 := by decide
end Go.Idl
namespace Go.Proofs.YtleckdbdhkgcpaaDoor
open Go.RowKit Go.Shelf Go.Idl
set_option linter.unusedSimpArgs false
set_option linter.unusedVariables false

set_option maxHeartbeats 4000000 in
set_option maxRecDepth 100000 in
theorem awake_any (w : World) (hT : Tab w) : Calls Tryd.prog 11 #[] w fun e w' => e = .returned (.bool true) ∧ Below w.heap.size w w' := by
  have hml : maxLen = 9223372036854775807 := rfl
  obtain ⟨X, hX⟩ : ∃ X, (((((w.alloc (.cells #[.int .i64 0, .int .u64 0, .int .i64 1, .int .u64 0, .int .i64 0, .int .u64 4] 29)).alloc (.cells #[.int .i64 1] 3)).alloc (.cells #[.int .i64 2] 3)).alloc (.cells #[.slice (some ⟨w.heap.size + 1, 0, none⟩) 1 1, .slice (some ⟨w.heap.size + 1 + 1, 0, none⟩) 1 1, .slice none 0 0] 40)).alloc
      (.cells #[.slice (some ⟨w.heap.size, 0, none⟩) 3 3, .slice (some ⟨w.heap.size + 1 + 1 + 1, 0, none⟩) 3 3] 26)).alloc (.cells #[.int .u64 3, .int .u64 2] 27) = X := ⟨_, rfl⟩
  have hsz : X.heap.size = w.heap.size + 6 := by rw [← hX]; simp
  have hB : Below w.heap.size w X := by
    rw [← hX]
    exact ((((((Below.refl _ w).alloc (Nat.le_refl _) _).alloc (by simp) _).alloc (by simp; omega) _).alloc (by simp; omega) _).alloc (by simp; omega) _).alloc (by simp; omega) _
  have b0 : Blk X w.heap.size 29 (lbVals awC).toArray := by rw [← hX]; exact (((((Blk.new w _ _).alloc _).alloc _).alloc _).alloc _).alloc _
  have b1 : Blk X (w.heap.size + 1) 3 (nums [1]).toArray := by rw [← hX]; exact ((((Blk.new_at _ _ _ _ (by simp)).alloc _).alloc _).alloc _).alloc _
  have b2 : Blk X (w.heap.size + 1 + 1) 3 (nums [2]).toArray := by rw [← hX]; exact (((Blk.new_at _ _ _ _ (by simp)).alloc _).alloc _).alloc _
  have b3 : Blk X (w.heap.size + 1 + 1 + 1) 40 [.slice (some ⟨w.heap.size + 1, 0, none⟩) 1 1, .slice (some ⟨w.heap.size + 1 + 1, 0, none⟩) 1 1, .slice none 0 0].toArray := by rw [← hX]; exact ((Blk.new_at _ _ _ _ (by simp)).alloc _).alloc _
  have b4 : Blk X (w.heap.size + 1 + 1 + 1 + 1) 26 #[.slice (some ⟨w.heap.size, 0, none⟩) 3 3, .slice (some ⟨w.heap.size + 1 + 1 + 1, 0, none⟩) 3 3] := by rw [← hX]; exact (Blk.new_at _ _ _ _ (by simp)).alloc _
  obtain ⟨c0, c1⟩ := pair_cells b4
  have b5 : Blk X (w.heap.size + 1 + 1 + 1 + 1 + 1) 27 (u64s awUp).toArray := by rw [← hX]; exact Blk.new_at _ _ _ _ (by simp)
  have hd : NRows X X.heap.size (some ⟨w.heap.size + 1 + 1 + 1, 0, none⟩) 3 (awN.map casts) := by
    refine ⟨rfl, _, reads_blkN b3 rfl _ (by omega), fun i hi => ?_⟩
    match i, hi with
    | 0, _ => exact ⟨_, _, rfl, by decide, by decide, reads_blkN b1 rfl _ (by omega)⟩
    | 1, _ => exact ⟨_, _, rfl, by decide, by decide, reads_blkN b2 rfl _ (by omega)⟩
    | 2, _ => exact ⟨_, _, rfl, by decide, by decide, Reads.none_⟩
  have hSol := solve_yes (some ⟨w.heap.size + 1 + 1 + 1 + 1 + 1, 0, none⟩) 2 2 awUp (some ⟨w.heap.size, 0, none⟩) (some ⟨w.heap.size + 1 + 1 + 1, 0, none⟩) 3 3 3 3 awC awN X (hT.later hB) rfl (by decide) aw_masks (reads_blkN b5 rfl _ (by omega)) rfl (by decide) (reads_blkN b0 rfl _ (by omega)) (by decide) hd aw_sysB aw_sys (by decide) aw_fan
  replace hSol := Lib.hid hSol
  replace hd := Lib.hid hd
  replace b0 := Lib.hid b0
  replace b1 := Lib.hid b1
  replace b2 := Lib.hid b2
  replace b3 := Lib.hid b3
  replace b5 := Lib.hid b5
  replace b4 := Lib.hid b4
  replace hB := Lib.hid hB
  replace hT := Lib.hid hT
  replace hsz := Lib.hid hsz
  go_enter Tryd.func11, Tryd.ntmps11
  go_wp2_with fail
  refine hSol.out.mono ?_
  rintro e w2 ⟨L, lL, lbs, looks, rfl, hL, _, _, hlst, _, hlo, _, hb2⟩
  obtain rfl : lbs = awL := hlst.unique aw_sys aw_least
  have hlo3 : ((3 : Int) ≤ (looks : Int)) := by
    have : awC.length = 3 := rfl
    omega
  obtain ⟨Y, hY⟩ : ∃ Y, w2.alloc (.cells #[.int .i64 1, .int .u64 4, .int .i64 1, .int .u64 4, .int .i64 0, .int .u64 4] 29) = Y := ⟨_, rfl⟩
  have hbY : Below w2.heap.size w2 Y := by rw [← hY]; exact (Below.refl _ w2).alloc (Nat.le_refl _) _
  have kY : Blk Y w2.heap.size 29 (lbVals awL).toArray := by rw [← hY]; exact Blk.new w2 _ _
  have hsY : Y.heap.size = w2.heap.size + 1 := by rw [← hY]; simp
  have hSame := same_any L (some ⟨w2.heap.size, 0, none⟩) 3 lL 3 3 awL awL Y rfl rfl (by decide) ((hL.below hbY).more hbY.size) (reads_blkN kY rfl _ (by omega))
  have htr : sameB awL awL = true := by unfold sameB; simp
  rw [htr] at hSame
  have hB2 := hB.out.trans (hb2.mono hB.out.size)
  have hBY := Lib.hid (hB2.trans (hbY.mono hB2.size))
  replace hSame := Lib.hid hSame
  replace hL := Lib.hid hL
  replace hlst := Lib.hid hlst
  replace hlo := Lib.hid hlo
  replace hb2 := Lib.hid hb2
  replace hbY := Lib.hid hbY
  replace kY := Lib.hid kY
  replace hsY := Lib.hid hsY
  clear hB2 htr hX
  go_wp2_with fail
  refine hSame.out.mono ?_
  rintro e w3 ⟨rfl, hb3⟩
  have hfin := Lib.hid (hBY.out.trans (hb3.mono hBY.out.size))
  clear hb3
  go_wp2
  go_ret
  exact ⟨by simp, hfin.out⟩
end Go.Proofs.YtleckdbdhkgcpaaDoor
