/- The sym laws' awake: the chapter's first example. -/
import Derived.Test.YtfloonpchjbmnaaDoorSw
import Derived.Test.YtfloonpchjbmnaaDoorLe2
namespace Go.Proofs.YtfloonpchjbmnaaDoor
open Go.RowKit Go.Shelf Go.Idl
attribute [local go_sem] label_equalIn

theorem ex_lat : latB [3, 2] = true := by decide +kernel
theorem ex_ok1 : putOk [3, 2] ⟨0, 65⟩ [⟨1, 0⟩] ⟨0, 4⟩ = true := by decide +kernel
theorem ex_pf1 : putF [3, 2] ⟨0, 65⟩ [⟨1, 0⟩] ⟨0, 4⟩ = ⟨1, 4⟩ := by decide +kernel
theorem ex_ok2 : putOk [3, 2] ⟨0, 1⟩ (lows [1]) ⟨0, 0⟩ = true := by decide +kernel
theorem ex_pf2 : putF [3, 2] ⟨0, 1⟩ (lows [1]) ⟨0, 0⟩ = ⟨1, 0⟩ := by decide +kernel
theorem ex_masks : Masks [3, 2] := fun k => by
  match k with
  | 0 => decide
  | 1 => decide
  | k + 2 => exact Nat.two_pow_pos 64
theorem ex_put1 : putL [3, 2] ⟨0, 65⟩ [⟨1, 0⟩] ⟨0, 4⟩ = ⟨1, 4⟩ := by unfold putL; rw [ex_ok1, if_pos rfl, ex_pf1]
theorem ex_put2 : putL [3, 2] ⟨0, 1⟩ (lows [1]) ⟨0, 0⟩ = ⟨1, 0⟩ := by unfold putL; rw [ex_ok2, if_pos rfl, ex_pf2]

set_option maxHeartbeats 4000000 in
theorem awake_any (w : World) (hT : Tab w) : Calls Tryd.prog 14 #[] w fun e w' => e = .returned (.bool true) ∧ Below w.heap.size w w' := by
  have hml : maxLen = 9223372036854775807 := rfl
  replace hT := Lib.hid hT
  go_enter Tryd.func14, Tryd.ntmps14
  go_wp2_with fail
  obtain ⟨W0, hW0⟩ : ∃ W0, (w.alloc (.cells #[.int .u64 3, .int .u64 2] 23)).alloc (.cells #[.int .i64 1, .int .u64 0] 25) = W0 := ⟨_, rfl⟩
  have hb0 : Below w.heap.size w W0 := by rw [← hW0]; exact ((Below.refl _ w).alloc (Nat.le_refl _) _).alloc (by simp) _
  have hr0 : Reads W0 W0.heap.size 1 (some ⟨w.heap.size, 0, none⟩) 2 (u64s [3, 2]) := by
    rw [← hW0]
    exact (((Reads.newN w 23 1 2 (u64s [3, 2]) rfl).alloc (Nat.le_refl _) _)).more (by simp)
  have hz0 : Reads W0 W0.heap.size 2 (some ⟨w.heap.size + 1, 0, none⟩) 1 (lbVals [⟨1, 0⟩]) := by
    rw [← hW0]
    have h0 := Reads.newN (w.alloc (.cells #[.int .u64 3, .int .u64 2] 23)) 25 2 1 (lbVals [⟨1, 0⟩]) rfl
    rw [show (w.alloc (.cells #[.int .u64 3, .int .u64 2] 23)).heap.size = w.heap.size + 1 by simp] at h0
    exact h0
  rw [hW0]
  clear hW0
  have hP := put_any (some ⟨w.heap.size, 0, none⟩) 2 2 [3, 2] ⟨0, 65⟩ (some ⟨w.heap.size + 1, 0, none⟩) 1 1 [⟨1, 0⟩] ⟨0, 4⟩ W0 (hT.out.later hb0) rfl (by rw [hml]; decide) ex_masks hr0 (by show 65 < 2 ^ 64; decide) (by show 4 < 2 ^ 64; decide) rfl (by rw [hml]; decide) hz0 (fun k => by
    match k with
    | 0 => exact Nat.two_pow_pos 64
    | k + 1 => exact Nat.two_pow_pos 64)
  rw [ex_put1, ex_ok1] at hP
  replace hP := Lib.hid hP
  replace hb0 := Lib.hid hb0
  clear hr0 hz0
  refine hP.out.mono ?_
  rintro e w1 ⟨rfl, hb1⟩
  have hB1 := Lib.hid (hb0.out.trans (hb1.mono hb0.out.size))
  clear hb1
  go_wp2_with fail
  obtain ⟨W2, hW2⟩ : ∃ W2, ((w1.alloc (.cells #[.int .i64 1, .int .u64 4] 25)).alloc (.cells #[.int .u64 3, .int .u64 2] 23)).alloc (.cells #[.int .i64 1] 3) = W2 := ⟨_, rfl⟩
  have hb2 : Below w1.heap.size w1 W2 := by rw [← hW2]; exact (((Below.refl _ w1).alloc (Nat.le_refl _) _).alloc (by simp) _).alloc (by simp; omega) _
  have k2 : Blk W2 w1.heap.size 25 #[.int .i64 1, .int .u64 4] := by rw [← hW2]; exact ((Blk.new w1 _ _).alloc _).alloc _
  have hr2 : Reads W2 W2.heap.size 1 (some ⟨w1.heap.size + 1, 0, none⟩) 2 (u64s [3, 2]) := by
    rw [← hW2]
    have h0 := Reads.newN (w1.alloc (.cells #[.int .i64 1, .int .u64 4] 25)) 23 1 2 (u64s [3, 2]) rfl
    rw [show (w1.alloc (.cells #[.int .i64 1, .int .u64 4] 25)).heap.size = w1.heap.size + 1 by simp] at h0
    exact (h0.alloc (Nat.le_refl _) _).more (by simp)
  have hz2 : Reads W2 W2.heap.size 1 (some ⟨w1.heap.size + 1 + 1, 0, none⟩) 1 (ints [1]) := by
    rw [← hW2]
    have h0 := Reads.newN ((w1.alloc (.cells #[.int .i64 1, .int .u64 4] 25)).alloc (.cells #[.int .u64 3, .int .u64 2] 23)) 3 1 1 (ints [1]) rfl
    rw [show ((w1.alloc (.cells #[.int .i64 1, .int .u64 4] 25)).alloc (.cells #[.int .u64 3, .int .u64 2] 23)).heap.size = w1.heap.size + 1 + 1 by simp] at h0
    exact h0
  rw [hW2]
  clear hW2
  have hB2 := hB1.out.trans (hb2.mono hB1.out.size)
  have hL := slow_any (some ⟨w1.heap.size + 1, 0, none⟩) 2 2 [3, 2] ⟨0, 1⟩ (some ⟨w1.heap.size + 1 + 1, 0, none⟩) 1 1 [1] 0 W2 (hT.out.later hB2) rfl (by rw [hml]; decide) ex_masks hr2 (by show 1 < 2 ^ 64; decide) rfl (by decide) hz2
  rw [ex_put2, ex_ok2] at hL
  replace hL := Lib.hid hL
  replace hB2 := Lib.hid hB2
  replace k2 := Lib.hid k2
  have hs2 := hb2.size
  clear hr2 hz2
  refine hL.out.mono ?_
  rintro e w3 ⟨rfl, hb3⟩
  have k3 := k2.out.below hb3 k2.out.lt
  obtain ⟨c0, c1⟩ := pair_cells k3
  have hB3 := Lib.hid (hB2.out.trans (hb3.mono hB2.out.size))
  replace k3 := Lib.hid k3
  clear hb3
  go_wp2
  go_ret
  exact ⟨rfl, hB3.out⟩

end Go.Proofs.YtfloonpchjbmnaaDoor
