/- The lattice laws' awake: the chapter's first example. -/
import Derived.Test.YtaclogfchlphlaaDoorHe
import Derived.Test.YtaclogfchlphlaaDoorSm
namespace Go.Proofs.YtaclogfchlphlaaDoor
open Go.RowKit Go.Shelf Go.Idl

def fourP : List (Int × Int) := [(0, 1), (0, 2), (1, 3), (2, 3)]
theorem four_up : bldL 4 fourP = [15, 10, 12, 8] := by decide +kernel
theorem four_ok : bldI 4 fourP = 0 := by decide +kernel
theorem four_lat : latB [15, 10, 12, 8] = true := by decide +kernel
theorem four_high : heightN [15, 10, 12, 8] = 2 := by decide +kernel

theorem awake_any (w : World) (hT : Tab w) : Calls Tryd.prog 15 #[] w fun e w' => e = .returned (.bool true) ∧ Below w.heap.size w w' := by
  have hml : maxLen = 9223372036854775807 := rfl
  replace hT := Lib.hid hT
  go_enter Tryd.func15, Tryd.ntmps15
  go_wp2_with fail
  obtain ⟨W0, hW0⟩ : ∃ W0, w.alloc (.cells #[.int .i64 0, .int .i64 1, .int .i64 0, .int .i64 2, .int .i64 1, .int .i64 3, .int .i64 2, .int .i64 3] 33) = W0 := ⟨_, rfl⟩
  have hb0 : Below w.heap.size w W0 := by rw [← hW0]; exact (Below.refl _ w).alloc (Nat.le_refl _) _
  have hr0 : Reads W0 W0.heap.size 2 (some ⟨w.heap.size, 0, none⟩) 4 (pairVals fourP) := by
    rw [← hW0]
    exact Reads.newN w 33 2 4 (pairVals fourP) rfl
  rw [hW0]
  clear hW0
  replace hb0 := Lib.hid hb0
  refine (build_any 4 _ 4 4 fourP W0 (hT.out.later hb0.out) (by decide) rfl (by rw [hml]; decide) hr0).mono ?_
  rintro e w1 hbuilt
  unfold Built at hbuilt
  rw [four_up, four_ok] at hbuilt
  obtain ⟨hb1, A', c', rfl, hr1, hM1⟩ := hbuilt
  have hT1 := Lib.hid (hT.out.later (hb0.out.trans (hb1.mono hb0.out.size)))
  replace hb1 := Lib.hid (hb0.out.trans (hb1.mono hb0.out.size))
  replace hr1 : Reads w1 w1.heap.size 1 A' 4 (u64s [15, 10, 12, 8]) := hr1
  replace hr1 := Lib.hid hr1
  replace hM1 := Lib.hid hM1
  clear hr0
  go_wp2_with fail
  obtain ⟨W2, hW2⟩ : ∃ W2, w1.alloc (.cells #[.int .u64 15, .int .u64 10, .int .u64 12, .int .u64 8] 39) = W2 := ⟨_, rfl⟩
  have hb2 : Below w1.heap.size w1 W2 := by rw [← hW2]; exact (Below.refl _ w1).alloc (Nat.le_refl _) _
  have hr2 : Reads W2 W2.heap.size 1 (some ⟨w1.heap.size, 0, none⟩) 4 (u64s [15, 10, 12, 8]) := by
    rw [← hW2]
    exact Reads.newN w1 39 1 4 (u64s [15, 10, 12, 8]) rfl
  rw [hW2]
  clear hW2
  have hr1' := (hr1.out.below hb2).more hb2.size
  refine (same_masks _ _ 4 4 _ _ [15, 10, 12, 8] [15, 10, 12, 8] W2 rfl rfl (by decide) (by decide) hr1' hr2).mono ?_
  rintro e w3 ⟨rfl, hb3⟩
  rw [show decide (([15, 10, 12, 8] : List Nat) = [15, 10, 12, 8]) = true from decide_eq_true rfl]
  have hT3 := Lib.hid ((hT1.out.later hb2).later hb3)
  have hr3 := Lib.hid ((hr1'.below hb3).more hb3.size)
  have hb4 := hb1.out.trans ((hb2.trans (hb3.mono hb2.size)).mono hb1.out.size)
  replace hb4 := Lib.hid hb4
  clear hb2 hr2 hr1' hb3
  go_wp2_with fail
  refine (height_any _ 4 _ [15, 10, 12, 8] w3 hT3.out rfl (by rw [hml]; decide) hM1.out hr3.out).mono ?_
  rintro e w4 ⟨rfl, hb5⟩
  rw [four_lat, if_pos rfl, four_high]
  replace hb5 := Lib.hid hb5
  go_wp2_with fail
  go_ret
  exact ⟨rfl, hb4.out.trans (hb5.out.mono hb4.out.size)⟩

end Go.Proofs.YtaclogfchlphlaaDoor
