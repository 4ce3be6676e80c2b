/- The walk of LatticeBuilds. -/
import Derived.Test.YtaclogfchlphlaaDoorAw
import Derived.Test.YtaclogfchlphlaaDoorRb
import Derived.Test.YtaclogfchlphlaaDoorCw
namespace Go.Proofs.YtaclogfchlphlaaDoor
open Go.RowKit Go.Shelf Go.Idl

set_option maxHeartbeats 4000000 in
theorem walkLatticeBuilds (n : Int) (A : Option Addr) (m c : Nat) (ps : List (Int × Int)) (w : World) (hT : Tab w) (hn63 : n ≤ 9223372036854775807) (hm : ps.length = m) (hm63 : m ≤ maxLen) (hr : Reads w w.heap.size 2 A m (pairVals ps)) :
    Calls Tryd.prog 3 #[.int .i64 n, .slice A m c] w fun e w' => e = .returned (.bool true) ∧ Below w.heap.size w w' := by
  have hml : maxLen = 9223372036854775807 := rfl
  by_cases hbig : 400 < m
  · have h4 : ((400 : Int) < (m : Int)) := by omega
    go_enter Tryd.func3, Tryd.ntmps3
    go_wp2
    go_ret
    exact ⟨rfl, Below.refl _ _⟩
  have h4 : ¬ ((400 : Int) < (m : Int)) := by omega
  obtain ⟨i0, hi0, hz0, hz1, hz2⟩ := info_parts pair_info
  have h1 := Lib.hid (pairVals_one ps)
  replace hT := Lib.hid hT
  replace hr := Lib.hid hr
  replace hm := Lib.hid hm
  go_enter Tryd.func3, Tryd.ntmps3
  go_wp2_with (at_builtin; refine wpList_append_copy w rfl _ _ 22 rfl 33 i0 (.agg #[.int .i64 0, .int .i64 0]) 2 16 Tryd.underlying22 hi0 hz0 hz1 hz2 rfl (by decide) rfl w.heap.size _ m _ (pairVals ps) rfl hr.out (Nat.le_refl _) h1.out hm63 (by omega) ?_; intro A' c' w1 _ hrc hbc)
  have hT1 := Lib.hid (hT.out.later hbc)
  have hr1 := Lib.hid ((hr.out.below hbc).more hbc.size)
  have hB1 := Lib.hid hbc
  have hBd := build_any n A' m c' ps w1 (hT.out.later hbc) hn63 hm.out hm63 hrc
  replace hBd := Lib.hid hBd
  replace hrc := Lib.hid hrc
  clear hbc
  go_wp2_with fail
  refine hBd.out.mono ?_
  rintro e w2 hbuilt
  unfold Built at hbuilt
  obtain ⟨hb2, A2, c2, rfl, hr2, hM2⟩ := hbuilt
  have hT2 := Lib.hid (hT1.out.later hb2)
  have hB2 := Lib.hid (hB1.out.trans (hb2.mono hB1.out.size))
  have hRb := rbuild_any n A m c ps w2 hm.out hm63 ((hr1.out.below hb2).more hb2.size)
  replace hRb := Lib.hid hRb
  replace hr2 := Lib.hid hr2
  clear hb2
  go_wp2_with fail
  refine hRb.out.mono ?_
  rintro e w3 hbuilt
  unfold Built at hbuilt
  obtain ⟨hb3, A3, c3, rfl, hr3, hM3⟩ := hbuilt
  have hT3 := Lib.hid (hT2.out.later hb3)
  have hB3 := Lib.hid (hB2.out.trans (hb3.mono hB2.out.size))
  have hr23 := (hr2.out.below hb3).more hb3.size
  have hlen : (bldL n ps).length ≤ 9223372036854775807 := by
    have : (bldL n ps).length ≤ 64 := by
      unfold bldL
      split
      · rename_i h
        unfold bldI at h
        split at h
        · rename_i h2
          have h3 := h2.1
          unfold nOk at h3
          simp at h3
          rw [(warsP_made (fun p hp => by
            have h5 := List.all_eq_true.1 h2.2 p hp
            have h6 : n = ((n.toNat : Nat) : Int) := by omega
            rw [← h6]
            exact h5)).len]
          omega
        · cases h
      · simp
    omega
  have hS := same_masks A2 A3 (bldL n ps).length (bldL n ps).length c2 c3 (bldL n ps) (bldL n ps) w3 rfl rfl hlen hlen hr23 hr3
  rw [decide_eq_true rfl] at hS
  have heq : (bldI n ps == bldI n ps) = true := by simp
  generalize bldI n ps = k at *
  generalize bldL n ps = L at *
  replace hS := Lib.hid hS
  replace hr3 := Lib.hid hr3
  replace hr23 := Lib.hid hr23
  replace hM2 := Lib.hid hM2
  clear hb3 hM3
  go_wp2_with fail
  refine hS.out.mono ?_
  rintro e w4 ⟨rfl, hb4⟩
  have hT4 := Lib.hid (hT3.out.later hb4)
  have hB4 := Lib.hid (hB3.out.trans (hb4.mono hB3.out.size))
  clear hb4
  go_wp2_with fail
  refine (awake_any w4 hT4.out).mono ?_
  rintro e w5 ⟨rfl, hb5⟩
  replace hb5 := Lib.hid hb5
  go_wp2_with fail
  go_ret
  exact ⟨rfl, hB4.out.trans (hb5.out.mono hB4.out.size)⟩

end Go.Proofs.YtaclogfchlphlaaDoor
