/- The walk of LatticeJoins. -/
import Derived.Test.YtaclogfchlphlaaDoorLatticeRightsW
namespace Go.Proofs.YtaclogfchlphlaaDoor
open Go.RowKit Go.Shelf Go.Idl

set_option maxHeartbeats 4000000 in
set_option maxRecDepth 100000 in
theorem walkLatticeJoins (A : Option Addr) (n c : Nat) (up : List Nat) (a b : Int) (w : World) (hT : Tab w) (hn : up.length = n) (hn63 : n ≤ maxLen) (hby : n * 8 ≤ 140737488355328) (hM : Masks up) (hr : Reads w w.heap.size 1 A n (u64s up)) :
    Calls Tryd.prog 9 #[.slice A n c, .int .i64 a, .int .i64 b] w fun e w' => e = .returned (.bool true) ∧ Below w.heap.size w w' := by
  obtain ⟨i0, hi0, hz0, hz1, hz2⟩ := info_parts u64_info
  have h1 := Lib.hid (u64s_one up)
  have hJO := fun (A' : Option Addr) (c' : Nat) (w' : World) (hT' : Tab w') (hr' : Reads w' w'.heap.size 1 A' n (u64s up)) => join_any A' n c' up a b w' hT' hn hn63 hM hr'
  have hME := fun (A' : Option Addr) (c' : Nat) (w' : World) (hT' : Tab w') (hr' : Reads w' w'.heap.size 1 A' n (u64s up)) => meet_any A' n c' up a b w' hT' hn hn63 hM hr'
  have hLE := fun (A' : Option Addr) (c' : Nat) (w' : World) (hT' : Tab w') (hr' : Reads w' w'.heap.size 1 A' n (u64s up)) => leq_any A' n c' up a b w' hT' hn hn63 hM hr'
  have hbe : bothL up a b = (decide (0 ≤ a) && (decide (0 ≤ b) && (decide (a < (n : Int)) && (decide (b < (n : Int)) && latB up)))) := by unfold bothL; rw [hn]
  generalize hq : bothL up a b = q at *
  generalize hxj : (if q = true then joinI up a.toNat b.toNat else 0) = xj at hJO
  generalize hxm : (if q = true then meetI up a.toNat b.toNat else 0) = xm at hME
  generalize hxl : (q && le up a.toNat b.toNat) = xl at hLE
  replace hxj := Lib.hid hxj
  replace hxm := Lib.hid hxm
  replace hxl := Lib.hid hxl
  replace hJO := Lib.hid hJO
  replace hME := Lib.hid hME
  replace hLE := Lib.hid hLE
  replace hbe := Lib.hid hbe
  replace hT := Lib.hid hT
  replace hr := Lib.hid hr
  replace hM := Lib.hid hM
  replace hn := Lib.hid hn
  replace hq := Lib.hid hq
  go_enter Tryd.func9, Tryd.ntmps9
  go_wp2_with (at_builtin; refine wpList_append_copy w rfl _ _ 23 rfl 39 i0 (.int .u64 0) 1 8 Tryd.underlying23 hi0 hz0 hz1 hz2 rfl (by decide) rfl w.heap.size _ n _ (u64s up) rfl hr.out (Nat.le_refl _) h1.out hn63 hby ?_; intro A' c' w1 _ hr1 hb1)
  have hT1 := Lib.hid (hT.out.later hb1)
  have hr0 := Lib.hid ((hr.out.below hb1).more hb1.size)
  replace hr1 := Lib.hid hr1
  replace hb1 := Lib.hid hb1
  go_wp2_with fail
  refine (hJO.out A' c' w1 hT1.out hr1.out).mono ?_
  rintro e w2 ⟨rfl, hb2⟩
  have hr2 := Lib.hid ((hr0.out.below hb2).more hb2.size)
  have hT2 := Lib.hid (hT1.out.later hb2)
  replace hb2 := Lib.hid (hb1.out.trans (hb2.mono hb1.out.size))
  clear hr0 hT1 hr1 hb1
  go_wp2_with (at_builtin; refine wpList_append_copy w2 rfl _ _ 23 rfl 39 i0 (.int .u64 0) 1 8 Tryd.underlying23 hi0 hz0 hz1 hz2 rfl (by decide) rfl w2.heap.size _ n _ (u64s up) rfl hr2.out (Nat.le_refl _) h1.out hn63 hby ?_; intro A' c' w3 _ hr3 hb3)
  have hT3 := Lib.hid (hT2.out.later hb3)
  have hr0 := Lib.hid ((hr2.out.below hb3).more hb3.size)
  replace hr3 := Lib.hid hr3
  replace hb3 := Lib.hid (hb2.out.trans (hb3.mono hb2.out.size))
  clear hr2 hT2 hb2
  go_wp2_with fail
  refine (hME.out A' c' w3 hT3.out hr3.out).mono ?_
  rintro e w4 ⟨rfl, hb4⟩
  have hr4 := Lib.hid ((hr0.out.below hb4).more hb4.size)
  have hT4 := Lib.hid (hT3.out.later hb4)
  replace hb4 := Lib.hid (hb3.out.trans (hb4.mono hb3.out.size))
  clear hr0 hT3 hr3 hb3
  go_wp2_with (at_builtin; refine wpList_append_copy w4 rfl _ _ 23 rfl 39 i0 (.int .u64 0) 1 8 Tryd.underlying23 hi0 hz0 hz1 hz2 rfl (by decide) rfl w4.heap.size _ n _ (u64s up) rfl hr4.out (Nat.le_refl _) h1.out hn63 hby ?_; intro A' c' w5 _ hr5 hb5)
  have hT5 := Lib.hid (hT4.out.later hb5)
  have hr0 := Lib.hid ((hr4.out.below hb5).more hb5.size)
  replace hr5 := Lib.hid hr5
  replace hb5 := Lib.hid (hb4.out.trans (hb5.mono hb4.out.size))
  clear hr4 hT4 hb4
  go_wp2_with fail
  refine (hLE.out A' c' w5 hT5.out hr5.out).mono ?_
  rintro e w6 ⟨rfl, hb6⟩
  have hr6 := Lib.hid ((hr0.out.below hb6).more hb6.size)
  have hT6 := Lib.hid (hT5.out.later hb6)
  replace hb6 := Lib.hid (hb5.out.trans (hb6.mono hb5.out.size))
  clear hr0 hT5 hr5 hb5
  cases q with
  | false =>
    obtain rfl : xj = 0 := by have h := hxj.out; simpa using h.symm
    obtain rfl : xm = 0 := by have h := hxm.out; simpa using h.symm
    obtain rfl : xl = false := by have h := hxl.out; simpa using h.symm
    by_cases ha0 : a < 0
    · go_wp2_with fail
      refine (awake_any _ (hT6.out)).mono ?_
      rintro e w9 ⟨rfl, hb9⟩
      replace hb9 := Lib.hid hb9
      go_wp2_with fail
      go_ret
      exact ⟨rfl, hb6.out.trans (hb9.out.mono hb6.out.size)⟩
    by_cases hb0 : b < 0
    · go_wp2_with fail
      refine (awake_any _ (hT6.out)).mono ?_
      rintro e w9 ⟨rfl, hb9⟩
      replace hb9 := Lib.hid hb9
      go_wp2_with fail
      go_ret
      exact ⟨rfl, hb6.out.trans (hb9.out.mono hb6.out.size)⟩
    by_cases han : (n : Int) ≤ a
    · go_wp2_with fail
      refine (awake_any _ (hT6.out)).mono ?_
      rintro e w9 ⟨rfl, hb9⟩
      replace hb9 := Lib.hid hb9
      go_wp2_with fail
      go_ret
      exact ⟨rfl, hb6.out.trans (hb9.out.mono hb6.out.size)⟩
    by_cases hbn : (n : Int) ≤ b
    · go_wp2_with fail
      refine (awake_any _ (hT6.out)).mono ?_
      rintro e w9 ⟨rfl, hb9⟩
      replace hb9 := Lib.hid hb9
      go_wp2_with fail
      go_ret
      exact ⟨rfl, hb6.out.trans (hb9.out.mono hb6.out.size)⟩
    have hlat : latB up = false := by
      have h := hbe.out
      rw [decide_eq_true (p := 0 ≤ a) (by omega), decide_eq_true (p := 0 ≤ b) (by omega), decide_eq_true (p := a < (n : Int)) (by omega), decide_eq_true (p := b < (n : Int)) (by omega)] at h
      exact h.symm
    replace hlat := Lib.hid hlat
    go_wp2_with fail
    refine (rright_any A n c up w6 hn.out hn63 hM.out hr6.out).mono ?_
    rintro e w7 ⟨rfl, hb7⟩
    rw [hlat.out]
    have hT7 := Lib.hid (hT6.out.later hb7)
    replace hb7 := Lib.hid (hb6.out.trans (hb7.mono hb6.out.size))
    go_wp2_with fail
    refine (awake_any _ (hT7.out)).mono ?_
    rintro e w9 ⟨rfl, hb9⟩
    replace hb9 := Lib.hid hb9
    go_wp2_with fail
    go_ret
    exact ⟨rfl, hb7.out.trans (hb9.out.mono hb7.out.size)⟩
  | true =>
    obtain ⟨g1, g2, g3, g4, g5⟩ := bothL_iff.1 hq.out
    rw [hn.out] at g3 g4
    have h64 : n ≤ 64 := by rw [← hn.out]; exact (Lat.of hM.out g5).toOrd.n64
    obtain ⟨i, rfl⟩ : ∃ i : Nat, a = i := ⟨a.toNat, by omega⟩
    obtain ⟨j, rfl⟩ : ∃ j : Nat, b = j := ⟨b.toNat, by omega⟩
    obtain rfl : xj = joinI up i j := by have h := hxj.out; simpa using h.symm
    obtain rfl : xm = meetI up i j := by have h := hxm.out; simpa using h.symm
    obtain rfl : xl = le up i j := by have h := hxl.out; simpa using h.symm
    have RJ := fun (W : World) (hR : Reads W W.heap.size 1 A n (u64s up)) => rjoin_any A n c up i j W hn.out h64 hM.out (by omega) (by omega) hR
    have RM := fun (W : World) (hR : Reads W W.heap.size 1 A n (u64s up)) => rmeet_any A n c up i j W hn.out h64 hM.out (by omega) (by omega) hR
    have RA := fun (W : World) (hR : Reads W W.heap.size 1 A n (u64s up)) => above_any A n c up i j W hn.out hM.out (by omega) (by omega) hR
    generalize joinI up i j = x at *
    generalize meetI up i j = y at *
    generalize le up i j = z at *
    replace RJ := Lib.hid RJ
    replace RM := Lib.hid RM
    replace RA := Lib.hid RA
    replace g5 := Lib.hid g5
    go_wp2_with fail
    refine (rright_any A n c up w6 hn.out hn63 hM.out hr6.out).mono ?_
    rintro e w7 ⟨rfl, hb7⟩
    rw [g5.out]
    have hr7 := Lib.hid ((hr6.out.below hb7).more hb7.size)
    have hT7 := Lib.hid (hT6.out.later hb7)
    replace hb7 := Lib.hid (hb6.out.trans (hb7.mono hb6.out.size))
    go_wp2_with fail
    refine (RJ.out w7 hr7.out).mono ?_
    rintro e w8 ⟨rfl, rfl⟩
    have ex : (x == x) = true := by simp
    go_wp2_with fail
    refine (RM.out w7 hr7.out).mono ?_
    rintro e w8 ⟨rfl, rfl⟩
    have ey : (y == y) = true := by simp
    go_wp2_with fail
    refine (RA.out w7 hr7.out).mono ?_
    rintro e w8 ⟨rfl, rfl⟩
    have ez : (z == z) = true := by simp
    go_wp2_with fail
    refine (awake_any _ (hT7.out)).mono ?_
    rintro e w9 ⟨rfl, hb9⟩
    replace hb9 := Lib.hid hb9
    go_wp2_with fail
    go_ret
    exact ⟨rfl, hb7.out.trans (hb9.out.mono hb7.out.size)⟩

end Go.Proofs.YtaclogfchlphlaaDoor
