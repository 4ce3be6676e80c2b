/- The references Good, Join, Leq of labels; Levels, Fits. -/
import Derived.Test.YtfloonpchjbmnaaDoorSj
import Derived.Test.YtfloonpchjbmnaaDoorRj
namespace Go.Proofs.YtfloonpchjbmnaaDoor
open Go.RowKit Go.Shelf Go.Idl
attribute [local go_sem] Oper.semAt_some

theorem good_any (A : Option Addr) (n c : Nat) (up : List Nat) (a : Lb) (w : World) (hn : up.length = n) :
    Calls Tryd.prog 13 #[.slice A n c, lbV a] w fun e w' => e = .returned (.bool (goodB up a.lv)) ∧ Below w.heap.size w w' := by
  obtain ⟨av, am⟩ := a
  have e : goodB up av = (decide (0 ≤ av) && decide (av < (n : Int))) := by unfold goodB; rw [hn]
  rw [e]
  replace e := Lib.hid e
  replace hn := Lib.hid hn
  have hb := Lib.hid ((Below.refl w.heap.size w).alloc (Nat.le_refl _) (.cells #[.int .i64 av, .int .u64 (am : Nat)] 25))
  by_cases h1 : 0 ≤ av
  · by_cases h2 : av < (n : Int)
    · go_enter Tryd.func13, Tryd.ntmps13
      go_wp2
      go_ret
      exact ⟨ret_bool (by rw [decide_eq_true h1, decide_eq_true (show av < (n : Int) by omega)]; rfl), hb.out⟩
    · go_enter Tryd.func13, Tryd.ntmps13
      go_wp2
      go_ret
      exact ⟨ret_bool (by simp; omega), hb.out⟩
  · go_enter Tryd.func13, Tryd.ntmps13
    go_wp2
    go_ret
    exact ⟨ret_bool (by rw [decide_eq_false (show ¬ 0 ≤ av by omega)]; rfl), hb.out⟩

theorem rjoinL_any (A : Option Addr) (n c : Nat) (up : List Nat) (a b : Lb) (w : World) (hn : up.length = n) (h64 : n ≤ 64) (hM : Masks up) (hr : Reads w w.heap.size 1 A n (u64s up)) (ha : Gd up a) (hb : Gd up b) (ham : a.ms < 2 ^ 64) (hbm : b.ms < 2 ^ 64) :
    Calls Tryd.prog 21 #[.slice A n c, lbV a, lbV b] w fun e w' => e = .returned (lbV (joinL up a b)) ∧ Below w.heap.size w w' := by
  refine (callsIn_wide (n := 20)).1 ?_
  have e1 := ha.eq
  have e2 := hb.eq
  have l1 := ha.lt
  have l2 := hb.lt
  rw [hn] at l1 l2
  have hj : joinL up a b = ⟨joinI up a.lv.toNat b.lv.toNat, a.ms ||| b.ms⟩ := rfl
  rw [hj]
  replace hj := Lib.hid hj
  obtain ⟨av, am⟩ := a
  obtain ⟨bv, bm⟩ := b
  dsimp only at e1 e2 l1 l2 ham hbm ⊢
  generalize av.toNat = i at *
  generalize bv.toNat = j at *
  subst e1 e2
  obtain ⟨W0, hW0⟩ : ∃ W0, ((w.alloc (.cells #[.int .i64 (i : Nat), .int .u64 (am : Nat)] 25)).alloc (.cells #[.int .i64 (j : Nat), .int .u64 (bm : Nat)] 25)).alloc (.cells #[.int .i64 0, .int .u64 0] 25) = W0 := ⟨_, rfl⟩
  have k0 : Blk W0 w.heap.size 25 #[.int .i64 (i : Nat), .int .u64 (am : Nat)] := by rw [← hW0]; exact ((Blk.new w _ _).alloc _).alloc _
  have k1 : Blk W0 (w.heap.size + 1) 25 #[.int .i64 (j : Nat), .int .u64 (bm : Nat)] := by rw [← hW0]; exact (Blk.new_at _ _ _ _ (by simp)).alloc _
  have k2 : Blk W0 (w.heap.size + 2) 25 #[.int .i64 0, .int .u64 0] := by rw [← hW0]; exact Blk.new_at _ _ _ _ (by simp)
  have hB0 : Below w.heap.size w W0 := by rw [← hW0]; exact (((Below.refl _ w).alloc (Nat.le_refl _) _).alloc (by simp) _).alloc (by simp; omega) _
  have hJ := fun q => rjoin_any A n c up i j (W0.drewN q) hn h64 hM l1 l2 (((hr.below hB0).more hB0.size).drewN q)
  obtain ⟨p0, p1⟩ := pair_cells k0
  obtain ⟨p2, p3⟩ := pair_cells k1
  obtain ⟨p4, p5⟩ := pair_cells k2
  have f4 := k2.frozen 0
  have f5 := k2.frozen 1
  have hor := u64_or_eq am bm ham hbm
  replace hJ := Lib.hid hJ
  replace k0 := Lib.hid k0
  replace k1 := Lib.hid k1
  replace k2 := Lib.hid k2
  replace hB0 := Lib.hid hB0
  replace hr := Lib.hid hr
  replace hn := Lib.hid hn
  replace hM := Lib.hid hM
  clear ha hb
  refine callsIn_of_wp Tryd.func21 rfl trivial ?_ rfl
  simp only [Tryd.ntmps21, List.size_toArray, List.length_cons, List.length_nil, Nat.reduceAdd, Nat.reduceSub, Array.replicate_succ, Array.replicate_zero, List.push_toArray, List.append_toArray, List.nil_append, List.cons_append]
  gi_wp2
  (refine wpIn_region_quiet_tail 12 (by kernel_rfl) (by kernel_rfl) ?_; simp only [List.take_succ_cons, List.take_zero, List.drop_succ_cons, List.drop_zero]; (repeat (first | gi_big_quiet_step (fail) | (refine wpQuietIn_pass (fun _ _ _ _ => trivial) (by rfl) rfl ?_; simp only [List.setIfInBounds_toArray, List.set_cons_succ, List.set_cons_zero]) | (refine wpQuietIn_step (fun _ _ _ _ => trivial) ?_; intro K hK; refine Eq.mpr (if_pos (by rfl)) ?_; gi_big_quiet_op; gi_big_quiet_call ((gi_at_call 33; exact quiet_law (callsIn_wide.2 (hJ.out _))))))); refine wpQuietIn_nil ?_; intro _ hw'; obtain ⟨nq, hw''⟩ := hw'; subst hw'')
  gi_wp2
  obtain ⟨e0, e1⟩ := pair_cells (pair_set (k2.out.drewN nq) (.int .i64 (joinI up i j)) (.int .u64 ((am ||| bm : Nat) : Int)))
  exact bodyPost_ret (v := .agg #[.int .i64 (joinI up i j), .int .u64 ((am ||| bm : Nat) : Int)]) (by simp [results, Tryd.f21, go_sem, e0, e1]) rfl ⟨rfl, ((below_drewNs hB0.out nq).setCell (by simp; omega) _).setCell (by simp; omega) _⟩

theorem rleqL_any (A : Option Addr) (n c : Nat) (up : List Nat) (a b : Lb) (w : World) (hn : up.length = n) (h64 : n ≤ 64) (hM : Masks up) (hr : Reads w w.heap.size 1 A n (u64s up)) (ha : Gd up a) (hb : Gd up b) (ham : a.ms < 2 ^ 64) (hbm : b.ms < 2 ^ 64) :
    Calls Tryd.prog 22 #[.slice A n c, lbV a, lbV b] w fun e w' => e = .returned (.bool (leL up a b)) ∧ Below w.heap.size w w' := by
  have e1 := ha.eq
  have e2 := hb.eq
  have l1 := ha.lt
  have l2 := hb.lt
  rw [hn] at l1 l2
  have hj : leL up a b = (le up a.lv.toNat b.lv.toNat && subB a.ms b.ms) := rfl
  rw [hj]
  replace hj := Lib.hid hj
  obtain ⟨av, am⟩ := a
  obtain ⟨bv, bm⟩ := b
  dsimp only at e1 e2 l1 l2 ham hbm ⊢
  generalize av.toNat = i at *
  generalize bv.toNat = j at *
  subst e1 e2
  obtain ⟨W0, hW0⟩ : ∃ W0, (w.alloc (.cells #[.int .i64 (i : Nat), .int .u64 (am : Nat)] 25)).alloc (.cells #[.int .i64 (j : Nat), .int .u64 (bm : Nat)] 25) = W0 := ⟨_, rfl⟩
  have k0 : Blk W0 w.heap.size 25 #[.int .i64 (i : Nat), .int .u64 (am : Nat)] := by rw [← hW0]; exact (Blk.new w _ _).alloc _
  have k1 : Blk W0 (w.heap.size + 1) 25 #[.int .i64 (j : Nat), .int .u64 (bm : Nat)] := by rw [← hW0]; exact Blk.new_at _ _ _ _ (by simp)
  have hB0 : Below w.heap.size w W0 := by rw [← hW0]; exact ((Below.refl _ w).alloc (Nat.le_refl _) _).alloc (by simp) _
  have hJ := above_any A n c up i j W0 hn hM l1 (by omega) ((hr.below hB0).more hB0.size)
  obtain ⟨p0, p1⟩ := pair_cells k0
  obtain ⟨p2, p3⟩ := pair_cells k1
  have hor := u64_or_eq am bm ham hbm
  have hsub : (((am ||| bm : Nat) : Int) == (bm : Int)) = subB am bm := by
    unfold subB
    rw [Bool.eq_iff_iff, beq_iff_eq, decide_eq_true_eq]
    omega
  generalize subB am bm = s at *
  generalize le up i j = q at *
  replace hJ := Lib.hid hJ
  replace k0 := Lib.hid k0
  replace k1 := Lib.hid k1
  replace hB0 := Lib.hid hB0
  replace hr := Lib.hid hr
  replace hn := Lib.hid hn
  replace hM := Lib.hid hM
  clear ha hb
  go_enter Tryd.func22, Tryd.ntmps22
  go_wp2_with fail
  refine hJ.out.mono ?_
  rintro e w1 ⟨rfl, rfl⟩
  cases q with
  | false =>
    go_wp2
    go_ret
    exact ⟨rfl, hB0.out⟩
  | true =>
    go_wp2
    go_ret
    exact ⟨by simp, hB0.out⟩

theorem levels_any (A : Option Addr) (n c : Nat) (up : List Nat) (Z : Option Addr) (m d : Nat) (zs : List Int) (w : World) (hn : up.length = n) (hm : m ≤ maxLen) (hl : zs.length = m) (hz : Reads w w.heap.size 1 Z m (ints zs)) :
    Calls Tryd.prog 17 #[.slice A n c, .slice Z m d] w fun e w' => e = .returned (.bool (zs.all (goodB up))) ∧ w = w' := by
  unfold maxLen at hm
  have hg : ∀ z : Int, goodB up z = (decide (0 ≤ z) && decide (z < (n : Int))) := fun z => by unfold goodB; rw [hn]
  replace hl := Lib.hid hl
  replace hz := Lib.hid hz
  replace hn := Lib.hid hn
  replace hg := Lib.hid hg
  go_enter Tryd.func17, Tryd.ntmps17
  go_wp2
  go_loopw [5] (fun v wr => ∃ i : Nat, v = .int .i64 (i : Nat) ∧ i ≤ m ∧ (zs.take i).all (goodB up) = true ∧ wr = w) (fun v wr => m - natOf v)
  case atStart => exact ⟨0, rfl, by omega, by simp, rfl⟩
  case round =>
    obtain ⟨i, rfl, him, hall, rfl⟩ := hrel
    by_cases hi : i < m
    · have hlt : ((i : Int) < (m : Int)) := by omega
      have hil : i < zs.length := by rw [hl.out]; exact hi
      obtain ⟨ad, hZ, hbk, hcell⟩ := hz.out.2 (by omega)
      subst hZ
      have hci := hcell _ _ (ints_at hil)
      have hstep : (zs.take (i + 1)).all (goodB up) = ((zs.take i).all (goodB up) && goodB up zs[i]) := by
        rw [List.take_succ_eq_append_getElem hil, List.all_append]
        simp
      rw [hall, Bool.true_and] at hstep
      have hmem : zs[i] ∈ zs := List.getElem_mem hil
      generalize zs[i] = z at *
      rw [hg.out z] at hstep
      have hno : goodB up z = false → zs.all (goodB up) = false := fun h => by rw [List.all_eq_false]; exact ⟨z, hmem, by rw [h]; simp⟩
      rw [hg.out z] at hno
      replace hcell := Lib.hid hcell
      replace hall := Lib.hid hall
      replace hno := Lib.hid hno
      replace hstep := Lib.hid hstep
      replace hmem := Lib.hid hmem
      by_cases h1 : z < 0
      · have hres := hno.out (by rw [decide_eq_false (show ¬ 0 ≤ z by omega)]; rfl)
        replace hres := Lib.hid hres
        go_wp2
        go_ret
        exact ⟨ret_bool hres.out.symm, rfl⟩
      · by_cases h2 : (n : Int) ≤ z
        · have hres := hno.out (by rw [decide_eq_false (show ¬ z < (n : Int) by omega)]; simp)
          replace hres := Lib.hid hres
          go_wp2
          go_ret
          exact ⟨ret_bool hres.out.symm, rfl⟩
        · have hyes := hstep.out
          rw [decide_eq_true (show 0 ≤ z by omega), decide_eq_true (show z < (n : Int) by omega)] at hyes
          replace hyes := Lib.hid hyes
          go_wp2
          go_roundw
          case rel => exact ⟨i + 1, by go_num, by omega, hyes.out, by trivial⟩
          case measure => simp [natOf]; omega
    · have hlt : ¬ ((i : Int) < (m : Int)) := by omega
      rw [List.take_of_length_le (by have := hl.out; omega)] at hall
      replace hall := Lib.hid hall
      go_wp2
      go_ret
      exact ⟨ret_bool hall.out.symm, rfl⟩

theorem rfits_any (A : Option Addr) (n c : Nat) (up : List Nat) (l : Lb) (k : Nat) (w : World) (hn : up.length = n) (hl : l.ms < 2 ^ 64) :
    Calls Tryd.prog 12 #[.slice A n c, lbV l, .int .i64 (k : Nat)] w fun e w' => e = .returned (.bool (goodB up l.lv && fitsB l.ms k)) ∧ Below w.heap.size w w' := by
  obtain ⟨lv, lm⟩ := l
  dsimp only at hl ⊢
  have hb0 : Below w.heap.size w (w.alloc (.cells #[.int .i64 lv, .int .u64 (lm : Nat)] 25)) := (Below.refl _ w).alloc (Nat.le_refl _) _
  have k0 := Blk.new w 25 #[.int .i64 lv, .int .u64 (lm : Nat)]
  have hG := good_any A n c up ⟨lv, lm⟩ (w.alloc (.cells #[.int .i64 lv, .int .u64 (lm : Nat)] 25)) hn
  replace hG := Lib.hid hG
  replace hb0 := Lib.hid hb0
  replace k0 := Lib.hid k0
  cases hq : goodB up lv with
  | false =>
    replace hq := Lib.hid hq
    go_enter Tryd.func12, Tryd.ntmps12
    go_wp2_with fail
    refine hG.out.mono ?_
    rintro e w1 ⟨rfl, hb1⟩
    rw [hq.out]
    replace hb1 := Lib.hid hb1
    go_wp2
    go_ret
    exact ⟨rfl, hb0.out.trans (hb1.out.mono hb0.out.size)⟩
  | true =>
    replace hq := Lib.hid hq
    go_enter Tryd.func12, Tryd.ntmps12
    go_wp2_with fail
    refine hG.out.mono ?_
    rintro e w1 ⟨rfl, hb1⟩
    rw [hq.out]
    have k1 := k0.out.below hb1 (by simp)
    obtain ⟨c0, c1⟩ := pair_cells k1
    have hB := Lib.hid (hb0.out.trans (hb1.mono hb0.out.size))
    replace k1 := Lib.hid k1
    clear hb1
    go_wp2
    go_loopw [7] (fun v wr => ∃ i : Nat, v = .int .i64 (i : Nat) ∧ i ≤ 64 ∧ ((List.range i).all fun j => !lm.testBit j || decide (j < k) || decide (j = 6)) = true ∧ wr = w1) (fun v wr => 64 - natOf v)
    case atStart => exact ⟨0, rfl, by omega, by simp, rfl⟩
    case round =>
      obtain ⟨i, rfl, hi64, hall, rfl⟩ := hrel
      by_cases hi : i < 64
      · have hlt : ((i : Int) < 64) := by omega
        have hstep := all_succ i (fun j => !lm.testBit j || decide (j < k) || decide (j = 6))
        rw [hall, Bool.true_and] at hstep
        have hhas : hasB lm (i : Nat) = lm.testBit i := by
          unfold hasB
          rw [Int.toNat_natCast, decide_eq_true (show (0 : Int) ≤ (i : Nat) by omega), decide_eq_true (show ((i : Nat) : Int) < 64 by omega)]
          simp
        have hno : (!lm.testBit i || decide (i < k) || decide (i = 6)) = false → fitsB lm k = false := fun h => by
          unfold fitsB
          rw [List.all_eq_false]
          exact ⟨i, List.mem_range.2 hi, by rw [h]; simp⟩
        replace hall := Lib.hid hall
        replace hstep := Lib.hid hstep
        replace hhas := Lib.hid hhas
        replace hno := Lib.hid hno
        cases ht : lm.testBit i with
        | false =>
          rw [ht] at hstep
          have hs := hstep.out
          simp only [Bool.not_false, Bool.true_or] at hs
          replace hs := Lib.hid hs
          replace ht := Lib.hid ht
          go_wp2_with (go_at_call 35; refine (rhas_any lm i _ hl).mono ?_; rintro e w2 ⟨rfl, rfl⟩; rw [hhas.out, ht.out])
          go_roundw
          case rel => exact ⟨i + 1, by go_num, by omega, hs.out, by trivial⟩
          case measure => simp [natOf]; omega
        | true =>
          by_cases hik : i < k
          · have hs := hstep.out
            rw [ht, decide_eq_true hik] at hs
            simp only [Bool.not_true, Bool.or_true, Bool.true_or] at hs
            have hge : ¬ ((k : Int) ≤ (i : Int)) := by omega
            replace hs := Lib.hid hs
            replace ht := Lib.hid ht
            go_wp2_with (go_at_call 35; refine (rhas_any lm i _ hl).mono ?_; rintro e w2 ⟨rfl, rfl⟩; rw [hhas.out, ht.out])
            go_roundw
            case rel => exact ⟨i + 1, by go_num, by omega, hs.out, by trivial⟩
            case measure => simp [natOf]; omega
          · have hge : ((k : Int) ≤ (i : Int)) := by omega
            by_cases h6 : i = 6
            · have hs := hstep.out
              rw [ht, decide_eq_true h6] at hs
              simp only [Bool.or_true] at hs
              have hne : ((i : Int) != 6) = false := by rw [h6]; rfl
              replace hs := Lib.hid hs
              replace ht := Lib.hid ht
              replace h6 := Lib.hid h6
              go_wp2_with (go_at_call 35; refine (rhas_any lm i _ hl).mono ?_; rintro e w2 ⟨rfl, rfl⟩; rw [hhas.out, ht.out])
              go_roundw
              case rel => exact ⟨i + 1, by go_num, by omega, hs.out, by trivial⟩
              case measure => simp [natOf]; omega
            · have hne : ((i : Int) != 6) = true := by simp; omega
              have hres := hno.out (by rw [ht, decide_eq_false hik, decide_eq_false h6]; rfl)
              replace hres := Lib.hid hres
              replace ht := Lib.hid ht
              go_wp2_with (go_at_call 35; refine (rhas_any lm i _ hl).mono ?_; rintro e w2 ⟨rfl, rfl⟩; rw [hhas.out, ht.out])
              go_ret
              exact ⟨ret_bool (by rw [hres.out]; rfl), hB.out⟩
      · have hie : i = 64 := by omega
        have hlt : ¬ ((i : Int) < 64) := by omega
        have hres : fitsB lm k = true := by unfold fitsB; rw [← hie]; exact hall
        replace hall := Lib.hid hall
        replace hres := Lib.hid hres
        go_wp2
        go_ret
        exact ⟨ret_bool (by rw [hres.out]), hB.out⟩

end Go.Proofs.YtfloonpchjbmnaaDoor
