/- The references Good, Join, Leq of labels (a part of XSr). -/
import Derived.Test.YtleckdbdhkgcpaaDoorRj
import Derived.Test.YtleckdbdhkgcpaaDoorLb
namespace Go.Proofs.YtleckdbdhkgcpaaDoor
open Go.RowKit Go.Shelf Go.Idl
attribute [local go_sem] Oper.semAt_some
set_option linter.unusedSimpArgs false
set_option linter.unusedVariables false

theorem good_any (A : Option Addr) (n c : Nat) (up : List Nat) (a : Lb) (w : World) (hn : up.length = n) :
    Calls Tryd.prog 10 #[.slice A n c, lbV a] w fun e w' => e = .returned (.bool (goodB up a.lv)) ∧ Below w.heap.size w w' := by
  obtain ⟨av, am⟩ := a
  have e : goodB up av = (decide (0 ≤ av) && decide (av < (n : Int))) := by unfold goodB; rw [hn]
  rw [e]
  replace e := Lib.hid e
  replace hn := Lib.hid hn
  have hb := Lib.hid ((Below.refl w.heap.size w).alloc (Nat.le_refl _) (.cells #[.int .i64 av, .int .u64 (am : Nat)] 29))
  by_cases h1 : 0 ≤ av
  · by_cases h2 : av < (n : Int)
    · go_enter Tryd.func10, Tryd.ntmps10
      go_wp2
      go_ret
      exact ⟨ret_bool (by rw [decide_eq_true h1, decide_eq_true (show av < (n : Int) by omega)]; rfl), hb.out⟩
    · go_enter Tryd.func10, Tryd.ntmps10
      go_wp2
      go_ret
      exact ⟨ret_bool (by simp; omega), hb.out⟩
  · go_enter Tryd.func10, Tryd.ntmps10
    go_wp2
    go_ret
    exact ⟨ret_bool (by rw [decide_eq_false (show ¬ 0 ≤ av by omega)]; rfl), hb.out⟩

theorem rjoinL_any (A : Option Addr) (n c : Nat) (up : List Nat) (a b : Lb) (w : World) (hn : up.length = n) (h64 : n ≤ 64) (hM : Masks up) (hr : Reads w w.heap.size 1 A n (u64s up)) (ha : Gd up a) (hb : Gd up b) (ham : a.ms < 2 ^ 64) (hbm : b.ms < 2 ^ 64) :
    Calls Tryd.prog 13 #[.slice A n c, lbV a, lbV b] w fun e w' => e = .returned (lbV (joinL up a b)) ∧ Below w.heap.size w w' := by
  refine (callsIn_wide (n := 20)).1 ?_
  have e1 := ha.eq
  have e2 := hb.eq
  have l1 := ha.lt
  have l2 := hb.lt
  rw [hn] at l1 l2
  have hj : joinL up a b = ⟨joinI up a.lv.toNat b.lv.toNat, a.ms ||| b.ms⟩ := rfl
  rw [hj]
  replace hj := Lib.hid hj
  obtain ⟨av, am⟩ := a
  obtain ⟨bv, bm⟩ := b
  dsimp only at e1 e2 l1 l2 ham hbm ⊢
  generalize av.toNat = i at *
  generalize bv.toNat = j at *
  subst e1 e2
  obtain ⟨W0, hW0⟩ : ∃ W0, ((w.alloc (.cells #[.int .i64 (i : Nat), .int .u64 (am : Nat)] 29)).alloc (.cells #[.int .i64 (j : Nat), .int .u64 (bm : Nat)] 29)).alloc (.cells #[.int .i64 0, .int .u64 0] 29) = W0 := ⟨_, rfl⟩
  have k0 : Blk W0 w.heap.size 29 #[.int .i64 (i : Nat), .int .u64 (am : Nat)] := by rw [← hW0]; exact ((Blk.new w _ _).alloc _).alloc _
  have k1 : Blk W0 (w.heap.size + 1) 29 #[.int .i64 (j : Nat), .int .u64 (bm : Nat)] := by rw [← hW0]; exact (Blk.new_at _ _ _ _ (by simp)).alloc _
  have k2 : Blk W0 (w.heap.size + 2) 29 #[.int .i64 0, .int .u64 0] := by rw [← hW0]; exact Blk.new_at _ _ _ _ (by simp)
  have hB0 : Below w.heap.size w W0 := by rw [← hW0]; exact (((Below.refl _ w).alloc (Nat.le_refl _) _).alloc (by simp) _).alloc (by simp; omega) _
  have hJ := fun q => rjoin_any A n c up i j (W0.drewN q) hn h64 hM l1 l2 (((hr.below hB0).more hB0.size).drewN q)
  obtain ⟨p0, p1⟩ := pair_cells k0
  obtain ⟨p2, p3⟩ := pair_cells k1
  obtain ⟨p4, p5⟩ := pair_cells k2
  have f4 := k2.frozen 0
  have f5 := k2.frozen 1
  have hor := u64_or_eq am bm ham hbm
  replace hJ := Lib.hid hJ
  replace k0 := Lib.hid k0
  replace k1 := Lib.hid k1
  replace k2 := Lib.hid k2
  replace hB0 := Lib.hid hB0
  replace hr := Lib.hid hr
  replace hn := Lib.hid hn
  replace hM := Lib.hid hM
  clear ha hb
  refine callsIn_of_wp Tryd.func13 rfl trivial ?_ rfl
  simp only [Tryd.ntmps13, List.size_toArray, List.length_cons, List.length_nil, Nat.reduceAdd, Nat.reduceSub, Array.replicate_succ, Array.replicate_zero, List.push_toArray, List.append_toArray, List.nil_append, List.cons_append]
  gi_wp2
  (refine wpIn_region_quiet_tail 12 (by kernel_rfl) (by kernel_rfl) ?_; simp only [List.take_succ_cons, List.take_zero, List.drop_succ_cons, List.drop_zero]; (repeat (first | gi_big_quiet_step (fail) | (refine wpQuietIn_pass (fun _ _ _ _ => trivial) (by rfl) rfl ?_; simp only [List.setIfInBounds_toArray, List.set_cons_succ, List.set_cons_zero]) | (refine wpQuietIn_step (fun _ _ _ _ => trivial) ?_; intro K hK; refine Eq.mpr (if_pos (by rfl)) ?_; gi_big_quiet_op; gi_big_quiet_call ((gi_at_call 32; exact quiet_law (callsIn_wide.2 (hJ.out _))))))); refine wpQuietIn_nil ?_; intro _ hw'; obtain ⟨nq, hw''⟩ := hw'; subst hw'')
  gi_wp2
  obtain ⟨e0, e1⟩ := pair_cells (pair_set (k2.out.drewN nq) (.int .i64 (joinI up i j)) (.int .u64 ((am ||| bm : Nat) : Int)))
  exact bodyPost_ret (v := .agg #[.int .i64 (joinI up i j), .int .u64 ((am ||| bm : Nat) : Int)]) (by simp [results, Tryd.f13, go_sem, e0, e1]) rfl ⟨rfl, ((below_drewNs hB0.out nq).setCell (by simp; omega) _).setCell (by simp; omega) _⟩

theorem rleqL_any (A : Option Addr) (n c : Nat) (up : List Nat) (a b : Lb) (w : World) (hn : up.length = n) (h64 : n ≤ 64) (hM : Masks up) (hr : Reads w w.heap.size 1 A n (u64s up)) (ha : Gd up a) (hb : Gd up b) (ham : a.ms < 2 ^ 64) (hbm : b.ms < 2 ^ 64) :
    Calls Tryd.prog 14 #[.slice A n c, lbV a, lbV b] w fun e w' => e = .returned (.bool (leL up a b)) ∧ Below w.heap.size w w' := by
  have e1 := ha.eq
  have e2 := hb.eq
  have l1 := ha.lt
  have l2 := hb.lt
  rw [hn] at l1 l2
  have hj : leL up a b = (le up a.lv.toNat b.lv.toNat && subB a.ms b.ms) := rfl
  rw [hj]
  replace hj := Lib.hid hj
  obtain ⟨av, am⟩ := a
  obtain ⟨bv, bm⟩ := b
  dsimp only at e1 e2 l1 l2 ham hbm ⊢
  generalize av.toNat = i at *
  generalize bv.toNat = j at *
  subst e1 e2
  obtain ⟨W0, hW0⟩ : ∃ W0, (w.alloc (.cells #[.int .i64 (i : Nat), .int .u64 (am : Nat)] 29)).alloc (.cells #[.int .i64 (j : Nat), .int .u64 (bm : Nat)] 29) = W0 := ⟨_, rfl⟩
  have k0 : Blk W0 w.heap.size 29 #[.int .i64 (i : Nat), .int .u64 (am : Nat)] := by rw [← hW0]; exact (Blk.new w _ _).alloc _
  have k1 : Blk W0 (w.heap.size + 1) 29 #[.int .i64 (j : Nat), .int .u64 (bm : Nat)] := by rw [← hW0]; exact Blk.new_at _ _ _ _ (by simp)
  have hB0 : Below w.heap.size w W0 := by rw [← hW0]; exact ((Below.refl _ w).alloc (Nat.le_refl _) _).alloc (by simp) _
  have hJ := above_any A n c up i j W0 hn hM l1 (by omega) ((hr.below hB0).more hB0.size)
  obtain ⟨p0, p1⟩ := pair_cells k0
  obtain ⟨p2, p3⟩ := pair_cells k1
  have hor := u64_or_eq am bm ham hbm
  have hsub : (((am ||| bm : Nat) : Int) == (bm : Int)) = subB am bm := by
    unfold subB
    rw [Bool.eq_iff_iff, beq_iff_eq, decide_eq_true_eq]
    omega
  generalize subB am bm = s at *
  generalize le up i j = q at *
  replace hJ := Lib.hid hJ
  replace k0 := Lib.hid k0
  replace k1 := Lib.hid k1
  replace hB0 := Lib.hid hB0
  replace hr := Lib.hid hr
  replace hn := Lib.hid hn
  replace hM := Lib.hid hM
  clear ha hb
  go_enter Tryd.func14, Tryd.ntmps14
  go_wp2_with fail
  refine hJ.out.mono ?_
  rintro e w1 ⟨rfl, rfl⟩
  cases q with
  | false =>
    go_wp2
    go_ret
    exact ⟨rfl, hB0.out⟩
  | true =>
    go_wp2
    go_ret
    exact ⟨by simp, hB0.out⟩


end Go.Proofs.YtleckdbdhkgcpaaDoor
