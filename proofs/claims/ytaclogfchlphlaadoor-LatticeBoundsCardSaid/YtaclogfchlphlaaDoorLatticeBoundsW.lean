/- The walk of LatticeBounds. -/
import Derived.Test.YtaclogfchlphlaaDoorTd
import Derived.Test.YtaclogfchlphlaaDoorQc
namespace Go.Proofs.YtaclogfchlphlaaDoor
open Go.RowKit Go.Shelf Go.Idl

theorem jn_below {up : List Nat} (h : Lat up) {a b c : Nat} (ha : a < up.length) (hb : b < up.length) (hc : c < up.length) : le up (jn up a b) c = (le up a c && le up b c) := by
  have hj := h.jn_is ha hb
  rw [Bool.eq_iff_iff, Bool.and_eq_true]
  exact ⟨fun h1 => ⟨h.toOrd.tr _ _ _ ha hj.lt hj.l h1, h.toOrd.tr _ _ _ hb hj.lt hj.r h1⟩, fun ⟨h1, h2⟩ => hj.least _ hc h1 h2⟩
theorem mt_above {up : List Nat} (h : Lat up) {a b c : Nat} (ha : a < up.length) (hb : b < up.length) (hc : c < up.length) : le up c (mt up a b) = (le up c a && le up c b) := by
  have hj := h.mt_is ha hb
  rw [Bool.eq_iff_iff, Bool.and_eq_true]
  exact ⟨fun h1 => ⟨h.toOrd.tr _ _ _ hc hj.lt h1 hj.l, h.toOrd.tr _ _ _ hc hj.lt h1 hj.r⟩, fun ⟨h1, h2⟩ => hj.most _ hc h1 h2⟩

set_option maxHeartbeats 8000000 in
set_option maxRecDepth 100000 in
theorem walkLatticeBounds (A : Option Addr) (n d : Nat) (up : List Nat) (a b c : Int) (w : World) (hT : Tab w) (hn : up.length = n) (hn63 : n ≤ maxLen) (hM : Masks up) (hr : Reads w w.heap.size 1 A n (u64s up)) :
    Calls Tryd.prog 11 #[.agg #[.slice A n d, .int .i64 a, .int .i64 b, .int .i64 c]] w fun e w' => e = .returned (.bool true) ∧ Below w.heap.size w w' := by
  refine (callsIn_wide (n := 20)).1 ?_
  have hw0 := hT.1
  have hb0 : Below w.heap.size w (w.alloc (.cells #[.slice A n d, .int .i64 a, .int .i64 b, .int .i64 c] 45)) := (Below.refl _ w).alloc (Nat.le_refl _) _
  have k0 := Blk.new w 45 #[.slice A n d, .int .i64 a, .int .i64 b, .int .i64 c]
  obtain ⟨W0, hW0⟩ : ∃ W0, w.alloc (.cells #[.slice A n d, .int .i64 a, .int .i64 b, .int .i64 c] 45) = W0 := ⟨_, rfl⟩
  rw [hW0] at hb0 k0
  have hs0 : w.heap.size < W0.heap.size := by rw [← hW0]; simp
  have p0 := k0.cell 0
  have p1 := k0.cell 1
  have p2 := k0.cell 2
  have p3 := k0.cell 3
  simp at p0 p1 p2 p3
  have hTa := Lib.hid (hT.later hb0)
  have hra := Lib.hid ((hr.below hb0).more hb0.size)
  replace hT := Lib.hid hT
  replace hr := Lib.hid hr
  replace hM := Lib.hid hM
  replace hn := Lib.hid hn
  replace hb0 := Lib.hid hb0
  replace k0 := Lib.hid k0
  by_cases hgood : latB up = true ∧ ¬ a < 0 ∧ ¬ b < 0 ∧ ¬ c < 0 ∧ ¬ (n : Int) ≤ a ∧ ¬ (n : Int) ≤ b ∧ ¬ (n : Int) ≤ c
  case neg =>
    have hbad : latB up = false ∨ (latB up = true ∧ (a < 0 ∨ (¬ a < 0 ∧ (b < 0 ∨ (¬ b < 0 ∧ (c < 0 ∨ (¬ c < 0 ∧ ((n : Int) ≤ a ∨ (¬ (n : Int) ≤ a ∧ ((n : Int) ≤ b ∨ (¬ (n : Int) ≤ b ∧ (n : Int) ≤ c))))))))))) := by
      cases hq : latB up with
      | false => exact .inl rfl
      | true =>
        rw [hq] at hgood
        refine .inr ⟨rfl, ?_⟩
        simp only [true_and] at hgood
        omega
    rcases hbad with hq | ⟨hq, x0 | ⟨x0, x1 | ⟨x1, x2 | ⟨x2, x3 | ⟨x3, x4 | ⟨x4, x5⟩⟩⟩⟩⟩⟩
    all_goals (
      replace hq := Lib.hid hq
      refine callsIn_of_wp_marks Tryd.func11 rfl trivial ?_ rfl
      simp only [Tryd.ntmps11, List.size_toArray, List.length_cons, List.length_nil, Nat.reduceAdd, Nat.reduceSub, Array.replicate_succ, Array.replicate_zero, List.push_toArray, List.append_toArray, List.nil_append, List.cons_append]
      gi_wp2_with (first | (refine ⟨trivial, ?_⟩; gi_at_call 16; refine (callsIn_wide.2 (right_lat A n d up _ hTa.out hn.out hn63 hM.out hra.out)).mono ?_; rintro e w1 ⟨rfl, hb1⟩; rw [hq.out]; have k1 := k0.out.below hb1 k0.out.lt; have hT1 := Lib.hid (hTa.out.later hb1); have hr1 := Lib.hid ((hra.out.below hb1).more hb1.size); have hB1 := Lib.hid (hb0.out.trans (hb1.mono hb0.out.size)); clear hb1 p0 p1 p2 p3; have d0 := k1.cell 0; have d1 := k1.cell 1; have d2 := k1.cell 2; have d3 := k1.cell 3; simp at d0 d1 d2 d3; replace k1 := Lib.hid k1) | (refine ⟨trivial, ?_⟩; gi_at_call 15; refine (callsIn_wide.2 (awake_any _ hT1.out)).mono ?_; rintro e w9 ⟨rfl, hb9⟩))
      refine leaves_of_marks (Marks.nil w.heap.size w.heap.size _) ?_
      intro W' hW'
      exact ⟨.bool true, by simp [results, Tryd.f11, go_sem], rfl, (hB1.out.trans (hb9.mono hB1.out.size)).trans hW'.below⟩)
  case pos =>
    obtain ⟨hq, x0, x1, x2, x3, x4, x5⟩ := hgood
    have hO := (Lat.of hM.out hq).toOrd
    have h64 : n ≤ 64 := by rw [← hn.out]; exact hO.n64
    replace hq := Lib.hid hq
    replace hO := Lib.hid hO
    obtain ⟨a, rfl⟩ : ∃ i : Nat, a = i := ⟨a.toNat, by omega⟩
    obtain ⟨b, rfl⟩ : ∃ i : Nat, b = i := ⟨b.toNat, by omega⟩
    obtain ⟨c, rfl⟩ : ∃ i : Nat, c = i := ⟨c.toNat, by omega⟩
    have ha : a < n := by omega
    have hb : b < n := by omega
    have hc : c < n := by omega
    have hJ := Lib.hid (join_lat A n d up hn.out hn63 hM.out hq.out)
    have hM' := Lib.hid (meet_lat A n d up hn.out hn63 hM.out hq.out)
    have hL := Lib.hid (leq_lat A n d up hn.out hn63 hM.out hq.out)
    have L := Lat.of hM.out hq.out
    have hnu := hn.out
    have ha' : a < up.length := by omega
    have hb' : b < up.length := by omega
    have hc' : c < up.length := by omega
    have i1 := L.jn_lt ha' hb'
    have i2 := L.mt_lt ha' hb'
    have e1 := jn_below L ha' hb' hc'
    have e2 := mt_above L ha' hb' hc'
    rw [hnu] at i1 i2
    generalize hje : jn up a b = j at *
    generalize hme : mt up a b = m at *
    generalize hu1 : le up a c = u1 at *
    generalize hu2 : le up b c = u2 at *
    generalize hu3 : le up c a = u3 at *
    generalize hu4 : le up c b = u4 at *
    replace hje := Lib.hid hje
    replace hme := Lib.hid hme
    replace hu1 := Lib.hid hu1
    replace hu2 := Lib.hid hu2
    replace hu3 := Lib.hid hu3
    replace hu4 := Lib.hid hu4
    clear ha' hb' hc' L hnu
    refine callsIn_of_wp_marks Tryd.func11 rfl trivial ?_ rfl
    simp only [Tryd.ntmps11, List.size_toArray, List.length_cons, List.length_nil, Nat.reduceAdd, Nat.reduceSub, Array.replicate_succ, Array.replicate_zero, List.push_toArray, List.append_toArray, List.nil_append, List.cons_append]
    gi_wp2_with (refine ⟨trivial, ?_⟩; gi_at_call 16; refine (callsIn_wide.2 (right_lat A n d up _ hTa.out hn.out hn63 hM.out hra.out)).mono ?_; rintro e w1 ⟨rfl, hb1⟩; rw [hq.out]; have k1 := k0.out.below hb1 k0.out.lt; have hT1 := Lib.hid (hTa.out.later hb1); have hr1 := Lib.hid ((hra.out.below hb1).more hb1.size); have hB1 := Lib.hid (hb0.out.trans (hb1.mono hb0.out.size)); clear hb1 p0 p1 p2 p3; have d0 := k1.cell 0; have d1 := k1.cell 1; have d2 := k1.cell 2; have d3 := k1.cell 3; simp at d0 d1 d2 d3; replace k1 := Lib.hid k1)
    clear d0 d1 d2 d3
    obtain ⟨XT4, f4, hfb4, hfall4⟩ := class_below w1.heap.size w1
    have hx4 : ∃ y, f4 y = w1.drew := hfall4 _ (by
      have := below_drewNs (Below.refl w1.heap.size w1) 1
      exact this)
    have hne4 : Nonempty XT4 := hx4.elim fun y _ => ⟨y⟩
    have hk4 := fun y => k1.out.below (hfb4 y) k1.out.lt
    have d0 := fun y => (hk4 y).cell 0
    have d1 := fun y => (hk4 y).cell 1
    have d2 := fun y => (hk4 y).cell 2
    have d3 := fun y => (hk4 y).cell 3
    simp at d0 d1 d2 d3
    have hT4 := Lib.hid fun y => hT1.out.later (hfb4 y)
    have hr4 := Lib.hid fun y => (hr1.out.below (hfb4 y)).more (hfb4 y).size
    replace hk4 := Lib.hid hk4
    replace hfb4 := Lib.hid hfb4
    replace hfall4 := Lib.hid hfall4
    gi_wp2
    refine wpIn_region_class f4 22 [true, true, true, true, true, true, true, true, true, true, true, true, true, true, true, true, true, true, true, true, true, true] hx4 (by kernel_rfl) (by kernel_rfl) ?_
    (simp only [List.take_succ_cons, List.take_zero]; (repeat (first | gi_big_quiet_step (fail) | (refine wpQuietIn_pass (fun _ _ _ _ => trivial) (by rfl) rfl ?_; simp only [List.setIfInBounds_toArray, List.set_cons_succ, List.set_cons_zero]) | (refine wpQuietIn_step (fun _ _ _ _ => trivial) ?_; intro K hK; refine Eq.mpr (if_pos (by rfl)) ?_; gi_big_quiet_op; gi_big_quiet_call ((first 
    | (gi_at_call 26; exact class_law hfall4.out (hfb4.out _) (hfb4.out _).size (callsIn_wide.2 (hJ.out a b j (by omega) (by omega) hje.out _ (hT4.out _) (hr4.out _))))
    | (gi_at_call 27; exact class_law hfall4.out (hfb4.out _) (hfb4.out _).size (callsIn_wide.2 (hM'.out a b m (by omega) (by omega) hme.out _ (hT4.out _) (hr4.out _))))
    | (gi_at_call 32; exact class_law hfall4.out (hfb4.out _) (hfb4.out _).size (callsIn_wide.2 ((told_yes _ _).mono (by rintro e w' ⟨rfl, rfl⟩; exact ⟨rfl, Below.refl _ _⟩))))
))))); refine wpQuietIn_nil ?_)
    rintro W' ⟨y, rfl⟩
    have k4 := hk4.out y
    have T4 := hT4.out y
    have R4 := hr4.out y
    have B4 := hB1.out.trans ((hfb4.out y).mono hB1.out.size)
    clear d0 d1 d2 d3 hk4 hT4 hr4
    generalize f4 y = Y4 at *
    replace k4 := Lib.hid k4
    replace T4 := Lib.hid T4
    replace R4 := Lib.hid R4
    replace B4 := Lib.hid B4
    refine wpAnyIn_end (by kernel_rfl) ?_
    gi_wp2
    cases u1
    case false =>
      simp only [Bool.false_and] at e1
      have z2 : (u2 != u2) = false := by simp
      replace e1 := Lib.hid e1
      have qjc := Lib.hid (hL.out j c _ (by omega) (by omega) e1.out)
      have qac := Lib.hid (hL.out a c _ (by omega) (by omega) hu1.out)
      have qbc := Lib.hid (hL.out b c _ (by omega) (by omega) hu2.out)
      obtain ⟨XT5, f5, hfb5, hfall5⟩ := class_below Y4.heap.size Y4
      have hx5 : ∃ y, f5 y = Y4.drew := hfall5 _ (by
        have := below_drewNs (Below.refl Y4.heap.size Y4) 1
        exact this)
      have hne5 : Nonempty XT5 := hx5.elim fun y _ => ⟨y⟩
      have hk5 := fun y => k4.out.below (hfb5 y) k4.out.lt
      have d0 := fun y => (hk5 y).cell 0
      have d1 := fun y => (hk5 y).cell 1
      have d2 := fun y => (hk5 y).cell 2
      have d3 := fun y => (hk5 y).cell 3
      simp at d0 d1 d2 d3
      have hT5 := Lib.hid fun y => T4.out.later (hfb5 y)
      have hr5 := Lib.hid fun y => (R4.out.below (hfb5 y)).more (hfb5 y).size
      replace hk5 := Lib.hid hk5
      replace hfb5 := Lib.hid hfb5
      replace hfall5 := Lib.hid hfall5
      gi_wp2
      refine wpIn_region_class f5 23 [true, true, true, true, true, true, true, true, true, true, true, true, true, true, true, true, true, true, true, true, true, true, true] hx5 (by kernel_rfl) (by kernel_rfl) ?_
      (simp only [List.take_succ_cons, List.take_zero]; (repeat (first | gi_big_quiet_step (fail) | (refine wpQuietIn_pass (fun _ _ _ _ => trivial) (by rfl) rfl ?_; simp only [List.setIfInBounds_toArray, List.set_cons_succ, List.set_cons_zero]) | (refine wpQuietIn_step (fun _ _ _ _ => trivial) ?_; intro K hK; refine Eq.mpr (if_pos (by rfl)) ?_; gi_big_quiet_op; gi_big_quiet_call ((first | (gi_at_call 28; with_reducible exact class_law hfall5.out (hfb5.out _) (hfb5.out _).size (callsIn_wide.2 (qjc.out _ (hT5.out _) (hr5.out _))))| (gi_at_call 28; with_reducible exact class_law hfall5.out (hfb5.out _) (hfb5.out _).size (callsIn_wide.2 (qac.out _ (hT5.out _) (hr5.out _))))| (gi_at_call 28; with_reducible exact class_law hfall5.out (hfb5.out _) (hfb5.out _).size (callsIn_wide.2 (qbc.out _ (hT5.out _) (hr5.out _))))))))); refine wpQuietIn_nil ?_)
      rintro W' ⟨y, rfl⟩
      have k5 := hk5.out y
      have T5 := hT5.out y
      have R5 := hr5.out y
      have B5 := B4.out.trans ((hfb5.out y).mono B4.out.size)
      clear d0 d1 d2 d3 hk5 hT5 hr5
      generalize f5 y = Y5 at *
      replace k5 := Lib.hid k5
      replace T5 := Lib.hid T5
      replace R5 := Lib.hid R5
      replace B5 := Lib.hid B5
      refine wpAnyIn_end (by kernel_rfl) ?_
      gi_wp2
      cases u3
      case false =>
        simp only [Bool.false_and] at e2
        have z4 : (u4 == u4) = true := by simp
        replace e2 := Lib.hid e2
        have qcm := Lib.hid (hL.out c m _ (by omega) (by omega) e2.out)
        have qca := Lib.hid (hL.out c a _ (by omega) (by omega) hu3.out)
        have qcb := Lib.hid (hL.out c b _ (by omega) (by omega) hu4.out)
        obtain ⟨XT7, f7, hfb7, hfall7⟩ := class_below Y5.heap.size Y5
        have hx7 : ∃ y, f7 y = Y5.drew := hfall7 _ (by
          have := below_drewNs (Below.refl Y5.heap.size Y5) 1
          exact this)
        have hne7 : Nonempty XT7 := hx7.elim fun y _ => ⟨y⟩
        have hk7 := fun y => k5.out.below (hfb7 y) k5.out.lt
        have d0 := fun y => (hk7 y).cell 0
        have d1 := fun y => (hk7 y).cell 1
        have d2 := fun y => (hk7 y).cell 2
        have d3 := fun y => (hk7 y).cell 3
        simp at d0 d1 d2 d3
        have hT7 := Lib.hid fun y => T5.out.later (hfb7 y)
        have hr7 := Lib.hid fun y => (R5.out.below (hfb7 y)).more (hfb7 y).size
        replace hk7 := Lib.hid hk7
        replace hfb7 := Lib.hid hfb7
        replace hfall7 := Lib.hid hfall7
        gi_wp2
        refine wpIn_region_class f7 27 [true, true, true, true, true, true, true, true, true, true, true, true, true, true, true, true, true, true, true, true, true, true, true, true, true, true, true] hx7 (by kernel_rfl) (by kernel_rfl) ?_
        (simp only [List.take_succ_cons, List.take_zero]; (repeat (first | gi_big_quiet_step (fail) | (refine wpQuietIn_pass (fun _ _ _ _ => trivial) (by rfl) rfl ?_; simp only [List.setIfInBounds_toArray, List.set_cons_succ, List.set_cons_zero]) | (refine wpQuietIn_step (fun _ _ _ _ => trivial) ?_; intro K hK; refine Eq.mpr (if_pos (by rfl)) ?_; gi_big_quiet_op; gi_big_quiet_call ((first | (gi_at_call 28; with_reducible exact class_law hfall7.out (hfb7.out _) (hfb7.out _).size (callsIn_wide.2 (qcm.out _ (hT7.out _) (hr7.out _))))| (gi_at_call 28; with_reducible exact class_law hfall7.out (hfb7.out _) (hfb7.out _).size (callsIn_wide.2 (qca.out _ (hT7.out _) (hr7.out _))))| (gi_at_call 28; with_reducible exact class_law hfall7.out (hfb7.out _) (hfb7.out _).size (callsIn_wide.2 (qcb.out _ (hT7.out _) (hr7.out _))))| (gi_at_call 15; exact class_law hfall7.out (hfb7.out _) (hfb7.out _).size (callsIn_wide.2 (awake_any _ (hT7.out _))))))))); refine wpQuietIn_nil ?_)
        rintro W' ⟨y, rfl⟩
        have k7 := hk7.out y
        have T7 := hT7.out y
        have R7 := hr7.out y
        have B7 := B5.out.trans ((hfb7.out y).mono B5.out.size)
        clear d0 d1 d2 d3 hk7 hT7 hr7
        generalize f7 y = Y7 at *
        replace k7 := Lib.hid k7
        replace T7 := Lib.hid T7
        replace R7 := Lib.hid R7
        replace B7 := Lib.hid B7
        refine wpAnyIn_end (by kernel_rfl) ?_
        gi_wp2
        refine leaves_of_marks (Marks.nil w.heap.size w.heap.size _) ?_
        intro W' hW'
        exact ⟨.bool true, by simp [results, Tryd.f11, go_sem], rfl, B7.out.trans hW'.below⟩
      case true =>
        simp only [Bool.true_and] at e2
        have z4 : (u4 == u4) = true := by simp
        replace e2 := Lib.hid e2
        have qcm := Lib.hid (hL.out c m _ (by omega) (by omega) e2.out)
        have qca := Lib.hid (hL.out c a _ (by omega) (by omega) hu3.out)
        have qcb := Lib.hid (hL.out c b _ (by omega) (by omega) hu4.out)
        obtain ⟨XT7, f7, hfb7, hfall7⟩ := class_below Y5.heap.size Y5
        have hx7 : ∃ y, f7 y = Y5.drew := hfall7 _ (by
          have := below_drewNs (Below.refl Y5.heap.size Y5) 1
          exact this)
        have hne7 : Nonempty XT7 := hx7.elim fun y _ => ⟨y⟩
        have hk7 := fun y => k5.out.below (hfb7 y) k5.out.lt
        have d0 := fun y => (hk7 y).cell 0
        have d1 := fun y => (hk7 y).cell 1
        have d2 := fun y => (hk7 y).cell 2
        have d3 := fun y => (hk7 y).cell 3
        simp at d0 d1 d2 d3
        have hT7 := Lib.hid fun y => T5.out.later (hfb7 y)
        have hr7 := Lib.hid fun y => (R5.out.below (hfb7 y)).more (hfb7 y).size
        replace hk7 := Lib.hid hk7
        replace hfb7 := Lib.hid hfb7
        replace hfall7 := Lib.hid hfall7
        gi_wp2
        refine wpIn_region_class f7 27 [true, true, true, true, true, true, true, true, true, true, true, true, true, true, true, true, true, true, true, true, true, true, true, true, true, true, true] hx7 (by kernel_rfl) (by kernel_rfl) ?_
        (simp only [List.take_succ_cons, List.take_zero]; (repeat (first | gi_big_quiet_step (fail) | (refine wpQuietIn_pass (fun _ _ _ _ => trivial) (by rfl) rfl ?_; simp only [List.setIfInBounds_toArray, List.set_cons_succ, List.set_cons_zero]) | (refine wpQuietIn_step (fun _ _ _ _ => trivial) ?_; intro K hK; refine Eq.mpr (if_pos (by rfl)) ?_; gi_big_quiet_op; gi_big_quiet_call ((first | (gi_at_call 28; with_reducible exact class_law hfall7.out (hfb7.out _) (hfb7.out _).size (callsIn_wide.2 (qcm.out _ (hT7.out _) (hr7.out _))))| (gi_at_call 28; with_reducible exact class_law hfall7.out (hfb7.out _) (hfb7.out _).size (callsIn_wide.2 (qca.out _ (hT7.out _) (hr7.out _))))| (gi_at_call 28; with_reducible exact class_law hfall7.out (hfb7.out _) (hfb7.out _).size (callsIn_wide.2 (qcb.out _ (hT7.out _) (hr7.out _))))| (gi_at_call 15; exact class_law hfall7.out (hfb7.out _) (hfb7.out _).size (callsIn_wide.2 (awake_any _ (hT7.out _))))))))); refine wpQuietIn_nil ?_)
        rintro W' ⟨y, rfl⟩
        have k7 := hk7.out y
        have T7 := hT7.out y
        have R7 := hr7.out y
        have B7 := B5.out.trans ((hfb7.out y).mono B5.out.size)
        clear d0 d1 d2 d3 hk7 hT7 hr7
        generalize f7 y = Y7 at *
        replace k7 := Lib.hid k7
        replace T7 := Lib.hid T7
        replace R7 := Lib.hid R7
        replace B7 := Lib.hid B7
        refine wpAnyIn_end (by kernel_rfl) ?_
        gi_wp2
        refine leaves_of_marks (Marks.nil w.heap.size w.heap.size _) ?_
        intro W' hW'
        exact ⟨.bool true, by simp [results, Tryd.f11, go_sem], rfl, B7.out.trans hW'.below⟩
    case true =>
      simp only [Bool.true_and] at e1
      have z2 : (u2 != u2) = false := by simp
      replace e1 := Lib.hid e1
      have qjc := Lib.hid (hL.out j c _ (by omega) (by omega) e1.out)
      have qac := Lib.hid (hL.out a c _ (by omega) (by omega) hu1.out)
      have qbc := Lib.hid (hL.out b c _ (by omega) (by omega) hu2.out)
      obtain ⟨XT5, f5, hfb5, hfall5⟩ := class_below Y4.heap.size Y4
      have hx5 : ∃ y, f5 y = Y4.drew := hfall5 _ (by
        have := below_drewNs (Below.refl Y4.heap.size Y4) 1
        exact this)
      have hne5 : Nonempty XT5 := hx5.elim fun y _ => ⟨y⟩
      have hk5 := fun y => k4.out.below (hfb5 y) k4.out.lt
      have d0 := fun y => (hk5 y).cell 0
      have d1 := fun y => (hk5 y).cell 1
      have d2 := fun y => (hk5 y).cell 2
      have d3 := fun y => (hk5 y).cell 3
      simp at d0 d1 d2 d3
      have hT5 := Lib.hid fun y => T4.out.later (hfb5 y)
      have hr5 := Lib.hid fun y => (R4.out.below (hfb5 y)).more (hfb5 y).size
      replace hk5 := Lib.hid hk5
      replace hfb5 := Lib.hid hfb5
      replace hfall5 := Lib.hid hfall5
      gi_wp2
      refine wpIn_region_class f5 23 [true, true, true, true, true, true, true, true, true, true, true, true, true, true, true, true, true, true, true, true, true, true, true] hx5 (by kernel_rfl) (by kernel_rfl) ?_
      (simp only [List.take_succ_cons, List.take_zero]; (repeat (first | gi_big_quiet_step (fail) | (refine wpQuietIn_pass (fun _ _ _ _ => trivial) (by rfl) rfl ?_; simp only [List.setIfInBounds_toArray, List.set_cons_succ, List.set_cons_zero]) | (refine wpQuietIn_step (fun _ _ _ _ => trivial) ?_; intro K hK; refine Eq.mpr (if_pos (by rfl)) ?_; gi_big_quiet_op; gi_big_quiet_call ((first | (gi_at_call 28; with_reducible exact class_law hfall5.out (hfb5.out _) (hfb5.out _).size (callsIn_wide.2 (qjc.out _ (hT5.out _) (hr5.out _))))| (gi_at_call 28; with_reducible exact class_law hfall5.out (hfb5.out _) (hfb5.out _).size (callsIn_wide.2 (qac.out _ (hT5.out _) (hr5.out _))))| (gi_at_call 28; with_reducible exact class_law hfall5.out (hfb5.out _) (hfb5.out _).size (callsIn_wide.2 (qbc.out _ (hT5.out _) (hr5.out _))))))))); refine wpQuietIn_nil ?_)
      rintro W' ⟨y, rfl⟩
      have k5 := hk5.out y
      have T5 := hT5.out y
      have R5 := hr5.out y
      have B5 := B4.out.trans ((hfb5.out y).mono B4.out.size)
      clear d0 d1 d2 d3 hk5 hT5 hr5
      generalize f5 y = Y5 at *
      replace k5 := Lib.hid k5
      replace T5 := Lib.hid T5
      replace R5 := Lib.hid R5
      replace B5 := Lib.hid B5
      refine wpAnyIn_end (by kernel_rfl) ?_
      gi_wp2
      cases u3
      case false =>
        simp only [Bool.false_and] at e2
        have z4 : (u4 == u4) = true := by simp
        replace e2 := Lib.hid e2
        have qcm := Lib.hid (hL.out c m _ (by omega) (by omega) e2.out)
        have qca := Lib.hid (hL.out c a _ (by omega) (by omega) hu3.out)
        have qcb := Lib.hid (hL.out c b _ (by omega) (by omega) hu4.out)
        obtain ⟨XT7, f7, hfb7, hfall7⟩ := class_below Y5.heap.size Y5
        have hx7 : ∃ y, f7 y = Y5.drew := hfall7 _ (by
          have := below_drewNs (Below.refl Y5.heap.size Y5) 1
          exact this)
        have hne7 : Nonempty XT7 := hx7.elim fun y _ => ⟨y⟩
        have hk7 := fun y => k5.out.below (hfb7 y) k5.out.lt
        have d0 := fun y => (hk7 y).cell 0
        have d1 := fun y => (hk7 y).cell 1
        have d2 := fun y => (hk7 y).cell 2
        have d3 := fun y => (hk7 y).cell 3
        simp at d0 d1 d2 d3
        have hT7 := Lib.hid fun y => T5.out.later (hfb7 y)
        have hr7 := Lib.hid fun y => (R5.out.below (hfb7 y)).more (hfb7 y).size
        replace hk7 := Lib.hid hk7
        replace hfb7 := Lib.hid hfb7
        replace hfall7 := Lib.hid hfall7
        gi_wp2
        refine wpIn_region_class f7 27 [true, true, true, true, true, true, true, true, true, true, true, true, true, true, true, true, true, true, true, true, true, true, true, true, true, true, true] hx7 (by kernel_rfl) (by kernel_rfl) ?_
        (simp only [List.take_succ_cons, List.take_zero]; (repeat (first | gi_big_quiet_step (fail) | (refine wpQuietIn_pass (fun _ _ _ _ => trivial) (by rfl) rfl ?_; simp only [List.setIfInBounds_toArray, List.set_cons_succ, List.set_cons_zero]) | (refine wpQuietIn_step (fun _ _ _ _ => trivial) ?_; intro K hK; refine Eq.mpr (if_pos (by rfl)) ?_; gi_big_quiet_op; gi_big_quiet_call ((first | (gi_at_call 28; with_reducible exact class_law hfall7.out (hfb7.out _) (hfb7.out _).size (callsIn_wide.2 (qcm.out _ (hT7.out _) (hr7.out _))))| (gi_at_call 28; with_reducible exact class_law hfall7.out (hfb7.out _) (hfb7.out _).size (callsIn_wide.2 (qca.out _ (hT7.out _) (hr7.out _))))| (gi_at_call 28; with_reducible exact class_law hfall7.out (hfb7.out _) (hfb7.out _).size (callsIn_wide.2 (qcb.out _ (hT7.out _) (hr7.out _))))| (gi_at_call 15; exact class_law hfall7.out (hfb7.out _) (hfb7.out _).size (callsIn_wide.2 (awake_any _ (hT7.out _))))))))); refine wpQuietIn_nil ?_)
        rintro W' ⟨y, rfl⟩
        have k7 := hk7.out y
        have T7 := hT7.out y
        have R7 := hr7.out y
        have B7 := B5.out.trans ((hfb7.out y).mono B5.out.size)
        clear d0 d1 d2 d3 hk7 hT7 hr7
        generalize f7 y = Y7 at *
        replace k7 := Lib.hid k7
        replace T7 := Lib.hid T7
        replace R7 := Lib.hid R7
        replace B7 := Lib.hid B7
        refine wpAnyIn_end (by kernel_rfl) ?_
        gi_wp2
        refine leaves_of_marks (Marks.nil w.heap.size w.heap.size _) ?_
        intro W' hW'
        exact ⟨.bool true, by simp [results, Tryd.f11, go_sem], rfl, B7.out.trans hW'.below⟩
      case true =>
        simp only [Bool.true_and] at e2
        have z4 : (u4 == u4) = true := by simp
        replace e2 := Lib.hid e2
        have qcm := Lib.hid (hL.out c m _ (by omega) (by omega) e2.out)
        have qca := Lib.hid (hL.out c a _ (by omega) (by omega) hu3.out)
        have qcb := Lib.hid (hL.out c b _ (by omega) (by omega) hu4.out)
        obtain ⟨XT7, f7, hfb7, hfall7⟩ := class_below Y5.heap.size Y5
        have hx7 : ∃ y, f7 y = Y5.drew := hfall7 _ (by
          have := below_drewNs (Below.refl Y5.heap.size Y5) 1
          exact this)
        have hne7 : Nonempty XT7 := hx7.elim fun y _ => ⟨y⟩
        have hk7 := fun y => k5.out.below (hfb7 y) k5.out.lt
        have d0 := fun y => (hk7 y).cell 0
        have d1 := fun y => (hk7 y).cell 1
        have d2 := fun y => (hk7 y).cell 2
        have d3 := fun y => (hk7 y).cell 3
        simp at d0 d1 d2 d3
        have hT7 := Lib.hid fun y => T5.out.later (hfb7 y)
        have hr7 := Lib.hid fun y => (R5.out.below (hfb7 y)).more (hfb7 y).size
        replace hk7 := Lib.hid hk7
        replace hfb7 := Lib.hid hfb7
        replace hfall7 := Lib.hid hfall7
        gi_wp2
        refine wpIn_region_class f7 27 [true, true, true, true, true, true, true, true, true, true, true, true, true, true, true, true, true, true, true, true, true, true, true, true, true, true, true] hx7 (by kernel_rfl) (by kernel_rfl) ?_
        (simp only [List.take_succ_cons, List.take_zero]; (repeat (first | gi_big_quiet_step (fail) | (refine wpQuietIn_pass (fun _ _ _ _ => trivial) (by rfl) rfl ?_; simp only [List.setIfInBounds_toArray, List.set_cons_succ, List.set_cons_zero]) | (refine wpQuietIn_step (fun _ _ _ _ => trivial) ?_; intro K hK; refine Eq.mpr (if_pos (by rfl)) ?_; gi_big_quiet_op; gi_big_quiet_call ((first | (gi_at_call 28; with_reducible exact class_law hfall7.out (hfb7.out _) (hfb7.out _).size (callsIn_wide.2 (qcm.out _ (hT7.out _) (hr7.out _))))| (gi_at_call 28; with_reducible exact class_law hfall7.out (hfb7.out _) (hfb7.out _).size (callsIn_wide.2 (qca.out _ (hT7.out _) (hr7.out _))))| (gi_at_call 28; with_reducible exact class_law hfall7.out (hfb7.out _) (hfb7.out _).size (callsIn_wide.2 (qcb.out _ (hT7.out _) (hr7.out _))))| (gi_at_call 15; exact class_law hfall7.out (hfb7.out _) (hfb7.out _).size (callsIn_wide.2 (awake_any _ (hT7.out _))))))))); refine wpQuietIn_nil ?_)
        rintro W' ⟨y, rfl⟩
        have k7 := hk7.out y
        have T7 := hT7.out y
        have R7 := hr7.out y
        have B7 := B5.out.trans ((hfb7.out y).mono B5.out.size)
        clear d0 d1 d2 d3 hk7 hT7 hr7
        generalize f7 y = Y7 at *
        replace k7 := Lib.hid k7
        replace T7 := Lib.hid T7
        replace R7 := Lib.hid R7
        replace B7 := Lib.hid B7
        refine wpAnyIn_end (by kernel_rfl) ?_
        gi_wp2
        refine leaves_of_marks (Marks.nil w.heap.size w.heap.size _) ?_
        intro W' hW'
        exact ⟨.bool true, by simp [results, Tryd.f11, go_sem], rfl, B7.out.trans hW'.below⟩
end Go.Proofs.YtaclogfchlphlaaDoor
