/- The walk of lattice.Covers. -/
import Derived.Test.YtaclogfchlphlaaDoorBu
import Derived.Test.YtaclogfchlphlaaDoorCo
import Derived.Test.YtaclogfchlphlaaDoorCs
import Derived.Test.YtaclogfchlphlaaDoorPh
namespace Go.Proofs.YtaclogfchlphlaaDoor
open Go.RowKit Go.Shelf Go.Idl
attribute [local go_sem] Oper.semAt_some

theorem pair_info : (Tryd.prog.info? 33).map (fun i => (i.zero, i.size, i.bytes)) = some (some (.agg #[.int .i64 0, .int .i64 0]), 2, 16) := by kernel_rfl
theorem ownsRow_below {w w' : World} {base : Nat} {e : TypeId} {size n : Nat} {v : Value} {xs : List Value} (h : w.ownsRow base e size v n xs) (hb : Below w.heap.size w w') : w'.ownsRow base e size v n xs := by
  refine ⟨h.1, ?_⟩
  rcases h.2 with h0 | ⟨g, cap, cur, hv, hg, hh, hrest⟩
  · exact .inl h0
  · exact .inr ⟨g, cap, cur, hv, hg, Blk.below (t := e) (cs := cur) hh hb (Blk.lt (t := e) (cs := cur) hh), hrest⟩

/-- What holds while the levels above one level are gone through. -/
structure CovAt (w W : World) (ds : List Deferred) (ad : Addr) (n c O S g i : Nat) (dn : List Nat) (L : List (Nat × Nat)) (X : World) : Prop where
  mks : Marks w.heap.size W.heap.size X ds
  b1 : Blk X w.heap.size 23 #[.slice (some ad) n c]
  b2 : ∃ A' c', Blk X O 22 #[.slice A' L.length c'] ∧ X.ownsRow (S + 1) 33 2 (.slice A' L.length c') L.length (pairVals (intP L))
  b3 : Blk X S 23 #[.slice (some ⟨g, 0, none⟩) n n]
  b4 : Blk X g 39 (u64s dn).toArray
  b5 : Blk X W.heap.size 3 #[.int .i64 (i : Nat)]
  sz : W.heap.size + 2 ≤ X.heap.size
  bw : Below w.heap.size w X
theorem pairVals_one (ps : List (Int × Int)) : ∀ u ∈ pairVals ps, u.oneCell' = true := by
  intro u hu
  unfold pairVals at hu
  obtain ⟨p, _, h⟩ := List.mem_flatMap.1 hu
  simp only [List.mem_cons, List.not_mem_nil, or_false] at h
  rcases h with rfl | rfl <;> rfl

set_option maxRecDepth 100000 in
set_option maxHeartbeats 8000000 in
theorem covers_any (A : Option Addr) (n c : Nat) (up : List Nat) (w : World) (hT : Tab w) (hn : up.length = n) (hn63 : n ≤ maxLen) (hM : Masks up) (hr : Reads w w.heap.size 1 A n (u64s up)) :
    Calls Tryd.prog 24 #[.slice A n c] w fun e w' => ∃ A' c', e = .returned (.slice A' (if latB up = true then coversL up else []).length c') ∧
      w'.ownsRow w.heap.size 33 2 (.slice A' (if latB up = true then coversL up else []).length c') (if latB up = true then coversL up else []).length (pairVals (intP (if latB up = true then coversL up else []))) ∧ Below w.heap.size w w' := by
  refine (callsIn_wide (n := 20)).1 ?_
  have hw0 := hT.1
  have hml : maxLen = 9223372036854775807 := rfl
  have hb0 : Below w.heap.size w (w.alloc (.cells #[.slice A n c] 23)) := (Below.refl _ w).alloc (Nat.le_refl _) _
  cases hq : latB up with
  | false =>
    rw [if_neg (by simp)]
    replace hT := Lib.hid hT
    replace hr := Lib.hid hr
    replace hM := Lib.hid hM
    replace hn := Lib.hid hn
    replace hq := Lib.hid hq
    replace hb0 := Lib.hid hb0
    refine callsIn_of_wp_marks Tryd.func24 rfl trivial ?_ rfl
    simp only [Tryd.ntmps24, List.size_toArray, List.length_cons, List.length_nil, Nat.reduceAdd, Nat.reduceSub, Array.replicate_succ, Array.replicate_zero, List.push_toArray, List.append_toArray, List.nil_append, List.cons_append]
    gi_wp2_with (refine ⟨trivial, ?_⟩; gi_at_call 16; refine (callsIn_wide.2 (right_lat A n c up _ (hT.out.later hb0.out) hn.out hn63 hM.out ((hr.out.below hb0.out).more hb0.out.size))).mono ?_; rintro e w1 ⟨rfl, hb1⟩; rw [hq.out])
    refine leaves_of_marks (Marks.nil w.heap.size w.heap.size _) ?_
    intro W' hW'
    exact ⟨.slice none 0 0, by simp [results, Tryd.f24, go_sem], none, 0, rfl, World.ownsRow_nil _ _ _ _, (hb0.out.trans (hb1.mono hb0.out.size)).trans hW'.below⟩
  | true =>
    rw [if_pos rfl]
    have hO := (Lat.of hM hq).toOrd
    have h64 : n ≤ 64 := by rw [← hn]; exact hO.n64
    have hcov := hO.covTo_all hM
    obtain ⟨i0, hi0, hz0, hz1, hz2⟩ := info_parts pair_info
    replace hT := Lib.hid hT
    replace hr := Lib.hid hr
    replace hM := Lib.hid hM
    replace hn := Lib.hid hn
    replace hq := Lib.hid hq
    replace hb0 := Lib.hid hb0
    replace hO := Lib.hid hO
    replace hcov := Lib.hid hcov
    refine callsIn_of_wp_marks Tryd.func24 rfl trivial ?_ rfl
    simp only [Tryd.ntmps24, List.size_toArray, List.length_cons, List.length_nil, Nat.reduceAdd, Nat.reduceSub, Array.replicate_succ, Array.replicate_zero, List.push_toArray, List.append_toArray, List.nil_append, List.cons_append]
    gi_wp2_with (refine ⟨trivial, ?_⟩; first | (gi_at_call 16; refine (callsIn_wide.2 (right_lat A n c up _ (hT.out.later hb0.out) hn.out hn63 hM.out ((hr.out.below hb0.out).more hb0.out.size))).mono ?_; rintro e w1 ⟨rfl, hb1⟩; rw [hq.out]; have hx1 := Lib.hid (((Blk.new_at w 23 #[.slice A n c] _ rfl).below hb1 (by simp)).alloc (.cells #[.slice none 0 0] 22)); have cx1 := hx1.out.cell0; have hB1 := Lib.hid ((hb0.out.trans (hb1.mono hb0.out.size)).alloc (by have := hb1.size; simp at this; omega) (.cells #[.slice none 0 0] 22)); have hs1 := hb1.size; simp at hs1; replace hb1 := Lib.hid hb1) | (gi_at_call 39; refine (callsIn_wide.2 (turned_any A n c up _ (hT.out.later hB1.out) hn.out hM.out hO.out ((hr.out.below hB1.out).more hB1.out.size))).mono ?_; rintro e w2 ⟨g, rfl, hg, hbg, hb2⟩; have hx2 := Lib.hid ((hx1.out.below hb2 (by simp; omega)).alloc (.cells #[.slice (some ⟨g, 0, none⟩) n n] 23)); have cx2 := hx2.out.cell0))
    rename_i Q' K hK
    obtain ⟨O, hOe⟩ : ∃ O, w1.heap.size = O := ⟨_, rfl⟩
    obtain ⟨S, hSe⟩ : ∃ S, w2.heap.size = S := ⟨_, rfl⟩
    rw [hOe, hSe]
    have hs2 := hb2.size
    simp at hs2
    have hgS := hbg.lt
    have hgO : O + 1 ≤ g := by simp at hg; omega
    have hB2 := hB1.out.trans (hb2.mono hB1.out.size)
    obtain ⟨I1, hI1⟩ : ∃ I1 : Act → World → Prop, I1 = (fun a W => ∃ (i : Nat) (ds : List Deferred) (A' : Option Addr) (c' : Nat) (v5 v6 v15 v16 v17 v18 v19 v20 v21 v22 v23 v24 v25 v26 v27 v28 v29 v30 v31 v32 v33 v34 v35 v36 v37 v38 v39 v40 v41 v42 v43 : Value), i ≤ n ∧
        a = { tmps := #[.slice A n c, .pointer (some ⟨w.heap.size, 0, none⟩), .slice none 0 0, .pointer (some ⟨O, 0, none⟩), .pointer (some ⟨S, 0, none⟩), v5, v6, .slice A n c, .bool true, .bool false, .slice A n c, .slice (some ⟨g, 0, none⟩) n n, .slice A n c, .int .i64 (n : Nat), .int .i64 (i : Nat), v15, v16, v17, v18, v19, v20, v21, v22, v23, v24, v25, v26, v27, v28, v29, v30, v31, v32, v33, v34, v35, v36, v37, v38, v39, v40, v41, v42, v43], defers := ds } ∧ Marks w.heap.size W.heap.size W ds ∧ Blk W w.heap.size 23 #[.slice A n c] ∧ Blk W O 22 #[.slice A' (covTo up i).length c'] ∧ Blk W S 23 #[.slice (some ⟨g, 0, none⟩) n n] ∧ Blk W g 39 (u64s (downs up)).toArray ∧
        W.ownsRow (S + 1) 33 2 (.slice A' (covTo up i).length c') (covTo up i).length (pairVals (intP (covTo up i))) ∧ S + 1 ≤ W.heap.size ∧ Below w.heap.size w W) := ⟨_, rfl⟩
    replace hI1 := Lib.hid hI1
    refine wpIn_loop I1 (fun a _ => n - slotNat a 14) ?start ?round
    case start =>
      rw [hI1.out]
      refine ⟨0, [], none, 0, undef, undef, undef, undef, undef, undef, undef, undef, undef, undef, undef, undef, undef, undef, undef, undef, undef, undef, undef, undef, undef, undef, undef, undef, undef, undef, undef, undef, undef, undef, undef, by omega, by rfl, Marks.nil _ _ _, hx2.out, ?_, ?_, hbg.alloc _, World.ownsRow_nil _ _ _ _, by simp; omega, hB2.alloc hB2.size _⟩
      · exact ((Blk.new_at w1 22 #[.slice none 0 0] O hOe).below hb2 (by simp; omega)).alloc _
      · exact Blk.new_at w2 _ _ S hSe
    case round =>
      intro a W hin1
      rw [hI1.out] at hin1
      obtain ⟨i, ds, A', c', v5, v6, v15, v16, v17, v18, v19, v20, v21, v22, v23, v24, v25, v26, v27, v28, v29, v30, v31, v32, v33, v34, v35, v36, v37, v38, v39, v40, v41, v42, v43, hin, rfl, hMk, hk1, hk2, hk3, hk4, hown, hSW, hB⟩ := hin1
      by_cases hi : i < n
      · have hlt : ((i : Int) < (n : Int)) := by omega
        obtain ⟨ad, hA, hbk, hc⟩ := reads_mask_new hn.out hB.size (hr.out.below hB) hi (.cells #[.int .i64 (i : Nat)] 3)
        subst hA
        have hm := hM.out i
        have hn1 := hk1.alloc (.cells #[.int .i64 (i : Nat)] 3)
        have c1 := hn1.cell0
        generalize hgm : up.getD i 0 = m at hm hc
        have hwo := withoutN_lt m i hm
        replace hgm := Lib.hid hgm
        replace hMk := Lib.hid hMk
        replace hk1 := Lib.hid hk1
        replace hk2 := Lib.hid hk2
        replace hk3 := Lib.hid hk3
        replace hk4 := Lib.hid hk4
        replace hown := Lib.hid hown
        replace hB := Lib.hid hB
        replace hn1 := Lib.hid hn1
        gi_wp2
        (refine wpIn_region_quiet_tail 6 (by kernel_rfl) (by kernel_rfl) ?_; simp only [List.take_succ_cons, List.take_zero, List.drop_succ_cons, List.drop_zero]; (repeat (first | gi_big_quiet_step (fail) | (refine wpQuietIn_pass (fun _ _ _ _ => trivial) (by rfl) rfl ?_; simp only [List.setIfInBounds_toArray, List.set_cons_succ, List.set_cons_zero]) | (refine wpQuietIn_step (fun _ _ _ _ => trivial) ?_; intro K hK; refine Eq.mpr (if_pos (by rfl)) ?_; gi_big_quiet_op; gi_big_quiet_call ((gi_at_call 43; exact quiet_law (callsIn_wide.2 (without_any m i _ hm))))))); refine wpQuietIn_nil ?_; intro _ hw'; obtain ⟨nq, hw''⟩ := hw'; subst hw'')
        gi_wp2_with (refine ⟨trivial, ?_⟩; gi_at_call 42; refine (callsIn_wide.2 (all_makes _ _)).mono ?_; rintro e w' ⟨rfl, rfl⟩)
        generalize hmo : withoutN m i = mo at hwo
        obtain ⟨W0, hW0⟩ : ∃ W0, (((W.alloc (.cells #[.int .i64 (i : Nat)] 3)).drewN nq).alloc (.cells #[.int .u64 mo] 39)) = W0 := ⟨_, rfl⟩
        rw [hW0]
        have k1 : Blk W0 w.heap.size 23 #[.slice (some ad) n c] := by rw [← hW0]; exact (hn1.out.drewN nq).alloc _
        have k2 : Blk W0 O 22 #[.slice A' (covTo up i).length c'] := by rw [← hW0]; exact ((hk2.out.alloc _).drewN nq).alloc _
        have k3 : Blk W0 S 23 #[.slice (some ⟨g, 0, none⟩) n n] := by rw [← hW0]; exact ((hk3.out.alloc _).drewN nq).alloc _
        have k4 : Blk W0 g 39 (u64s (downs up)).toArray := by rw [← hW0]; exact ((hk4.out.alloc _).drewN nq).alloc _
        have k5 : Blk W0 W.heap.size 3 #[.int .i64 (i : Nat)] := by rw [← hW0]; exact ((Blk.new_at W _ _ _ rfl).drewN nq).alloc _
        have k6 : Blk W0 (W.heap.size + 1) 39 #[.int .u64 mo] := by rw [← hW0]; exact Blk.new_at _ _ _ _ (by simp [World.drewN])
        have k7 : W0.ownsRow (S + 1) 33 2 (.slice A' (covTo up i).length c') (covTo up i).length (pairVals (intP (covTo up i))) := by
          rw [← hW0]
          have h0 : ((W.alloc (.cells #[.int .i64 (i : Nat)] 3)).drewN nq).ownsRow (S + 1) 33 2 (.slice A' (covTo up i).length c') (covTo up i).length (pairVals (intP (covTo up i))) := hown.out.alloc _
          exact h0.alloc _
        have hsz : W0.heap.size = W.heap.size + 2 := by rw [← hW0]; simp [World.drewN]
        have hB0 : Below w.heap.size w W0 := by rw [← hW0]; exact (below_drewNs (hB.out.alloc hB.out.size _) nq).alloc (by have := hB.out.size; simp [World.drewN]; omega) _
        have hM0 : Marks w.heap.size W.heap.size W0 ds := by rw [← hW0]; exact ((hMk.out.keeps (KeepsOthers.alloc _ _)).keeps (keeps_drewN (KeepsOthers.refl _) nq)).keeps (KeepsOthers.alloc _ _)
        clear hW0
        have hmem : ∀ x ∈ bitsOf mo, x < n := by
          intro x hx
          rw [← hmo, ← hgm.out] at hx
          have h1 := ((mem_others hM.out (by omega)).1 hx).2
          unfold above at h1
          rw [Bool.and_eq_true] at h1
          have := hO.out.bd i x (by rw [hn.out]; exact hi) h1.2
          rwa [hn.out] at this
        have hdl : (downs up).length = n := by rw [length_downs, hn.out]
        have hdM := masks_downs (up := up) (by rw [hn.out]; exact h64)
        have hlen1 := covTo_len up i
        have hsucc := covTo_succ up i
        rw [hgm.out, hmo] at hsucc
        replace hsucc := Lib.hid hsucc
        replace hmem := Lib.hid hmem
        replace hmo := Lib.hid hmo
        replace hdl := Lib.hid hdl
        replace hdM := Lib.hid hdM
        have hst : CovAt w W ds ad n c O S g i (downs up) (covTo up i ++ covIn up i []) W0 := ⟨hM0, k1, ⟨A', c', by simpa [covIn] using k2, by simpa [covIn] using k7⟩, k3, k4, k5, by omega, hB0⟩
        refine wpIn_rangeFunc_ownG rfl (by omega) (gf := 50) (lb := #[.pointer (some ⟨W.heap.size + 1, 0, none⟩)]) rfl trivial (enters_of Tryd.func50 (by kernel_rfl) rfl)
          (all_stops 19 (by omega) mo hwo (W.heap.size + 1) w.heap.size _ hw0 (by omega) (hT.out.later hB0) k6.cell0) belowK_t (belowK_b (by have := hB.out.size; omega)) (Below.refl _ _) (fun _ => rfl)
          (fun pre X => CovAt w W ds ad n c O S g i (downs up) (covTo up i ++ covIn up i (pre.map (·.1))) X)
          (fun c pre X => False)
          ?hI ?hIx hst
          (fun x => { tmps := #[.slice (some ad) n c, .pointer (some ⟨w.heap.size, 0, none⟩), .slice none 0 0, .pointer (some ⟨O, 0, none⟩), .pointer (some ⟨S, 0, none⟩), .pointer (some ⟨W.heap.size, 0, none⟩), .int .i64 (x.1 : Nat), .slice (some ad) n c, .bool true, .bool false, .slice (some ad) n c, .slice (some ⟨g, 0, none⟩) n n, .slice (some ad) n c, .int .i64 (n : Nat), .int .i64 (i : Nat), .bool true, .int .i64 (i : Nat), .slice (some ad) n c, .int .i64 (i : Nat), .pointer (some (ad.add i)), .int .u64 m, .int .i64 (i : Nat), .int .u64 mo, .func (.func 50) #[] #[.pointer (some ⟨W.heap.size + 1, 0, none⟩)], .int .i64 (x.1 : Nat), v25, v26, v27, v28, v29, v30, v31, v32, v33, v34, v35, v36, v37, v38, v39, v40, v41, v42, v43], defers := [] }) ?assign ?body ?done ?stop
        case hI =>
          rintro s A' B' row ⟨h1, h2, ⟨A1, c1, h3, h4⟩, h5, h6, h7, h8, h9⟩ hg hr'
          exact ⟨h1.own (by omega) hg hr', h2.own hg (fun r e => (hr' r e).2), ⟨A1, c1, h3.own hg (fun r e => (hr' r e).2), ownsRow_own h4 hg (fun r e => (hr' r e).2)⟩, h5.own hg (fun r e => (hr' r e).2), h6.own hg (fun r e => (hr' r e).2), h7.own hg (fun r e => (hr' r e).2), Nat.le_trans h8 hg.size, ownFrom_below (β := Unit) (Nat.le_refl _) (by have := hB.out.size; omega) () A' B' row h9 hg hr'⟩
        case hIx => exact fun _ _ _ _ _ h => h.elim
        case assign =>
          intro l x X K hK
          gi_wp2
          simpa using hK
        case body =>
          rintro l pre x X ⟨h1, h2, ⟨A1, c1, h3, h4⟩, h5, h6, h7, h8, h9⟩ hlen
          have hxn := hmem.out x.1 x.2
          obtain ⟨ad', hA', hbk', hcX⟩ := reads_mask hn.out (hr.out.below h9) (k := i) hi
          injection hA' with hA'
          subst hA'
          rw [hgm.out] at hcX
          have hcd : X.cell? ⟨g, x.1, none⟩ = some (.int .u64 ((downs up).getD x.1 0 : Nat)) := by rw [h6.cell]; exact u64s_at _ _ (by rw [hdl.out]; exact hxn)
          have hdx := hdM.out x.1
          have hsn := covIn_snoc up i (pre.map (·.1)) x.1
          rw [hgm.out] at hsn
          have hll := covIn_len up i (pre.map (·.1))
          rw [List.length_map] at hll
          have hand := u64_and_eq m ((downs up).getD x.1 0) hm hdx
          have hlt4 : m &&& (downs up).getD x.1 0 < 2 ^ 64 := Nat.lt_of_le_of_lt Nat.and_le_left hm
          obtain ⟨L, hL⟩ : ∃ L, covTo up i ++ covIn up i (pre.map (·.1)) = L := ⟨_, rfl⟩
          have hLl : L.length ≤ 64 * i + 64 := by rw [← hL, List.length_append]; omega
          rw [hL] at h3 h4
          generalize (downs up).getD x.1 0 = d at *
          have hcl := countN_le (m &&& d)
          have q1 := h2.cell0
          have q2 := h3.cell0
          have q3 := h5.cell0
          have q5 := h7.cell0
          have hxn' : ((x.1 : Int) < (n : Int)) := by omega
          have hTX := Lib.hid (fun k => hT.out.later (below_drewNs h9 k))
          replace h1 := Lib.hid h1
          replace h2 := Lib.hid h2
          replace h3 := Lib.hid h3
          replace h4 := Lib.hid h4
          replace h5 := Lib.hid h5
          replace h6 := Lib.hid h6
          replace h7 := Lib.hid h7
          replace h9 := Lib.hid h9
          replace hL := Lib.hid hL
          replace hsn := Lib.hid hsn
          gi_wp2
          (refine wpIn_region_quiet_tail 9 (by kernel_rfl) (by kernel_rfl) ?_; simp only [List.take_succ_cons, List.take_zero, List.drop_succ_cons, List.drop_zero]; (repeat (first | gi_big_quiet_step (fail) | (refine wpQuietIn_pass (fun _ _ _ _ => trivial) (by rfl) rfl ?_; simp only [List.setIfInBounds_toArray, List.set_cons_succ, List.set_cons_zero]) | (refine wpQuietIn_step (fun _ _ _ _ => trivial) ?_; intro K hK; refine Eq.mpr (if_pos (by rfl)) ?_; gi_big_quiet_op; gi_big_quiet_call ((fail))))); refine wpQuietIn_nil ?_; intro _ hw'; obtain ⟨nq, hw''⟩ := hw'; subst hw'')
          obtain ⟨W1, hW1⟩ : ∃ W1, X.drewN nq = W1 := ⟨_, rfl⟩
          have f1 : Marks w.heap.size W.heap.size W1 ds := by rw [← hW1]; exact h1.out.keeps (keeps_drewN (KeepsOthers.refl _) nq)
          have f2 : Blk W1 w.heap.size 23 #[.slice (some ad) n c] := by rw [← hW1]; exact h2.out
          have f3 : Blk W1 O 22 #[.slice A1 L.length c1] := by rw [← hW1]; exact h3.out
          have f4 : W1.ownsRow (S + 1) 33 2 (.slice A1 L.length c1) L.length (pairVals (intP L)) := by rw [← hW1]; exact h4.out
          have f5 : Blk W1 S 23 #[.slice (some ⟨g, 0, none⟩) n n] := by rw [← hW1]; exact h5.out
          have f6 : Blk W1 g 39 (u64s (downs up)).toArray := by rw [← hW1]; exact h6.out
          have f7 : Blk W1 W.heap.size 3 #[.int .i64 (i : Nat)] := by rw [← hW1]; exact h7.out
          have f8 : X.heap.size = W1.heap.size := by rw [← hW1]; rfl
          have f9 : Below w.heap.size w W1 := by rw [← hW1]; exact below_drewNs h9.out nq
          have hkX : KeepsOthers X W1 := by rw [← hW1]; exact keeps_drewN (KeepsOthers.refl X) nq
          have hXW : Below w.heap.size X W1 := by rw [← hW1]; exact below_drewNs (Below.refl _ _) nq
          rw [hW1]
          clear hW1 q1 q2 q3 q5 hcX hcd
          have hS8 : S + 1 ≤ W1.heap.size := by omega
          have hT1 := Lib.hid (hT.out.later f9)
          replace hkX := Lib.hid hkX
          replace hXW := Lib.hid hXW
          replace f1 := Lib.hid f1
          replace f2 := Lib.hid f2
          replace f3 := Lib.hid f3
          replace f4 := Lib.hid f4
          replace f5 := Lib.hid f5
          replace f6 := Lib.hid f6
          replace f7 := Lib.hid f7
          replace f8 := Lib.hid f8
          replace f9 := Lib.hid f9
          by_cases hc2 : countN (m &&& d) = 2
          · have hne : (((countN (m &&& d) : Nat) : Int) == 2) = true := by rw [hc2]; rfl
            rw [if_pos hc2] at hsn
            gi_wp2_with (first | (refine ⟨trivial, ?_⟩; gi_at_call 41; refine (CallsIn.inRound l (callsIn_wide.2 (count_any _ hlt4 _ hT1.out))).mono ?_; rintro e w3 ⟨rfl, hb4⟩; have u3 := f3.out.below hb4 f3.out.lt; have u7 := f7.out.below hb4 f7.out.lt; have q3 := u3.cell0; have q7 := u7.cell0; have hb4h := Lib.hid hb4; replace u3 := Lib.hid u3; replace u7 := Lib.hid u7; have u4 := Lib.hid (ownsRow_below f4.out hb4h.out); have hbs4 := Nat.le_trans hS8 hb4h.out.size; clear hb4) | (gi_at_builtin; refine wpListIn_append_new w3 rfl _ _ 22 rfl (S + 1) 33 i0 (.agg #[.int .i64 0, .int .i64 0]) 2 16 Tryd.underlying22 hi0 hz0 hz1 hz2 rfl (by decide) (.slice A1 L.length c1) L.length (pairVals (intP L)) rfl u4.out 1 1 [.int .i64 (i : Nat), .int .i64 (x.1 : Nat)] rfl rfl (by simp [Value.oneCell']) (by omega) (by omega) hbs4 ?_; intro A2 c2 w4 hown2 hb5 hg5 hk5; have t3 := u3.out.grown hg5 (fun e => own_blk_ne u4.out u3.out (by decide) e.symm); have p3 := t3.cell0; have r3 := t3.frozen 0; replace t3 := Lib.hid t3; replace hown2 := Lib.hid hown2; replace hb5 := Lib.hid hb5; replace hk5 := Lib.hid hk5; replace hg5 := Lib.hid hg5))
            have hwS : w.heap.size ≤ S + 1 := by simp at hg; omega
            have hwO : w.heap.size < O := by omega
            have hkk := (keeps_below hb4h.out).trans (hk5.out.trans (KeepsOthers.setCell w4 ⟨O, 0, none⟩ (.slice A2 (L.length + 1) c2)))
            have hbb := (hb4h.out.mono f9.out.size).trans ((hb5.out.mono hwS).setCell (p := ⟨O, 0, none⟩) (by simp; omega) (.slice A2 (L.length + 1) c2))
            have hfar : ∀ (G : Nat) (t : TypeId) (cs : Array Value), Blk W1 G t cs → 33 ≠ t → G ≠ O → Blk (w4.setCell ⟨O, 0, none⟩ (.slice A2 (L.length + 1) c2)) G t cs := by
              intro G t cs hG hne hGO
              have h0 := hG.below hb4h.out hG.lt
              exact (h0.grown hg5.out (fun e => own_blk_ne u4.out h0 hne e.symm)).far hGO _
            have hsz5 := hb5.out.size
            have hsz4 := hb4h.out.size
            have hz8 := f8.out
            have hLn : covTo up i ++ covIn up i ((pre ++ [x]).map (·.1)) = L ++ [(i, x.1)] := by
              rw [List.map_append, List.map_cons, List.map_nil, hsn.out, ← List.append_assoc, hL.out]
            have hpv : pairVals (intP L) ++ [Value.int .i64 (i : Nat), Value.int .i64 (x.1 : Nat)] = pairVals (intP (L ++ [(i, x.1)])) := by
              rw [intP_append]
              unfold pairVals
              rw [List.flatMap_append]
              rfl
            refine ⟨(hkX.out.trans hkk).from _, hXW.out.trans hbb, f1.out.keeps hkk, hfar _ _ _ f2.out (by decide) (by omega), ⟨A2, c2, ?_, ?_⟩, hfar _ _ _ f5.out (by decide) (by omega), hfar _ _ _ f6.out (by decide) (by omega), hfar _ _ _ f7.out (by decide) (by omega), by simp [World.setCell]; omega, f9.out.trans hbb⟩
            · rw [hLn, List.length_append]
              exact t3.out.set0 _
            · rw [hLn, List.length_append, ← hpv]
              exact ownsRow_setCell hown2.out (own_blk_ne hown2.out t3.out (by decide)) _
          · have hne : (((countN (m &&& d) : Nat) : Int) == 2) = false := by simp; omega
            rw [if_neg hc2, List.append_nil] at hsn
            gi_wp2_with (refine ⟨trivial, ?_⟩; gi_at_call 41; refine (CallsIn.inRound l (callsIn_wide.2 (count_any _ hlt4 _ hT1.out))).mono ?_; rintro e w3 ⟨rfl, hb4⟩; replace hb4 := Lib.hid hb4)
            have hz := hb4.out.size
            have hz8 := f8.out
            have hkk := keeps_below hb4.out
            refine ⟨(hkX.out.trans hkk).from _, hXW.out.trans (hb4.out.mono f9.out.size), f1.out.keeps hkk, f2.out.below hb4.out f2.out.lt, ⟨A1, c1, ?_, ?_⟩, f5.out.below hb4.out f5.out.lt, f6.out.below hb4.out f6.out.lt, f7.out.below hb4.out f7.out.lt, by omega, f9.out.trans (hb4.out.mono f9.out.size)⟩
            · rw [List.map_append, List.map_cons, List.map_nil, hsn.out, hL.out]
              exact f3.out.below hb4.out f3.out.lt
            · rw [List.map_append, List.map_cons, List.map_nil, hsn.out, hL.out]
              exact ownsRow_below f4.out hb4.out
        case done =>
          rintro D ys X hD hys ⟨h1, h2, ⟨A1, c1, h3, h4⟩, h5, h6, h7, h8, h9⟩ hK
          have hmk' := Lib.hid (h1.cons (by omega) (by omega) hK)
          rw [hys, ← hsucc.out] at h3 h4
          replace h2 := Lib.hid h2
          replace h3 := Lib.hid h3
          replace h4 := Lib.hid h4
          replace h5 := Lib.hid h5
          replace h6 := Lib.hid h6
          replace h9 := Lib.hid h9
          clear h1 hK hys
          gi_wp2
          rw [hI1.out]
          refine ⟨⟨i + 1, _, A1, c1, _, _, _, _, _, _, _, _, _, _, _, _, _, _, _, _, _, _, _, _, _, _, _, _, _, _, _, _, _, _, _, by omega, rfl, hmk'.out, h2.out, h3.out, h5.out, h6.out, h4.out, by omega, h9.out⟩, ?_⟩
          simp only [slotNat, List.getElem?_toArray, List.getElem?_cons_succ, List.getElem?_cons_zero, Int.toNat_natCast]
          omega
        case stop => exact fun _ _ _ _ _ _ h => h.elim
      · have hie : i = n := by omega
        have hlt : ¬ ((i : Int) < (n : Int)) := by omega
        have hce : covTo up i = coversL up := by rw [hie, ← hn.out]; exact hcov.out
        rw [hce] at hk2 hown
        have c2 := hk2.cell0
        replace hMk := Lib.hid hMk
        replace hk1 := Lib.hid hk1
        replace hk2 := Lib.hid hk2
        replace hk3 := Lib.hid hk3
        replace hk4 := Lib.hid hk4
        replace hown := Lib.hid hown
        replace hB := Lib.hid hB
        gi_wp2
        refine leaves_of_marks hMk.out ?_
        intro W' hW'
        exact ⟨_, by simp [results, Tryd.f24, go_sem], A', c', rfl, ownsRow_less (hW'.own _ _ _ _ _ _ hown.out) (by omega), hB.out.trans hW'.below⟩

end Go.Proofs.YtaclogfchlphlaaDoor
