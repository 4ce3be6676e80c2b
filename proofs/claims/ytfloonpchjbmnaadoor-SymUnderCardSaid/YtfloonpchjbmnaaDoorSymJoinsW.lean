/- The walk of SymJoins. -/
import Derived.Deep.RegionHeld3
import Derived.Deep.DeepCutAuto
import Derived.Test.YtfloonpchjbmnaaDoorQc
import Derived.Test.YtfloonpchjbmnaaDoorSa
import Derived.Test.YtfloonpchjbmnaaDoorSr
import Derived.Test.YtfloonpchjbmnaaDoorRt
namespace Go.Proofs.YtfloonpchjbmnaaDoor
open Go.RowKit Go.Shelf Go.Idl
attribute [local go_sem] label_equalIn

theorem u64s_one (l : List Nat) : ∀ u ∈ u64s l, u.oneCell' = true := by
  intro u hu
  unfold u64s at hu
  obtain ⟨p, _, h⟩ := List.mem_map.1 hu
  rw [← h]
  rfl
theorem bothL_of_good {up : List Nat} {a b : Int} (h1 : latB up = true) (h2 : goodB up a = true) (h3 : goodB up b = true) : bothL up a b = true := by
  unfold goodB at h2 h3
  simp only [Bool.and_eq_true, decide_eq_true_eq] at h2 h3
  exact bothL_iff.2 ⟨h2.1, h3.1, h2.2, h3.2, h1⟩
theorem own_empty {w : World} {base g size : Nat} {e : TypeId} (h : Blk w g e #[]) (hb : base ≤ g) : w.ownsRow base e size (.slice (some ⟨g, 0, none⟩) 0 0) 0 [] :=
  ⟨by simp, .inr ⟨g, 0, #[], rfl, hb, h, Nat.le_refl _, Nat.zero_le _, by simp, by simp⟩⟩

set_option maxHeartbeats 4000000 in
theorem walkSymJoins (A : Option Addr) (n c : Nat) (up : List Nat) (a b : Lb) (w : World) (hT : Tab w) (hn : up.length = n) (hn63 : n ≤ maxLen) (hM : Masks up) (hr : Reads w w.heap.size 1 A n (u64s up)) (ha : a.ms < 2 ^ 64) (hb : b.ms < 2 ^ 64) :
    Calls Tryd.prog 6 #[.slice A n c, lbV a, lbV b] w fun e w' => e = .returned (.bool true) ∧ Below w.heap.size w w' := by
  have hml : maxLen = 9223372036854775807 := rfl
  obtain ⟨av, am⟩ := a
  obtain ⟨bv, bm⟩ := b
  dsimp only at ha hb ⊢
  obtain ⟨X, hX⟩ : ∃ X, (w.alloc (.cells #[.int .i64 av, .int .u64 (am : Nat)] 25)).alloc (.cells #[.int .i64 bv, .int .u64 (bm : Nat)] 25) = X := ⟨_, rfl⟩
  have k0 : Blk X w.heap.size 25 #[.int .i64 av, .int .u64 (am : Nat)] := by rw [← hX]; exact (Blk.new w _ _).alloc _
  have k1 : Blk X (w.heap.size + 1) 25 #[.int .i64 bv, .int .u64 (bm : Nat)] := by rw [← hX]; exact Blk.new_at _ _ _ _ (by simp)
  have hsz : X.heap.size = w.heap.size + 2 := by rw [← hX]; simp
  have hB0 : Below w.heap.size w X := by rw [← hX]; exact ((Below.refl _ w).alloc (Nat.le_refl _) _).alloc (by simp) _
  obtain ⟨p0, p1⟩ := pair_cells k0
  obtain ⟨p2, p3⟩ := pair_cells k1
  obtain ⟨i0, hi0, hz0, hz1, hz2⟩ := info_parts u64_info
  have h1 := Lib.hid (u64s_one up)
  have hrX := Lib.hid (show Reads X (w.heap.size + 2) 1 A n (u64s up) from (hr.below hB0).more (by omega))
  have hTX := Lib.hid (hT.later hB0)
  have hcell := Lib.hid (fun (W : World) (p : Addr) (v : Value) (h : Below (w.heap.size + 2) X W) (hp : p.block < w.heap.size + 2) (hv : X.cell? p = some v) => (h.cell hp).trans hv)
  replace hr := Lib.hid hr
  replace hT := Lib.hid hT
  replace hn := Lib.hid hn
  replace hM := Lib.hid hM
  replace k0 := Lib.hid k0
  replace k1 := Lib.hid k1
  replace hB0 := Lib.hid hB0
  by_cases hbig : 20 < n
  · have h2 : ((20 : Int) < (n : Int)) := by omega
    go_enter Tryd.func6, Tryd.ntmps6
    go_wp2
    go_ret
    exact ⟨rfl, hB0.out⟩
  have h2 : ¬ ((20 : Int) < (n : Int)) := by omega
  go_enter Tryd.func6, Tryd.ntmps6
  go_upto_region 3 with fail
  go_cut [7, 8] (fun s7 s8 wx => ∃ g : Nat, s7 = .pointer (some ⟨g, 0, none⟩) ∧ s8 = .bool (bothL up av bv) ∧ Blk wx g 25 #[.int .i64 (sjL up ⟨av, am⟩ ⟨bv, bm⟩).lv, .int .u64 ((sjL up ⟨av, am⟩ ⟨bv, bm⟩).ms : Nat)] ∧ w.heap.size + 2 ≤ g ∧ Below (w.heap.size + 2) X wx)
  case first =>
    go_region_held3 (fun w' => w'.cell? ⟨w.heap.size, 0, none⟩ = some (.int .i64 av) ∧ w'.cell? ⟨w.heap.size, 1, none⟩ = some (.int .u64 (am : Nat)) ∧ w'.cell? ⟨w.heap.size + 1, 0, none⟩ = some (.int .i64 bv) ∧ w'.cell? ⟨w.heap.size + 1, 1, none⟩ = some (.int .u64 (bm : Nat)))
      (first
        | (refine ⟨?_, ?_, ?_, ?_⟩ <;> (refine hcell.out _ _ _ ?_ (by simp <;> omega) (by assumption); (repeat (first | with_reducible exact hb2.out | with_reducible exact hb1.out | with_reducible exact Below.refl _ _ | with_reducible refine Below.drew ?_ | (with_reducible refine Below.alloc ?_ ?_ _; rotate_left; · first | omega | (simp <;> omega)) | (with_reducible refine Below.setCell ?_ ?_ _; rotate_left; · first | omega | (simp <;> omega))))))
        | (refine ⟨?_, ?_, ?_⟩ <;> (refine hcell.out _ _ _ ?_ (by simp <;> omega) (by assumption); (repeat (first | with_reducible exact hb2.out | with_reducible exact hb1.out | with_reducible exact Below.refl _ _ | with_reducible refine Below.drew ?_ | (with_reducible refine Below.alloc ?_ ?_ _; rotate_left; · first | omega | (simp <;> omega)) | (with_reducible refine Below.setCell ?_ ?_ _; rotate_left; · first | omega | (simp <;> omega))))))
        | (refine ⟨?_, ?_⟩ <;> (refine hcell.out _ _ _ ?_ (by simp <;> omega) (by assumption); (repeat (first | with_reducible exact hb2.out | with_reducible exact hb1.out | with_reducible exact Below.refl _ _ | with_reducible refine Below.drew ?_ | (with_reducible refine Below.alloc ?_ ?_ _; rotate_left; · first | omega | (simp <;> omega)) | (with_reducible refine Below.setCell ?_ ?_ _; rotate_left; · first | omega | (simp <;> omega))))))
        | (refine hcell.out _ _ _ ?_ (by simp <;> omega) (by assumption); (repeat (first | with_reducible exact hb2.out | with_reducible exact hb1.out | with_reducible exact Below.refl _ _ | with_reducible refine Below.drew ?_ | (with_reducible refine Below.alloc ?_ ?_ _; rotate_left; · first | omega | (simp <;> omega)) | (with_reducible refine Below.setCell ?_ ?_ _; rotate_left; · first | omega | (simp <;> omega)))))
        | go_keep)
      (first
        | (refine step_append_any _ (by rfl) _ _ _ (by rfl) (w.heap.size + 2) 23 i0 _ 1 8 Tryd.underlying22 hi0 hz0 hz1 hz2 rfl (by decide) (.slice (some ⟨_, 0, none⟩) 0 0) 0 [] (by rfl) (own_empty (base := w.heap.size + 2) (g := _) (by first | exact Blk.new_at _ _ _ _ (by simp [hsz]) | exact (Blk.new_at _ _ _ _ (by simp [hsz])).alloc _) (by simp)) (w.heap.size + 2) A n c (u64s up) (by rfl) (by first | exact hrX.out.alloc (by omega) _ | exact (hrX.out.alloc (by omega) _).alloc (by simp; omega) _) h1.out (by omega) (by omega) (by simp; omega) ?_
           intro v1 w1 hown1 hg1 hat1
           rw [Nat.zero_add, List.nil_append] at hown1
           obtain ⟨A1, c1, rfl⟩ := ownsRow_slice hown1
           have hb1 := Lib.hid ((show Below (w.heap.size + 2) X _ by first | exact ((Below.refl _ _).alloc (by omega) _).drew | exact (((Below.refl _ _).alloc (by omega) _).alloc (by simp; omega) _).drew | exact (((Below.refl _ _).alloc (by omega) _).drew.alloc (by simp; omega) _).drew).grown hg1 (by simp; omega) (fun j hj => by simp [Value.ownBlock] at hj; omega))
           have hrA := Lib.hid (Reads.of_own hown1)
           have hs1 := hb1.out.size
           have hgr := hg1.size
           replace hown1 := Lib.hid hown1
           first
             | have kL := Blk.grown (g := w.heap.size + 3) (t := 25) (cs := #[.int .i64 0, .int .u64 0]) (by exact Blk.new_at _ _ _ _ (by simp [hsz])) hg1 (by simp [Value.ownBlock])
             | have kL := Blk.grown (g := w.heap.size + 2) (t := 25) (cs := #[.int .i64 0, .int .u64 0]) (by exact (Blk.new_at _ _ _ _ (by simp [hsz])).alloc _) hg1 (by simp [Value.ownBlock])
             | skip
           clear hg1 hat1)
        | (go_at_call 19
           refine (sjoin_any A1 n c1 up ⟨av, am⟩ ⟨bv, bm⟩ _ ?_ hn.out hn63 hM.out ?_ ha hb).mono ?_
           · exact hTX.out.later (by rw [hsz]; (repeat (first | with_reducible exact hb2.out | with_reducible exact hb1.out | with_reducible exact Below.refl _ _ | with_reducible refine Below.drew ?_ | (with_reducible refine Below.alloc ?_ ?_ _; rotate_left; · first | omega | (simp <;> omega)) | (with_reducible refine Below.setCell ?_ ?_ _; rotate_left; · first | omega | (simp <;> omega)))))
           · first | exact hrA.out | exact (hrA.out.alloc (Nat.le_refl _) _).more (by simp)
           rintro e w2 ⟨rfl, hb2'⟩
           have hs2 := hb2'.size
           have hb2 := Lib.hid (Below.trans (show Below (w.heap.size + 2) X _ by (repeat (first | with_reducible exact hb2.out | with_reducible exact hb1.out | with_reducible exact Below.refl _ _ | with_reducible refine Below.drew ?_ | (with_reducible refine Below.alloc ?_ ?_ _; rotate_left; · first | omega | (simp <;> omega)) | (with_reducible refine Below.setCell ?_ ?_ _; rotate_left; · first | omega | (simp <;> omega))))) (hb2'.mono (by first | omega | (simp <;> omega))))
           first
             | (have kM := kL.below hb2' kL.lt; replace kL := Lib.hid kL; have kf0 := kM.frozen 0; have kf1 := kM.frozen 1; obtain ⟨q0, q1⟩ := pair_cells kM; replace kM := Lib.hid kM)
             | (have kM := Blk.below (Blk.new_at _ 25 #[.int .i64 0, .int .u64 0] w1.heap.size (by simp)) hb2' (by simp); have kf0 := kM.frozen 0; have kf1 := kM.frozen 1; obtain ⟨q0, q1⟩ := pair_cells kM; replace kM := Lib.hid kM)
             | skip
           clear hb2'))
    all_goals (go_wp2_with fail; go_meet)
    all_goals (first | exact ⟨_, rfl, rfl, Blk.new _ _ _, (by first | omega | (simp <;> omega)), by (repeat (first | with_reducible exact hb2.out | with_reducible exact hb1.out | with_reducible exact Below.refl _ _ | with_reducible refine Below.drew ?_ | (with_reducible refine Below.alloc ?_ ?_ _; rotate_left; · first | omega | (simp <;> omega)) | (with_reducible refine Below.setCell ?_ ?_ _; rotate_left; · first | omega | (simp <;> omega))))⟩ | exact ⟨_, rfl, rfl, pair_set kM.out _ _, (by first | omega | (simp <;> omega)), by (repeat (first | with_reducible exact hb2.out | with_reducible exact hb1.out | with_reducible exact Below.refl _ _ | with_reducible refine Below.drew ?_ | (with_reducible refine Below.alloc ?_ ?_ _; rotate_left; · first | omega | (simp <;> omega)) | (with_reducible refine Below.setCell ?_ ?_ _; rotate_left; · first | omega | (simp <;> omega))))⟩)
  case rest =>
    obtain ⟨g, rfl, rfl, kg, hgs, hY⟩ := hcut
    obtain ⟨Y, hY0, rfl⟩ : ∃ Y, Below (w.heap.size + 2) X Y ∧ Y = _ := ⟨_, hY, rfl⟩
    clear hY0
    have hYs := hY.size
    have hYs' : w.heap.size + 2 ≤ Y.heap.size := by omega
    have kgl := kg.lt
    have hrY := Lib.hid (show Reads Y Y.heap.size 1 A n (u64s up) from (hrX.out.below hY).more (by omega))
    have hTY := Lib.hid (hTX.out.later (hsz.symm ▸ hY))
    have y0 := hcell.out _ _ _ hY (by simp) p0
    have y1 := hcell.out _ _ _ hY (by simp) p1
    have y2 := hcell.out _ _ _ hY (by simp) p2
    have y3 := hcell.out _ _ _ hY (by simp) p3
    replace hY := Lib.hid hY
    replace kg := Lib.hid kg
    go_wp2
    go_region_held3 (fun w' => w'.cell? ⟨w.heap.size, 0, none⟩ = some (.int .i64 av) ∧ w'.cell? ⟨w.heap.size, 1, none⟩ = some (.int .u64 (am : Nat)) ∧ w'.cell? ⟨w.heap.size + 1, 0, none⟩ = some (.int .i64 bv) ∧ w'.cell? ⟨w.heap.size + 1, 1, none⟩ = some (.int .u64 (bm : Nat)))
      (first
        | (refine ⟨?_, ?_, ?_, ?_⟩ <;> (refine hcell.out _ _ _ ?_ (by simp <;> omega) (by assumption); first | with_reducible exact hB4.out | with_reducible exact hB3.out | with_reducible exact (hY.out.alloc hYs' _) | with_reducible exact (hY.out.alloc hYs' _).drew))
        | go_keep)
      (first
        | (refine step_append_any _ (by rfl) _ _ _ (by rfl) Y.heap.size 23 i0 _ 1 8 Tryd.underlying22 hi0 hz0 hz1 hz2 rfl (by decide) (.slice (some ⟨_, 0, none⟩) 0 0) 0 [] (by rfl) (own_empty (base := Y.heap.size) (g := _) (by exact Blk.new_at _ _ _ _ (by simp)) (by simp)) Y.heap.size A n c (u64s up) (by rfl) (by exact hrY.out.alloc (by omega) _) h1.out (by omega) (by omega) (by simp) ?_
           intro v3 w3 hown3 hg3 hat3
           rw [Nat.zero_add, List.nil_append] at hown3
           obtain ⟨A3, c3, rfl⟩ := ownsRow_slice hown3
           have hb3 := Lib.hid (((Below.refl Y.heap.size Y).alloc (Nat.le_refl _) _).drew.grown hg3 (by simp) (fun j hj => by simp [Value.ownBlock] at hj; omega))
           have hr3 := Lib.hid (Reads.of_own hown3)
           have hB3 := Lib.hid (hY.out.trans (hb3.out.mono hYs'))
           have hs3 := hB3.out.size
           replace hown3 := Lib.hid hown3
           clear hg3 hat3)
        | (go_at_call 20
           refine (sleq_any A3 n c3 up ⟨av, am⟩ ⟨bv, bm⟩ _ (hTY.out.later hb3.out) hn.out hn63 hM.out hr3.out ha hb).mono ?_
           rintro e w4 ⟨rfl, hb4'⟩
           have hb4 := Lib.hid (hb3.out.trans (hb4'.mono hb3.out.size))
           have hB4 := Lib.hid (hY.out.trans (hb4.out.mono hYs'))
           clear hb4'))
    have hy := Lib.hid (fun (W : World) (p : Addr) (v : Value) (h : Below Y.heap.size Y W) (hp : p.block < Y.heap.size) (hv : Y.cell? p = some v) => (h.cell hp).trans hv)
    clear hown3 hr3 hb3 hB3 hs3
    by_cases hq : bothL up av bv = true
    case neg =>
      have hq2 : bothL up av bv = false := by simpa using hq
      have hx : sjL up ⟨av, am⟩ ⟨bv, bm⟩ = ⟨0, 0⟩ := by unfold sjL; rw [if_neg hq]
      have hs : slB up ⟨av, am⟩ ⟨bv, bm⟩ = false := by unfold slB; rw [hq2]; rfl
      have kg' := kg.out
      rw [hx] at kg'
      obtain ⟨g0, g1⟩ := pair_cells kg'
      rw [hq2, hs]
      have hbad : latB up = false ∨ (latB up = true ∧ (goodB up av = false ∨ (goodB up av = true ∧ goodB up bv = false))) := by
        have := fun h1 h2 h3 => hq (bothL_of_good h1 h2 h3)
        cases h1 : latB up <;> cases h2 : goodB up av <;> cases h3 : goodB up bv <;> simp_all
      replace hx := Lib.hid hx
      replace hs := Lib.hid hs
      replace hq2 := Lib.hid hq2
      replace kg' := Lib.hid kg'
      clear hq kg hcell
      have z0_4 := hy.out _ _ _ hb4.out (by simp <;> omega) y0
      have z1_4 := hy.out _ _ _ hb4.out (by simp <;> omega) y1
      have z2_4 := hy.out _ _ _ hb4.out (by simp <;> omega) y2
      have z3_4 := hy.out _ _ _ hb4.out (by simp <;> omega) y3
      have z4_4 := hy.out _ _ _ hb4.out (by simp <;> omega) g0
      have z5_4 := hy.out _ _ _ hb4.out (by simp <;> omega) g1
      rcases hbad with hl | ⟨hl, ha' | ⟨ha', hb''⟩⟩
      · replace hl := Lib.hid hl
        go_wp2_with fail
        refine (rright_any A n c up w4 hn.out hn63 hM.out ((hrY.out.below hb4.out).more hb4.out.size)).mono ?_
        rintro e w5 ⟨rfl, hb⟩
        have hb5 := Lib.hid (hb4.out.trans (hb.mono hb4.out.size))
        clear hb z0_4 z1_4 z2_4 z3_4 z4_4 z5_4
        have z0_5 := hy.out _ _ _ hb5.out (by simp <;> omega) y0
        have z1_5 := hy.out _ _ _ hb5.out (by simp <;> omega) y1
        have z2_5 := hy.out _ _ _ hb5.out (by simp <;> omega) y2
        have z3_5 := hy.out _ _ _ hb5.out (by simp <;> omega) y3
        have z4_5 := hy.out _ _ _ hb5.out (by simp <;> omega) g0
        have z5_5 := hy.out _ _ _ hb5.out (by simp <;> omega) g1
        rw [hl.out]
        go_wp2_with fail
        refine (awake_any w5 (hTY.out.later hb5.out)).mono ?_
        rintro e w6 ⟨rfl, hb⟩
        have hb6 := Lib.hid (hb5.out.trans (hb.mono hb5.out.size))
        replace hb := Lib.hid hb
        go_wp2_with fail
        go_ret
        exact ⟨rfl, hB0.out.trans ((hY.out.mono (by omega)).trans (hb6.out.mono (by omega)))⟩
      · replace hl := Lib.hid hl
        replace ha' := Lib.hid ha'
        go_wp2_with fail
        refine (rright_any A n c up w4 hn.out hn63 hM.out ((hrY.out.below hb4.out).more hb4.out.size)).mono ?_
        rintro e w5 ⟨rfl, hb⟩
        have hb5 := Lib.hid (hb4.out.trans (hb.mono hb4.out.size))
        clear hb z0_4 z1_4 z2_4 z3_4 z4_4 z5_4
        have z0_5 := hy.out _ _ _ hb5.out (by simp <;> omega) y0
        have z1_5 := hy.out _ _ _ hb5.out (by simp <;> omega) y1
        have z2_5 := hy.out _ _ _ hb5.out (by simp <;> omega) y2
        have z3_5 := hy.out _ _ _ hb5.out (by simp <;> omega) y3
        have z4_5 := hy.out _ _ _ hb5.out (by simp <;> omega) g0
        have z5_5 := hy.out _ _ _ hb5.out (by simp <;> omega) g1
        rw [hl.out]
        go_wp2_with fail
        refine (good_any A n c up ⟨av, am⟩ w5 hn.out).mono ?_
        rintro e w6 ⟨rfl, hb⟩
        have hb6 := Lib.hid (hb5.out.trans (hb.mono hb5.out.size))
        clear hb z0_5 z1_5 z2_5 z3_5 z4_5 z5_5
        have z0_6 := hy.out _ _ _ hb6.out (by simp <;> omega) y0
        have z1_6 := hy.out _ _ _ hb6.out (by simp <;> omega) y1
        have z2_6 := hy.out _ _ _ hb6.out (by simp <;> omega) y2
        have z3_6 := hy.out _ _ _ hb6.out (by simp <;> omega) y3
        have z4_6 := hy.out _ _ _ hb6.out (by simp <;> omega) g0
        have z5_6 := hy.out _ _ _ hb6.out (by simp <;> omega) g1
        rw [ha'.out]
        go_wp2_with fail
        refine (awake_any w6 (hTY.out.later hb6.out)).mono ?_
        rintro e w7 ⟨rfl, hb⟩
        have hb7 := Lib.hid (hb6.out.trans (hb.mono hb6.out.size))
        replace hb := Lib.hid hb
        go_wp2_with fail
        go_ret
        exact ⟨rfl, hB0.out.trans ((hY.out.mono (by omega)).trans (hb7.out.mono (by omega)))⟩
      · replace hl := Lib.hid hl
        replace ha' := Lib.hid ha'
        replace hb'' := Lib.hid hb''
        go_wp2_with fail
        refine (rright_any A n c up w4 hn.out hn63 hM.out ((hrY.out.below hb4.out).more hb4.out.size)).mono ?_
        rintro e w5 ⟨rfl, hb⟩
        have hb5 := Lib.hid (hb4.out.trans (hb.mono hb4.out.size))
        clear hb z0_4 z1_4 z2_4 z3_4 z4_4 z5_4
        have z0_5 := hy.out _ _ _ hb5.out (by simp <;> omega) y0
        have z1_5 := hy.out _ _ _ hb5.out (by simp <;> omega) y1
        have z2_5 := hy.out _ _ _ hb5.out (by simp <;> omega) y2
        have z3_5 := hy.out _ _ _ hb5.out (by simp <;> omega) y3
        have z4_5 := hy.out _ _ _ hb5.out (by simp <;> omega) g0
        have z5_5 := hy.out _ _ _ hb5.out (by simp <;> omega) g1
        rw [hl.out]
        go_wp2_with fail
        refine (good_any A n c up ⟨av, am⟩ w5 hn.out).mono ?_
        rintro e w6 ⟨rfl, hb⟩
        have hb6 := Lib.hid (hb5.out.trans (hb.mono hb5.out.size))
        clear hb z0_5 z1_5 z2_5 z3_5 z4_5 z5_5
        have z0_6 := hy.out _ _ _ hb6.out (by simp <;> omega) y0
        have z1_6 := hy.out _ _ _ hb6.out (by simp <;> omega) y1
        have z2_6 := hy.out _ _ _ hb6.out (by simp <;> omega) y2
        have z3_6 := hy.out _ _ _ hb6.out (by simp <;> omega) y3
        have z4_6 := hy.out _ _ _ hb6.out (by simp <;> omega) g0
        have z5_6 := hy.out _ _ _ hb6.out (by simp <;> omega) g1
        rw [ha'.out]
        go_wp2_with fail
        refine (good_any A n c up ⟨bv, bm⟩ w6 hn.out).mono ?_
        rintro e w7 ⟨rfl, hb⟩
        have hb7 := Lib.hid (hb6.out.trans (hb.mono hb6.out.size))
        clear hb z0_6 z1_6 z2_6 z3_6 z4_6 z5_6
        have z0_7 := hy.out _ _ _ hb7.out (by simp <;> omega) y0
        have z1_7 := hy.out _ _ _ hb7.out (by simp <;> omega) y1
        have z2_7 := hy.out _ _ _ hb7.out (by simp <;> omega) y2
        have z3_7 := hy.out _ _ _ hb7.out (by simp <;> omega) y3
        have z4_7 := hy.out _ _ _ hb7.out (by simp <;> omega) g0
        have z5_7 := hy.out _ _ _ hb7.out (by simp <;> omega) g1
        rw [hb''.out]
        go_wp2_with fail
        refine (awake_any w7 (hTY.out.later hb7.out)).mono ?_
        rintro e w8 ⟨rfl, hb⟩
        have hb8 := Lib.hid (hb7.out.trans (hb.mono hb7.out.size))
        replace hb := Lib.hid hb
        go_wp2_with fail
        go_ret
        exact ⟨rfl, hB0.out.trans ((hY.out.mono (by omega)).trans (hb8.out.mono (by omega)))⟩
    case pos =>
      have hx : sjL up ⟨av, am⟩ ⟨bv, bm⟩ = joinL up ⟨av, am⟩ ⟨bv, bm⟩ := by unfold sjL; rw [if_pos hq]
      have hs : slB up ⟨av, am⟩ ⟨bv, bm⟩ = leL up ⟨av, am⟩ ⟨bv, bm⟩ := by unfold slB; rw [hq]; rfl
      obtain ⟨b1, b2, b3, b4, hl⟩ := bothL_iff.1 hq
      have ga : goodB up av = true := by unfold goodB; simp only [Bool.and_eq_true, decide_eq_true_eq]; exact ⟨b1, b3⟩
      have gb : goodB up bv = true := by unfold goodB; simp only [Bool.and_eq_true, decide_eq_true_eq]; exact ⟨b2, b4⟩
      have h64 : n ≤ 64 := by omega
      have kg' := kg.out
      rw [hx] at kg'
      rw [hq, hs]
      have hRJ := fun (W : World) (hr : Reads W W.heap.size 1 A n (u64s up)) => rjoinL_any A n c up ⟨av, am⟩ ⟨bv, bm⟩ W hn.out h64 hM.out hr (gd_iff (l := ⟨av, am⟩).1 ga) (gd_iff (l := ⟨bv, bm⟩).1 gb) ha hb
      have hRL := fun (W : World) (hr : Reads W W.heap.size 1 A n (u64s up)) => rleqL_any A n c up ⟨av, am⟩ ⟨bv, bm⟩ W hn.out h64 hM.out hr (gd_iff (l := ⟨av, am⟩).1 ga) (gd_iff (l := ⟨bv, bm⟩).1 gb) ha hb
      simp only [lbV] at hRJ hRL
      generalize joinL up ⟨av, am⟩ ⟨bv, bm⟩ = x at *
      generalize leL up ⟨av, am⟩ ⟨bv, bm⟩ = s at *
      obtain ⟨xv, xm⟩ := x
      dsimp only at kg'
      obtain ⟨g0, g1⟩ := pair_cells kg'
      replace hx := Lib.hid hx
      replace hs := Lib.hid hs
      replace hl := Lib.hid hl
      replace ga := Lib.hid ga
      replace gb := Lib.hid gb
      replace kg' := Lib.hid kg'
      replace hRJ := Lib.hid hRJ
      replace hRL := Lib.hid hRL
      replace hq := Lib.hid hq
      clear kg hcell b1 b2 b3 b4
      have z0_4 := hy.out _ _ _ hb4.out (by simp <;> omega) y0
      have z1_4 := hy.out _ _ _ hb4.out (by simp <;> omega) y1
      have z2_4 := hy.out _ _ _ hb4.out (by simp <;> omega) y2
      have z3_4 := hy.out _ _ _ hb4.out (by simp <;> omega) y3
      have z4_4 := hy.out _ _ _ hb4.out (by simp <;> omega) g0
      have z5_4 := hy.out _ _ _ hb4.out (by simp <;> omega) g1
      go_wp2_with fail
      refine (rright_any A n c up w4 hn.out hn63 hM.out ((hrY.out.below hb4.out).more hb4.out.size)).mono ?_
      rintro e w5 ⟨rfl, hb⟩
      have hb5 := Lib.hid (hb4.out.trans (hb.mono hb4.out.size))
      clear hb z0_4 z1_4 z2_4 z3_4 z4_4 z5_4
      have z0_5 := hy.out _ _ _ hb5.out (by simp <;> omega) y0
      have z1_5 := hy.out _ _ _ hb5.out (by simp <;> omega) y1
      have z2_5 := hy.out _ _ _ hb5.out (by simp <;> omega) y2
      have z3_5 := hy.out _ _ _ hb5.out (by simp <;> omega) y3
      have z4_5 := hy.out _ _ _ hb5.out (by simp <;> omega) g0
      have z5_5 := hy.out _ _ _ hb5.out (by simp <;> omega) g1
      rw [hl.out]
      go_wp2_with fail
      refine (good_any A n c up ⟨av, am⟩ w5 hn.out).mono ?_
      rintro e w6 ⟨rfl, hb⟩
      have hb6 := Lib.hid (hb5.out.trans (hb.mono hb5.out.size))
      clear hb z0_5 z1_5 z2_5 z3_5 z4_5 z5_5
      have z0_6 := hy.out _ _ _ hb6.out (by simp <;> omega) y0
      have z1_6 := hy.out _ _ _ hb6.out (by simp <;> omega) y1
      have z2_6 := hy.out _ _ _ hb6.out (by simp <;> omega) y2
      have z3_6 := hy.out _ _ _ hb6.out (by simp <;> omega) y3
      have z4_6 := hy.out _ _ _ hb6.out (by simp <;> omega) g0
      have z5_6 := hy.out _ _ _ hb6.out (by simp <;> omega) g1
      rw [ga.out]
      go_wp2_with fail
      refine (good_any A n c up ⟨bv, bm⟩ w6 hn.out).mono ?_
      rintro e w7 ⟨rfl, hb⟩
      have hb7 := Lib.hid (hb6.out.trans (hb.mono hb6.out.size))
      clear hb z0_6 z1_6 z2_6 z3_6 z4_6 z5_6
      have z0_7 := hy.out _ _ _ hb7.out (by simp <;> omega) y0
      have z1_7 := hy.out _ _ _ hb7.out (by simp <;> omega) y1
      have z2_7 := hy.out _ _ _ hb7.out (by simp <;> omega) y2
      have z3_7 := hy.out _ _ _ hb7.out (by simp <;> omega) y3
      have z4_7 := hy.out _ _ _ hb7.out (by simp <;> omega) g0
      have z5_7 := hy.out _ _ _ hb7.out (by simp <;> omega) g1
      rw [gb.out]
      go_wp2_with fail
      obtain ⟨XT, f, hfb, hfall⟩ := class_below w7.heap.size w7
      have hx0 : ∃ y, f y = w7.drew := hfall _ (by
        have := below_drewNs (Below.refl w7.heap.size w7) 1
        exact this)
      have hne : Nonempty XT := hx0.elim fun y _ => ⟨y⟩
      have hs7 := hb7.out.size
      have d0 := fun y => ((hfb y).cell (by simp <;> omega)).trans z0_7
      have d1 := fun y => ((hfb y).cell (by simp <;> omega)).trans z1_7
      have d2 := fun y => ((hfb y).cell (by simp <;> omega)).trans z2_7
      have d3 := fun y => ((hfb y).cell (by simp <;> omega)).trans z3_7
      have d4 := fun y => ((hfb y).cell (by simp <;> omega)).trans z4_7
      have d5 := fun y => ((hfb y).cell (by simp <;> omega)).trans z5_7
      have hB7 := Lib.hid (fun y => hb7.out.trans ((hfb y).mono hs7))
      have hR7 := Lib.hid (fun y => (hrY.out.below (hB7.out y)).more (hB7.out y).size)
      have hT7 := Lib.hid (fun y => hTY.out.later (hB7.out y))
      have e1 : (xv == xv && ((xm : Nat) : Int) == ((xm : Nat) : Int)) = true := by simp
      have e2 : (s == s) = true := by simp
      replace hfb := Lib.hid hfb
      replace hfall := Lib.hid hfall
      clear z0_7 z1_7 z2_7 z3_7 z4_7 z5_7
      refine (wpIn_wide (n := 20)).1 ?_
      refine wpIn_region_class f 21 [true, true, true, true, true, true, true, true, true, true, true, true, true, true, true, true, true, true, true, true, true] hx0 (by kernel_rfl) (by kernel_rfl) ?_
      (simp only [List.take_succ_cons, List.take_zero]; (repeat (first | gi_big_quiet_step (fail) | (refine wpQuietIn_pass (fun _ _ _ _ => trivial) (by rfl) rfl ?_; simp only [List.setIfInBounds_toArray, List.set_cons_succ, List.set_cons_zero]) | (refine wpQuietIn_step (fun _ _ _ _ => trivial) ?_; intro K hK; refine Eq.mpr (if_pos (by rfl)) ?_; gi_big_quiet_op; gi_big_quiet_call ((first | (gi_at_call 21; exact class_law hfall.out (hfb.out _) (hfb.out _).size (callsIn_wide.2 (hRJ.out _ (hR7.out _)))) | (gi_at_call 22; exact class_law hfall.out (hfb.out _) (hfb.out _).size (callsIn_wide.2 (hRL.out _ (hR7.out _)))) | (gi_at_call 14; exact class_law hfall.out (hfb.out _) (hfb.out _).size (callsIn_wide.2 (awake_any _ (hT7.out _))))))))); refine wpQuietIn_nil ?_)
      rintro W' ⟨y, rfl⟩
      have hb8 := Lib.hid (hB7.out y)
      clear d0 d1 d2 d3 d4 d5 hR7 hT7 hB7
      generalize f y = w8 at *
      refine wpAnyIn_end (by kernel_rfl) ?_
      go_wp2
      go_ret
      exact ⟨rfl, hB0.out.trans ((hY.out.mono (by omega)).trans (hb8.out.mono (by omega)))⟩
end Go.Proofs.YtfloonpchjbmnaaDoor
