/- The walk of SymLows. -/
import Derived.Deep.RegionHeld3
import Derived.Deep.DeepCutAuto
import Derived.Test.YtfloonpchjbmnaaDoorSymJoinsW
import Derived.Test.YtfloonpchjbmnaaDoorSv
import Derived.Test.YtfloonpchjbmnaaDoorSw
namespace Go.Proofs.YtfloonpchjbmnaaDoor
open Go.RowKit Go.Shelf Go.Idl

theorem ints_one (l : List Int) : ∀ u ∈ ints l, u.oneCell' = true := by
  intro u hu
  unfold ints at hu
  obtain ⟨x, _, rfl⟩ := List.mem_map.1 hu
  rfl
theorem intA_info : (Tryd.prog.info? 3).map (fun i => (i.zero, i.size, i.bytes)) = some (some (.int .i64 0), 1, 8) := by kernel_rfl

theorem row_new {w1 w2 : World} {b : Nat} {e t : TypeId} {A1 : Option Addr} {n c1 : Nat} {xs : List Value} (h : w1.ownsRow b e 1 (.slice A1 n c1) n xs) (hg : (w1.alloc (.cells #[] t)).grownBy w2 (Value.slice (some ⟨w1.heap.size, 0, none⟩) 0 0).ownBlock) (hne : e ≠ t) : Reads w2 w2.heap.size 1 A1 n xs :=
  Reads.of_own (World.ownsRow.kept (h.alloc (.cells #[] t)) hg (.inr (own_blk_ne (h.alloc (.cells #[] t)) (Blk.new w1 _ _) hne)))
theorem row_old {w1 w2 : World} {b g : Nat} {e t : TypeId} {A1 : Option Addr} {n c1 : Nat} {cs : Array Value} {xs : List Value} (h : w1.ownsRow b e 1 (.slice A1 n c1) n xs) (k : Blk w1 g t cs) (hg : w1.grownBy w2 (Value.slice (some ⟨g, 0, none⟩) 0 0).ownBlock) (hne : e ≠ t) : Reads w2 w2.heap.size 1 A1 n xs :=
  Reads.of_own (World.ownsRow.kept h hg (.inr (own_blk_ne h k hne)))

set_option maxHeartbeats 4000000 in
set_option maxRecDepth 100000 in
theorem walkSymLows (A : Option Addr) (n c : Nat) (up : List Nat) (l : Lb) (Z : Option Addr) (m d : Nat) (zs : List Int) (w : World) (hT : Tab w) (hn : up.length = n) (hn63 : n ≤ maxLen) (hM : Masks up) (hr : Reads w w.heap.size 1 A n (u64s up)) (hl : l.ms < 2 ^ 64)
    (ham : zs.length = m) (hm63 : m ≤ maxLen) (hmd : m ≤ d) (hd : d ≤ maxLen) (hz : Reads w w.heap.size 1 Z m (ints zs)) :
    Calls Tryd.prog 4 #[.slice A n c, lbV l, .slice Z m d] w fun e w' => e = .returned (.bool true) ∧ Below w.heap.size w w' := by
  have hml : maxLen = 9223372036854775807 := rfl
  obtain ⟨lv, lm⟩ := l
  dsimp only at hl ⊢
  obtain ⟨X, hX⟩ : ∃ X, w.alloc (.cells #[.int .i64 lv, .int .u64 (lm : Nat)] 25) = X := ⟨_, rfl⟩
  have k0 : Blk X w.heap.size 25 #[.int .i64 lv, .int .u64 (lm : Nat)] := by rw [← hX]; exact Blk.new w _ _
  have hsz : X.heap.size = w.heap.size + 1 := by rw [← hX]; simp
  have hB0 : Below w.heap.size w X := by rw [← hX]; exact (Below.refl _ w).alloc (Nat.le_refl _) _
  obtain ⟨p0, p1⟩ := pair_cells k0
  obtain ⟨i0, hi0, hz0, hz1, hz2⟩ := info_parts u64_info
  have h1 := Lib.hid (u64s_one up)
  have hrX := Lib.hid (show Reads X (w.heap.size + 1) 1 A n (u64s up) from (hr.below hB0).more (by omega))
  have hzX := Lib.hid (show Reads X (w.heap.size + 1) 1 Z m (ints zs) from (hz.below hB0).more (by omega))
  have hTX := Lib.hid (hT.later hB0)
  have hcell := Lib.hid (fun (W : World) (p : Addr) (v : Value) (h : Below (w.heap.size + 1) X W) (hp : p.block < w.heap.size + 1) (hv : X.cell? p = some v) => (h.cell hp).trans hv)
  replace hr := Lib.hid hr
  replace hz := Lib.hid hz
  replace hT := Lib.hid hT
  replace hn := Lib.hid hn
  replace hM := Lib.hid hM
  replace k0 := Lib.hid k0
  replace hB0 := Lib.hid hB0
  by_cases hbig : 20 < n
  · have h2 : ((20 : Int) < (n : Int)) := by omega
    replace ham := Lib.hid ham
    go_enter Tryd.func4, Tryd.ntmps4
    go_wp2
    go_ret
    exact ⟨rfl, hB0.out⟩
  have h2 : ¬ ((20 : Int) < (n : Int)) := by omega
  by_cases hbig2 : 10 < m
  · have h3 : ((10 : Int) < (m : Int)) := by omega
    replace ham := Lib.hid ham
    go_enter Tryd.func4, Tryd.ntmps4
    go_wp2
    go_ret
    exact ⟨rfl, hB0.out⟩
  have h3 : ¬ ((10 : Int) < (m : Int)) := by omega
  cases zs with
  | nil =>
    obtain rfl : m = 0 := by simpa using ham.symm
    replace ham := Lib.hid ham
    go_enter Tryd.func4, Tryd.ntmps4
    go_wp2
    go_ret
    exact ⟨rfl, hB0.out⟩
  | cons pc rest =>
    have hm1 : 1 ≤ m := by rw [← ham]; simp
    have hrl : rest.length = m - 1 := by rw [← ham]; simp
    have hcut := hzX.out.cut (k := 1) (cap := d) (by omega) hmd
    have hcut : Reads X (w.heap.size + 1) 1 (if d = 1 then Z else Z.map (·.add (1 * 1))) (m - 1) (ints rest) := hcut
    obtain ⟨ad, rfl, hbk, hcl⟩ := hzX.out.2 (by omega)
    have u0 : X.cell? ad = some (.int .i64 pc) := hcl 0 _ rfl
    have x1 : ¬ ((m : Int) = 0) := by omega
    have x2 : ((m : Int) == 0) = false := by simpa using x1
    have x3 : (0 : Int) < (m : Int) := by omega
    have x4 : (1 : Int) ≤ (m : Int) := by omega
    have x5 : (m : Int) ≤ (d : Int) := by omega
    have x6 : (1 : Int) ≤ (d : Int) := by omega
    replace ham := Lib.hid ham
    replace hcut := Lib.hid hcut
    replace hcl := Lib.hid hcl
    replace hrl := Lib.hid hrl
    go_enter Tryd.func4, Tryd.ntmps4
    go_wp2
    go_quiet (fail)
    have hcut' : Reads X (w.heap.size + 1) 1 (if d = 1 then some ad else some { block := ad.block, off := ad.off + 1 }) (m - 1) (ints rest) := by
      have := hcut.out
      simpa [Addr.add] using this
    replace hcut' := Lib.hid hcut'
    generalize (if d = 1 then some ad else some { block := ad.block, off := ad.off + 1 } : Option Addr) = R at *
    generalize d - 1 = dr at *
    generalize hq : m - 1 = q at *
    obtain ⟨Y, hY⟩ : ∃ Y, X.drewN nq = Y := ⟨_, rfl⟩
    have hBY : Below (w.heap.size + 1) X Y := by rw [← hY]; exact below_drewNs (Below.refl _ _) nq
    rw [hY]
    have hsY : Y.heap.size = w.heap.size + 1 := by rw [← hY]; simp [hsz]
    have hrY := Lib.hid (hrX.out.below hBY)
    have hzY := Lib.hid (hzX.out.below hBY)
    have hRY := Lib.hid (hcut'.out.below hBY)
    have y0 := (hBY.cell (by simp)).trans p0
    have y1 := (hBY.cell (by simp)).trans p1
    have hTY := Lib.hid (hTX.out.later (hsz.symm ▸ hBY))
    have hBY0 := Lib.hid (hB0.out.trans (hBY.mono (by omega)))
    have hcellY := Lib.hid (fun (W : World) (p : Addr) (v : Value) (h : Below (w.heap.size + 1) Y W) (hp : p.block < w.heap.size + 1) (hv : Y.cell? p = some v) => (h.cell hp).trans hv)
    have h1z := Lib.hid (ints_one rest)
    obtain ⟨j0, hj0, hjz0, hjz1, hjz2⟩ := info_parts intA_info
    clear hcell p0 p1 hX hY hBY hcut hcut' hcl hz hr hTX hrX hzX
    go_upto_region 4 with fail
    go_cut [9, 10] (fun s9 s10 wx => s9 = .int .i64 (putL up ⟨lv, lm⟩ (lows rest) ⟨pc, 0⟩).lv ∧ s10 = .bool (putOk up ⟨lv, lm⟩ (lows rest) ⟨pc, 0⟩) ∧ Below (w.heap.size + 1) Y wx)
    case first =>
      go_region_held3 (fun w' => w'.cell? ⟨w.heap.size, 0, none⟩ = some (.int .i64 lv) ∧ w'.cell? ⟨w.heap.size, 1, none⟩ = some (.int .u64 (lm : Nat)))
        (first
          | (refine ⟨?_, ?_⟩ <;> (refine hcellY.out _ _ _ ?_ (by simp <;> omega) (by assumption); (repeat (first | with_reducible exact hb3.out | with_reducible exact hb2.out | with_reducible exact hb1.out | with_reducible exact Below.refl _ _ | with_reducible refine Below.drew ?_ | (with_reducible refine Below.alloc ?_ ?_ _; rotate_left; · first | omega | (simp <;> omega)) | (with_reducible refine Below.setCell ?_ ?_ _; rotate_left; · first | omega | (simp <;> omega))))))
          | (refine hcellY.out _ _ _ ?_ (by simp <;> omega) (by assumption); (repeat (first | with_reducible exact hb3.out | with_reducible exact hb2.out | with_reducible exact hb1.out | with_reducible exact Below.refl _ _ | with_reducible refine Below.drew ?_ | (with_reducible refine Below.alloc ?_ ?_ _; rotate_left; · first | omega | (simp <;> omega)) | (with_reducible refine Below.setCell ?_ ?_ _; rotate_left; · first | omega | (simp <;> omega)))))
          | go_keep)
        (first
          | (refine step_append_any _ (by rfl) _ _ _ (by rfl) (w.heap.size + 1) 23 i0 _ 1 8 Tryd.underlying22 hi0 hz0 hz1 hz2 rfl (by decide) (.slice (some ⟨_, 0, none⟩) 0 0) 0 [] (by rfl) (own_empty (base := w.heap.size + 1) (g := _) (by first | exact Blk.new_at _ _ _ _ (by simp [hsY]) | exact (Blk.new_at _ _ _ _ (by simp [hsY])).alloc _) (by simp)) (w.heap.size + 1) A n c (u64s up) (by rfl) (by first | exact hrY.out.alloc (by omega) _ | exact (hrY.out.alloc (by omega) _).alloc (by simp; omega) _) h1.out (by omega) (by omega) (by simp; omega) ?_
             intro v1 w1 hown1 hg1 hat1
             rw [Nat.zero_add, List.nil_append] at hown1
             obtain ⟨A1, c1, rfl⟩ := ownsRow_slice hown1
             have hb1 := Lib.hid (Below.grown (show Below (w.heap.size + 1) Y _ by (repeat (first | with_reducible exact hb3.out | with_reducible exact hb2.out | with_reducible exact hb1.out | with_reducible exact Below.refl _ _ | with_reducible refine Below.drew ?_ | (with_reducible refine Below.alloc ?_ ?_ _; rotate_left; · first | omega | (simp <;> omega)) | (with_reducible refine Below.setCell ?_ ?_ _; rotate_left; · first | omega | (simp <;> omega))))) hg1 (by simp; omega) (fun j hj => by simp [Value.ownBlock] at hj; omega))
             have hs1 := hb1.out.size
             have hgr := hg1.size
             first
               | have kE := Blk.grown (g := w.heap.size + 2) (t := 3) (cs := #[]) (by exact Blk.new_at _ _ _ _ (by simp [hsY])) hg1 (by simp [Value.ownBlock])
               | have kE := Blk.grown (g := w.heap.size + 1) (t := 3) (cs := #[]) (by exact (Blk.new_at _ _ _ _ (by simp [hsY])).alloc _) hg1 (by simp [Value.ownBlock])
               | skip
             replace hown1 := Lib.hid hown1
             clear hg1 hat1)
          | (refine step_append_any _ (by rfl) _ _ _ (by rfl) (w.heap.size + 1) 3 j0 _ 1 8 Tryd.underlying37 hj0 hjz0 hjz1 hjz2 rfl (by decide) (.slice (some ⟨_, 0, none⟩) 0 0) 0 [] (by rfl) ?_ (w.heap.size + 1) R q dr (ints rest) (by rfl) ?_ h1z.out (by omega) (by omega) ?_ ?_
             · refine own_empty (base := w.heap.size + 1) ?_ ?_
               · first | exact kE | exact Blk.new_at _ _ _ _ (by simp)
               · first | omega | (simp <;> omega)
             · first | with_reducible exact hRY.out.below hb1.out | exact (hRY.out.below hb1.out).alloc (by omega) _
             · first | omega | (simp <;> omega)
             intro v2 w2 hown2 hg2 hat2
             rw [Nat.zero_add, List.nil_append] at hown2
             obtain ⟨A2, c2, rfl⟩ := ownsRow_slice hown2
             have hb2 : RowKit.Hid (Below (w.heap.size + 1) Y w2) := by
               refine Lib.hid (Below.grown (w := _) ?_ hg2 ?_ ?_)
               · (repeat (first | with_reducible exact hb3.out | with_reducible exact hb2.out | with_reducible exact hb1.out | with_reducible exact Below.refl _ _ | with_reducible refine Below.drew ?_ | (with_reducible refine Below.alloc ?_ ?_ _; rotate_left; · first | omega | (simp <;> omega)) | (with_reducible refine Below.setCell ?_ ?_ _; rotate_left; · first | omega | (simp <;> omega))))
               · first | omega | (simp <;> omega)
               · intro j hj
                 simp [Value.ownBlock] at hj
                 omega
             have hrA : RowKit.Hid (Reads w2 w2.heap.size 1 A1 n (u64s up)) := by
               refine Lib.hid ?_
               first
                 | with_reducible exact row_new hown1.out hg2 (by decide)
                 | with_reducible exact row_old hown1.out kE hg2 (by decide)
                 | exact row_new hown1.out hg2 (by decide)
                 | exact row_old hown1.out kE hg2 (by decide)
             have hrZ := Lib.hid (Reads.of_own hown2)
             have hs2 := hb2.out.size
             replace hown2 := Lib.hid hown2
             clear hg2 hat2)
          | (go_at_call 16
             refine (slow_any A1 n c1 up ⟨lv, lm⟩ A2 q c2 rest pc w2 (hTY.out.later (hsY.symm ▸ hb2.out)) hn.out hn63 hM.out hrA.out hl hrl.out (by omega) hrZ.out).mono ?_
             rintro e w3 ⟨rfl, hb3'⟩
             have hb3 := Lib.hid (hb2.out.trans (hb3'.mono (by omega)))
             clear hb3'))
      all_goals (go_wp2_with fail; go_meet)
      all_goals exact ⟨rfl, rfl, by (repeat (first | with_reducible exact hb3.out | with_reducible exact hb2.out | with_reducible exact hb1.out | with_reducible exact Below.refl _ _ | with_reducible refine Below.drew ?_ | (with_reducible refine Below.alloc ?_ ?_ _; rotate_left; · first | omega | (simp <;> omega)) | (with_reducible refine Below.setCell ?_ ?_ _; rotate_left; · first | omega | (simp <;> omega))))⟩
    case rest =>
      obtain ⟨rfl, rfl, hV⟩ := hcut
      obtain ⟨w4, hV0, rfl⟩ : ∃ V, Below (w.heap.size + 1) Y V ∧ V = _ := ⟨_, hV, rfl⟩
      clear hV0
      have hVs := hV.size
      have hVs' : w.heap.size + 1 ≤ w4.heap.size := by omega
      have hrV := Lib.hid (show Reads w4 w4.heap.size 1 A n (u64s up) from (hrY.out.below hV).more (by omega))
      have hzV := Lib.hid (show Reads w4 w4.heap.size 1 (some ad) m (ints (pc :: rest)) from (hzY.out.below hV).more (by omega))
      have hRV := Lib.hid (show Reads w4 w4.heap.size 1 R q (ints rest) from (hRY.out.below hV).more (by omega))
      have hTV := Lib.hid (hTY.out.later (hsY.symm ▸ hV))
      have z0 := hcellY.out _ _ _ hV (by simp) y0
      have z1 := hcellY.out _ _ _ hV (by simp) y1
      have hb4 := Lib.hid (Below.refl w4.heap.size w4)
      have hcellV := Lib.hid (fun (W : World) (p : Addr) (v : Value) (h : Below w4.heap.size w4 W) (hp : p.block < w4.heap.size) (hv : w4.cell? p = some v) => (h.cell hp).trans hv)
      replace hV := Lib.hid hV
      have hpk := @putOk_iff up ⟨lv, lm⟩ (lows rest) ⟨pc, 0⟩
      rw [lows_len, hrl.out] at hpk
      have hal : (lows rest).all (fun a => goodB up a.lv) = rest.all (goodB up) := by unfold lows; rw [List.all_map]; rfl
      rw [hal] at hpk
      clear hal
      by_cases hq6 : 6 < q
      · have g6 : ((6 : Int) < (q : Int)) := by omega
        have hbd : putOk up ⟨lv, lm⟩ (lows rest) ⟨pc, 0⟩ = false := by cases h : putOk up ⟨lv, lm⟩ (lows rest) ⟨pc, 0⟩ with | false => rfl | true => exact absurd (hpk.1 h).1 (by omega)
        have hz0 : putL up ⟨lv, lm⟩ (lows rest) ⟨pc, 0⟩ = ⟨0, 0⟩ := by unfold putL; rw [hbd]; rfl
        rw [hbd, hz0]
        replace hpk := Lib.hid hpk
        replace hz0 := Lib.hid hz0
        replace hbd := Lib.hid hbd
        go_wp2_with fail
        refine (awake_any w4 (hTV.out.later hb4.out)).mono ?_
        rintro e w5 ⟨rfl, hb⟩
        have hb5 := Lib.hid (hb4.out.trans (hb.mono hb4.out.size))
        have z0_5 := hcellV.out _ _ _ hb5.out (by simp <;> omega) z0
        have z1_5 := hcellV.out _ _ _ hb5.out (by simp <;> omega) z1
        replace hb := Lib.hid hb
        go_wp2_with fail
        go_ret
        exact ⟨rfl, hBY0.out.trans ((hV.out.mono (by omega)).trans (hb5.out.mono (by omega)))⟩
      have g6 : ¬ ((6 : Int) < (q : Int)) := by omega
      by_cases hla : latB up = true
      case neg =>
        have hla : latB up = false := by simpa using hla
        have hbd : putOk up ⟨lv, lm⟩ (lows rest) ⟨pc, 0⟩ = false := by cases h : putOk up ⟨lv, lm⟩ (lows rest) ⟨pc, 0⟩ with | false => rfl | true => exact absurd (hpk.1 h).2.1 (by rw [hla]; decide)
        have hz0 : putL up ⟨lv, lm⟩ (lows rest) ⟨pc, 0⟩ = ⟨0, 0⟩ := by unfold putL; rw [hbd]; rfl
        rw [hbd, hz0]
        replace hpk := Lib.hid hpk
        replace hz0 := Lib.hid hz0
        replace hbd := Lib.hid hbd
        replace hla := Lib.hid hla
        go_wp2_with fail
        refine (rright_any A n c up w4 hn.out hn63 hM.out ((hrV.out.below hb4.out).more hb4.out.size)).mono ?_
        rintro e w5 ⟨rfl, hb⟩
        have hb5 := Lib.hid (hb4.out.trans (hb.mono hb4.out.size))
        have z0_5 := hcellV.out _ _ _ hb5.out (by simp <;> omega) z0
        have z1_5 := hcellV.out _ _ _ hb5.out (by simp <;> omega) z1
        clear hb
        rw [hla.out]
        go_wp2_with fail
        refine (awake_any w5 (hTV.out.later hb5.out)).mono ?_
        rintro e w6 ⟨rfl, hb⟩
        have hb6 := Lib.hid (hb5.out.trans (hb.mono hb5.out.size))
        have z0_6 := hcellV.out _ _ _ hb6.out (by simp <;> omega) z0
        have z1_6 := hcellV.out _ _ _ hb6.out (by simp <;> omega) z1
        replace hb := Lib.hid hb
        clear z0_5 z1_5
        go_wp2_with fail
        go_ret
        exact ⟨rfl, hBY0.out.trans ((hV.out.mono (by omega)).trans (hb6.out.mono (by omega)))⟩
      by_cases hfi : (goodB up lv && fitsB lm q) = true
      case neg =>
        have hfi : (goodB up lv && fitsB lm q) = false := by simpa using hfi
        have hbd : putOk up ⟨lv, lm⟩ (lows rest) ⟨pc, 0⟩ = false := by
          cases h : putOk up ⟨lv, lm⟩ (lows rest) ⟨pc, 0⟩ with
          | false => rfl
          | true =>
            have h5 := hpk.1 h
            rw [h5.2.2.1, h5.2.2.2.2.1] at hfi
            exact absurd hfi (by decide)
        have hz0 : putL up ⟨lv, lm⟩ (lows rest) ⟨pc, 0⟩ = ⟨0, 0⟩ := by unfold putL; rw [hbd]; rfl
        rw [hbd, hz0]
        replace hpk := Lib.hid hpk
        replace hz0 := Lib.hid hz0
        replace hbd := Lib.hid hbd
        replace hla := Lib.hid hla
        replace hfi := Lib.hid hfi
        go_wp2_with fail
        refine (rright_any A n c up w4 hn.out hn63 hM.out ((hrV.out.below hb4.out).more hb4.out.size)).mono ?_
        rintro e w5 ⟨rfl, hb⟩
        have hb5 := Lib.hid (hb4.out.trans (hb.mono hb4.out.size))
        have z0_5 := hcellV.out _ _ _ hb5.out (by simp <;> omega) z0
        have z1_5 := hcellV.out _ _ _ hb5.out (by simp <;> omega) z1
        clear hb
        rw [hla.out]
        go_wp2_with fail
        refine (rfits_any A n c up ⟨lv, lm⟩ q w5 hn.out hl).mono ?_
        rintro e w6 ⟨rfl, hb⟩
        have hb6 := Lib.hid (hb5.out.trans (hb.mono hb5.out.size))
        have z0_6 := hcellV.out _ _ _ hb6.out (by simp <;> omega) z0
        have z1_6 := hcellV.out _ _ _ hb6.out (by simp <;> omega) z1
        clear hb
        clear z0_5 z1_5
        dsimp only
        rw [hfi.out]
        go_wp2_with fail
        refine (awake_any w6 (hTV.out.later hb6.out)).mono ?_
        rintro e w7 ⟨rfl, hb⟩
        have hb7 := Lib.hid (hb6.out.trans (hb.mono hb6.out.size))
        have z0_7 := hcellV.out _ _ _ hb7.out (by simp <;> omega) z0
        have z1_7 := hcellV.out _ _ _ hb7.out (by simp <;> omega) z1
        replace hb := Lib.hid hb
        clear z0_6 z1_6
        go_wp2_with fail
        go_ret
        exact ⟨rfl, hBY0.out.trans ((hV.out.mono (by omega)).trans (hb7.out.mono (by omega)))⟩
      by_cases hle : (pc :: rest).all (goodB up) = true
      case neg =>
        have hle : (pc :: rest).all (goodB up) = false := by simpa using hle
        have hbd : putOk up ⟨lv, lm⟩ (lows rest) ⟨pc, 0⟩ = false := by
          cases h : putOk up ⟨lv, lm⟩ (lows rest) ⟨pc, 0⟩ with
          | false => rfl
          | true =>
            have h5 := hpk.1 h
            rw [List.all_cons, h5.2.2.2.1, h5.2.2.2.2.2] at hle
            exact absurd hle (by decide)
        have hz0 : putL up ⟨lv, lm⟩ (lows rest) ⟨pc, 0⟩ = ⟨0, 0⟩ := by unfold putL; rw [hbd]; rfl
        rw [hbd, hz0]
        replace hpk := Lib.hid hpk
        replace hz0 := Lib.hid hz0
        replace hbd := Lib.hid hbd
        replace hla := Lib.hid hla
        replace hfi := Lib.hid hfi
        replace hle := Lib.hid hle
        go_wp2_with fail
        refine (rright_any A n c up w4 hn.out hn63 hM.out ((hrV.out.below hb4.out).more hb4.out.size)).mono ?_
        rintro e w5 ⟨rfl, hb⟩
        have hb5 := Lib.hid (hb4.out.trans (hb.mono hb4.out.size))
        have z0_5 := hcellV.out _ _ _ hb5.out (by simp <;> omega) z0
        have z1_5 := hcellV.out _ _ _ hb5.out (by simp <;> omega) z1
        clear hb
        rw [hla.out]
        go_wp2_with fail
        refine (rfits_any A n c up ⟨lv, lm⟩ q w5 hn.out hl).mono ?_
        rintro e w6 ⟨rfl, hb⟩
        have hb6 := Lib.hid (hb5.out.trans (hb.mono hb5.out.size))
        have z0_6 := hcellV.out _ _ _ hb6.out (by simp <;> omega) z0
        have z1_6 := hcellV.out _ _ _ hb6.out (by simp <;> omega) z1
        clear hb
        clear z0_5 z1_5
        dsimp only
        rw [hfi.out]
        go_wp2_with fail
        refine (levels_any A n c up (some ad) m d (pc :: rest) w6 hn.out hm63 ham.out ((hzV.out.below hb6.out).more hb6.out.size)).mono ?_
        rintro e w6b ⟨rfl, rfl⟩
        rw [hle.out]
        go_wp2_with fail
        refine (awake_any w6 (hTV.out.later hb6.out)).mono ?_
        rintro e w7 ⟨rfl, hb⟩
        have hb7 := Lib.hid (hb6.out.trans (hb.mono hb6.out.size))
        have z0_7 := hcellV.out _ _ _ hb7.out (by simp <;> omega) z0
        have z1_7 := hcellV.out _ _ _ hb7.out (by simp <;> omega) z1
        replace hb := Lib.hid hb
        clear z0_6 z1_6
        go_wp2_with fail
        go_ret
        exact ⟨rfl, hBY0.out.trans ((hV.out.mono (by omega)).trans (hb7.out.mono (by omega)))⟩
      have hok : putOk up ⟨lv, lm⟩ (lows rest) ⟨pc, 0⟩ = true := by
        rw [Bool.and_eq_true] at hfi
        rw [List.all_cons, Bool.and_eq_true] at hle
        exact hpk.2 ⟨by omega, hla, hfi.1, hle.1, hfi.2, hle.2⟩
      have hz0 : putL up ⟨lv, lm⟩ (lows rest) ⟨pc, 0⟩ = putF up ⟨lv, lm⟩ (lows rest) ⟨pc, 0⟩ := by unfold putL; rw [hok]; rfl
      rw [hok, hz0]
      replace hpk := Lib.hid hpk
      replace hz0 := Lib.hid hz0
      replace hok := Lib.hid hok
      replace hla := Lib.hid hla
      replace hfi := Lib.hid hfi
      replace hle := Lib.hid hle
      go_wp2_with fail
      refine (rright_any A n c up w4 hn.out hn63 hM.out ((hrV.out.below hb4.out).more hb4.out.size)).mono ?_
      rintro e w5 ⟨rfl, hb⟩
      have hb5 := Lib.hid (hb4.out.trans (hb.mono hb4.out.size))
      have z0_5 := hcellV.out _ _ _ hb5.out (by simp <;> omega) z0
      have z1_5 := hcellV.out _ _ _ hb5.out (by simp <;> omega) z1
      clear hb
      rw [hla.out]
      go_wp2_with fail
      refine (rfits_any A n c up ⟨lv, lm⟩ q w5 hn.out hl).mono ?_
      rintro e w6 ⟨rfl, hb⟩
      have hb6 := Lib.hid (hb5.out.trans (hb.mono hb5.out.size))
      have z0_6 := hcellV.out _ _ _ hb6.out (by simp <;> omega) z0
      have z1_6 := hcellV.out _ _ _ hb6.out (by simp <;> omega) z1
      clear hb
      clear z0_5 z1_5
      dsimp only
      rw [hfi.out]
      go_wp2_with fail
      refine (levels_any A n c up (some ad) m d (pc :: rest) w6 hn.out hm63 ham.out ((hzV.out.below hb6.out).more hb6.out.size)).mono ?_
      rintro e w6b ⟨rfl, rfl⟩
      rw [hle.out]
      go_wp2_with fail
      refine (rlow_any A n c up ⟨lv, lm⟩ R q dr rest pc w6 hn.out hM.out ((hrV.out.below hb6.out).more hb6.out.size) hl hrl.out ((hRV.out.below hb6.out).more hb6.out.size) hok.out).mono ?_
      rintro e w7 ⟨rfl, hb⟩
      have hb7 := Lib.hid (hb6.out.trans (hb.mono hb6.out.size))
      have z0_7 := hcellV.out _ _ _ hb7.out (by simp <;> omega) z0
      have z1_7 := hcellV.out _ _ _ hb7.out (by simp <;> omega) z1
      clear hb
      clear z0_6 z1_6
      go_wp2_with fail
      refine (awake_any w7 (hTV.out.later hb7.out)).mono ?_
      rintro e w8 ⟨rfl, hb⟩
      have hb8 := Lib.hid (hb7.out.trans (hb.mono hb7.out.size))
      have z0_8 := hcellV.out _ _ _ hb8.out (by simp <;> omega) z0
      have z1_8 := hcellV.out _ _ _ hb8.out (by simp <;> omega) z1
      replace hb := Lib.hid hb
      clear z0_7 z1_7
      go_wp2_with fail
      go_ret
      exact ⟨rfl, hBY0.out.trans ((hV.out.mono (by omega)).trans (hb8.out.mono (by omega)))⟩
end Go.Proofs.YtfloonpchjbmnaaDoor
