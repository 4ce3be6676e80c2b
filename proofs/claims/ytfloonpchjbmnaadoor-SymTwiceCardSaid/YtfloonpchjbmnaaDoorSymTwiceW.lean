/- The walk of SymTwice. -/
import Derived.Deep.RegionHeld3
import Derived.Deep.DeepCutAuto
import Derived.Test.YtfloonpchjbmnaaDoorSymPutsW
import Derived.Test.YtfloonpchjbmnaaDoorTw
namespace Go.Proofs.YtfloonpchjbmnaaDoor
open Go.RowKit Go.Shelf Go.Idl

set_option maxHeartbeats 8000000 in
set_option maxRecDepth 100000 in
theorem walkSymTwice (A : Option Addr) (n c : Nat) (up : List Nat) (l : Lb) (Z : Option Addr) (m d : Nat) (args : List Lb) (pc : Lb) (Y : Option Addr) (r e : Nat) (zs : List Int) (q : Int) (w : World) (hT : Tab w) (hn : up.length = n) (hn63 : n ≤ maxLen) (hM : Masks up) (hr : Reads w w.heap.size 1 A n (u64s up)) (hl : l.ms < 2 ^ 64) (hpc : pc.ms < 2 ^ 64)
    (ham : args.length = m) (hm63 : m ≤ maxLen) (hz : Reads w w.heap.size 2 Z m (lbVals args)) (hlm : Lms args) (hzr : zs.length = r) (hr63 : r ≤ maxLen) (hy : Reads w w.heap.size 1 Y r (ints zs)) :
    Calls Tryd.prog 5 #[.agg #[.slice A n c, .int .i64 l.lv, .int .u64 (l.ms : Nat), .slice Z m d, .int .i64 pc.lv, .int .u64 (pc.ms : Nat), .slice Y r e, .int .i64 q]] w fun e w' => e = .returned (.bool true) ∧ Below w.heap.size w w' := by
  have hml : maxLen = 9223372036854775807 := rfl
  obtain ⟨lv, lm⟩ := l
  obtain ⟨pv, pm⟩ := pc
  dsimp only at hl hpc ⊢
  obtain ⟨X, hX⟩ : ∃ X, w.alloc (.cells #[.slice A n c, .int .i64 lv, .int .u64 (lm : Nat), .slice Z m d, .int .i64 pv, .int .u64 (pm : Nat), .slice Y r e, .int .i64 q] 44) = X := ⟨_, rfl⟩
  have k0 : Blk X w.heap.size 44 #[.slice A n c, .int .i64 lv, .int .u64 (lm : Nat), .slice Z m d, .int .i64 pv, .int .u64 (pm : Nat), .slice Y r e, .int .i64 q] := by rw [← hX]; exact Blk.new w _ _
  have hsz : X.heap.size = w.heap.size + 1 := by rw [← hX]; simp
  have hB0 : Below w.heap.size w X := by rw [← hX]; exact (Below.refl _ w).alloc (Nat.le_refl _) _
  have p0 := k0.cell 0
  have p1 := k0.cell 1
  have p2 := k0.cell 2
  have p3 := k0.cell 3
  have p4 := k0.cell 4
  have p5 := k0.cell 5
  have p6 := k0.cell 6
  have p7 := k0.cell 7
  simp at p0 p1 p2 p3 p4 p5 p6 p7
  obtain ⟨j0, hj0, hjz0, hjz1, hjz2⟩ := info_parts intA_info
  have hrX := Lib.hid (show Reads X X.heap.size 1 A n (u64s up) from (hr.below hB0).more (by omega))
  have hzX := Lib.hid (show Reads X X.heap.size 2 Z m (lbVals args) from (hz.below hB0).more (by omega))
  have hyX := Lib.hid (show Reads X X.heap.size 1 Y r (ints zs) from (hy.below hB0).more (by omega))
  have hTX := Lib.hid (hT.later hB0)
  have hcell := Lib.hid (fun (W : World) (p : Addr) (v : Value) (h : Below X.heap.size X W) (hp : p.block < X.heap.size) (hv : X.cell? p = some v) => (h.cell hp).trans hv)
  replace hr := Lib.hid hr
  replace hz := Lib.hid hz
  replace hy := Lib.hid hy
  replace hT := Lib.hid hT
  replace hn := Lib.hid hn
  replace hM := Lib.hid hM
  replace k0 := Lib.hid k0
  replace hB0 := Lib.hid hB0
  replace ham := Lib.hid ham
  replace hlm := Lib.hid hlm
  replace hzr := Lib.hid hzr
  by_cases hbig : 20 < n
  · have h2 : ((20 : Int) < (n : Int)) := by omega
    go_enter Tryd.func5, Tryd.ntmps5
    go_wp2
    go_ret
    exact ⟨rfl, hB0.out⟩
  have h2 : ¬ ((20 : Int) < (n : Int)) := by omega
  by_cases hbig2 : 6 < m
  · have h3 : ((6 : Int) < (m : Int)) := by omega
    go_enter Tryd.func5, Tryd.ntmps5
    go_wp2
    go_ret
    exact ⟨rfl, hB0.out⟩
  have h3 : ¬ ((6 : Int) < (m : Int)) := by omega
  by_cases hbig3 : 6 < r
  · have h4 : ((6 : Int) < (r : Int)) := by omega
    go_enter Tryd.func5, Tryd.ntmps5
    go_wp2
    go_ret
    exact ⟨rfl, hB0.out⟩
  have h4 : ¬ ((6 : Int) < (r : Int)) := by omega
  go_enter Tryd.func5, Tryd.ntmps5
  go_wp2_with fail
  try rw [hX]
  refine (put_any A n c up ⟨lv, lm⟩ Z m d args ⟨pv, pm⟩ X hTX.out hn.out hn63 hM.out hrX.out hl hpc ham.out hm63 hzX.out hlm.out).mono ?_
  rintro e0 w4 ⟨rfl, hb4⟩
  have hs4 := hb4.size
  replace hb4 := Lib.hid hb4
  have hxm : (putL up ⟨lv, lm⟩ args ⟨pv, pm⟩).ms < 2 ^ 64 := putL_ms hlm.out hpc
  have hlaw := @twice_law up hM.out ⟨lv, lm⟩ args ⟨pv, pm⟩ zs q
  have hpl := @putL_ok up ⟨lv, lm⟩ args ⟨pv, pm⟩
  cases hok : putOk up ⟨lv, lm⟩ args ⟨pv, pm⟩ with
  | false =>
    generalize putL up ⟨lv, lm⟩ args ⟨pv, pm⟩ = x at *
    obtain ⟨xv, xm⟩ := x
    replace hok := Lib.hid hok
    replace hlaw := Lib.hid hlaw
    replace hpl := Lib.hid hpl
    go_wp2_with fail
    refine (awake_any _ ?_).mono ?_
    · exact hTX.out.later (hb4.out.alloc hs4 _)
    rintro e0 wz ⟨rfl, hbz⟩
    replace hbz := Lib.hid hbz
    go_wp2_with fail
    go_ret
    exact ⟨rfl, hB0.out.trans ((Below.trans (hb4.out.alloc hs4 _) (hbz.out.mono (hb4.out.alloc hs4 _).size)).mono (by omega))⟩
  | true =>
    have hpl := hpl hok
    have hlaw := hlaw hok
    rw [← hpl] at hlaw
    generalize putL up ⟨lv, lm⟩ args ⟨pv, pm⟩ = x at *
    obtain ⟨xv, xm⟩ := x
    dsimp only at hxm
    replace hok := Lib.hid hok
    replace hlaw := Lib.hid hlaw
    replace hpl := Lib.hid hpl
    obtain ⟨X2, hX2⟩ : ∃ X2, w4.alloc (.cells #[.int .i64 xv, .int .u64 (xm : Nat)] 25) = X2 := ⟨_, rfl⟩
    have k2 : Blk X2 w4.heap.size 25 #[.int .i64 xv, .int .u64 (xm : Nat)] := by rw [← hX2]; exact Blk.new _ _ _
    have hsz2 : X2.heap.size = w4.heap.size + 1 := by rw [← hX2]; simp
    have hb2 : Below X.heap.size X X2 := by rw [← hX2]; exact hb4.out.alloc hs4 _
    have hs2 := hb2.size
    have z0 := hcell.out _ _ _ hb2 (by simp <;> omega) p0
    have z1 := hcell.out _ _ _ hb2 (by simp <;> omega) p1
    have z2 := hcell.out _ _ _ hb2 (by simp <;> omega) p2
    have z3 := hcell.out _ _ _ hb2 (by simp <;> omega) p3
    have z4 := hcell.out _ _ _ hb2 (by simp <;> omega) p4
    have z5 := hcell.out _ _ _ hb2 (by simp <;> omega) p5
    have z6 := hcell.out _ _ _ hb2 (by simp <;> omega) p6
    have z7 := hcell.out _ _ _ hb2 (by simp <;> omega) p7
    obtain ⟨z8, z9⟩ := pair_cells k2
    have hr2 := Lib.hid ((hrX.out.below hb2).more hs2)
    have hz2 := Lib.hid ((hzX.out.below hb2).more hs2)
    have hy2 := Lib.hid ((hyX.out.below hb2).more hs2)
    have hcell2 := Lib.hid (fun (W : World) (p : Addr) (v : Value) (h : Below X2.heap.size X2 W) (hp : p.block < X2.heap.size) (hv : X2.cell? p = some v) => (h.cell hp).trans hv)
    replace hb2 := Lib.hid hb2
    replace k2 := Lib.hid k2
    have y0 := hcell.out _ _ _ hb4.out (by simp <;> omega) p0
    have y3 := hcell.out _ _ _ hb4.out (by simp <;> omega) p3
    go_wp2_with fail
    try rw [hX2]
    clear y0 y3 p0 p1 p2 p3 p4 p5 p6 p7
    replace hX2 := Lib.hid hX2
    go_loopw [5, 6] (fun v5 v6 wr => ∃ (i : Nat) (A' : Option Addr) (c' : Nat), v6 = .int .i64 (i : Nat) ∧ i ≤ m ∧ v5 = .slice A' i c' ∧ wr.ownsRow X2.heap.size 3 1 (.slice A' i c') i (ints ((args.take i).map (lo up zs q))) ∧ (∀ a ∈ args.take i, putOk up a (lows zs) ⟨q, 0⟩ = true) ∧ Below X2.heap.size X2 wr) (fun v5 v6 wr => m - natOf v6)
    case atStart => exact ⟨0, none, 0, rfl, by omega, rfl, World.ownsRow_nil _ _ _ _, (fun a ha => by simp at ha), Below.refl _ _⟩
    case round =>
      obtain ⟨i, A', c', rfl, him, rfl, hown, hall, hB⟩ := hrel
      have hb6 := Lib.hid hB
      obtain ⟨w6, hV0, rfl⟩ : ∃ V, Below X2.heap.size X2 V ∧ V = _ := ⟨_, hB, rfl⟩
      clear hV0 hB
      have hs6 := hb6.out.size
      have z0_6 := hcell2.out _ _ _ hb6.out (by simp <;> omega) z0
      have z1_6 := hcell2.out _ _ _ hb6.out (by simp <;> omega) z1
      have z2_6 := hcell2.out _ _ _ hb6.out (by simp <;> omega) z2
      have z3_6 := hcell2.out _ _ _ hb6.out (by simp <;> omega) z3
      have z4_6 := hcell2.out _ _ _ hb6.out (by simp <;> omega) z4
      have z5_6 := hcell2.out _ _ _ hb6.out (by simp <;> omega) z5
      have z6_6 := hcell2.out _ _ _ hb6.out (by simp <;> omega) z6
      have z7_6 := hcell2.out _ _ _ hb6.out (by simp <;> omega) z7
      have z8_6 := hcell2.out _ _ _ hb6.out (by simp <;> omega) z8
      have z9_6 := hcell2.out _ _ _ hb6.out (by simp <;> omega) z9
      by_cases hi : i < m
      · have hlt : ((i : Int) < (m : Int)) := by omega
        obtain ⟨ad, hZ, hbk, q0, q1⟩ := reads_label ham.out ((hz2.out.below hb6.out).more hs6) hi
        subst hZ
        have hil : i < args.length := by rw [ham.out]; exact hi
        have hgd : args.getD i ⟨0, 0⟩ = args[i] := by rw [List.getD_eq_getElem?_getD, List.getElem?_eq_getElem hil]; rfl
        have htk : args.take (i + 1) = args.take i ++ [args.getD i ⟨0, 0⟩] := by rw [List.take_succ_eq_append_getElem hil, hgd]
        have hym := hlm.out i
        generalize args.getD i ⟨0, 0⟩ = y at *
        have hlo : (putL up y (lows zs) ⟨q, 0⟩).lv = lo up zs q y := rfl
        obtain ⟨yv, ym⟩ := y
        dsimp only at q0 q1 hym
        replace hgd := Lib.hid hgd
        replace htk := Lib.hid htk
        replace hown := Lib.hid hown
        replace hall := Lib.hid hall
        have hpad : (ad.add (i * 2)).block < w6.heap.size := by rw [block_of_add]; exact hbk
        have hcell6 := Lib.hid (fun (W : World) (p : Addr) (v : Value) (h : Below w6.heap.size w6 W) (hp : p.block < w6.heap.size) (hv : w6.cell? p = some v) => (h.cell hp).trans hv)
        have hSL := slow_any A n c up ⟨yv, ym⟩ Y r e zs q
        rw [hlo] at hSL
        cases his : putOk up ⟨yv, ym⟩ (lows zs) ⟨q, 0⟩ with
        | false =>
          rw [his] at hSL
          generalize lo up zs q ⟨yv, ym⟩ = yk at *
          replace hlo := Lib.hid hlo
          replace his := Lib.hid his
          replace hSL := Lib.hid hSL
          go_wp2_with fail
          go_region_held3 (fun w' => w'.cell? ⟨w.heap.size, 0, none⟩ = some (.slice A n c) ∧ w'.cell? ⟨w.heap.size, 3, none⟩ = some (.slice (some ad) m d) ∧ w'.cell? (ad.add (i * 2)) = some (.int .i64 yv) ∧ w'.cell? ⟨(ad.add (i * 2)).block, (ad.add (i * 2)).off + 1, none⟩ = some (.int .u64 (ym : Nat)) ∧ w'.cell? ⟨w.heap.size, 6, none⟩ = some (.slice Y r e) ∧ w'.cell? ⟨w.heap.size, 7, none⟩ = some (.int .i64 q))
            (first
              | go_keep
              | (refine ⟨?_, ?_, ?_, ?_, ?_, ?_⟩ <;> refine hcell6.out _ _ _ hb7.out ?_ ?_ <;> first | assumption | exact hpad | (simp <;> omega)))
            (first
              | (go_at_call 16
                 refine (hSL.out _ ?_ hn.out hn63 hM.out ?_ hym hzr.out (by omega) ?_).mono ?_
                 · first | exact hTX.out.later (hb2.out.trans (hb6.out.mono hs2)).drew | exact hTX.out.later (hb2.out.trans (hb6.out.mono hs2))
                 · exact (hr2.out.below hb6.out).more hs6
                 · exact (hy2.out.below hb6.out).more hs6
                 rintro e0 w7 ⟨rfl, hb7⟩
                 have hb7 : RowKit.Hid (Below w6.heap.size w6 w7) := by
                   refine Lib.hid ?_
                   first | exact hb7 | exact Below.trans (Below.refl _ _).drew hb7))
          go_wp2_with fail
          refine (awake_any w7 ?_).mono ?_
          · exact hTX.out.later (Below.trans (hb2.out.trans (hb6.out.mono hs2)) (hb7.out.mono (Nat.le_trans hs2 hs6)))
          rintro e0 wz ⟨rfl, hbz⟩
          replace hbz := Lib.hid hbz
          go_wp2_with fail
          go_ret
          exact ⟨rfl, hB0.out.trans ((Below.trans (Below.trans (hb2.out.trans (hb6.out.mono hs2)) (hb7.out.mono (Nat.le_trans hs2 hs6))) (hbz.out.mono (Below.trans (hb2.out.trans (hb6.out.mono hs2)) (hb7.out.mono (Nat.le_trans hs2 hs6))).size)).mono (by omega))⟩
        | true =>
          rw [his] at hSL
          generalize hyk : lo up zs q ⟨yv, ym⟩ = yk at *
          replace hyk := Lib.hid hyk
          replace hlo := Lib.hid hlo
          replace his := Lib.hid his
          replace hSL := Lib.hid hSL
          go_wp2_with fail
          go_region_held3 (fun w' => w'.cell? ⟨w.heap.size, 0, none⟩ = some (.slice A n c) ∧ w'.cell? ⟨w.heap.size, 3, none⟩ = some (.slice (some ad) m d) ∧ w'.cell? (ad.add (i * 2)) = some (.int .i64 yv) ∧ w'.cell? ⟨(ad.add (i * 2)).block, (ad.add (i * 2)).off + 1, none⟩ = some (.int .u64 (ym : Nat)) ∧ w'.cell? ⟨w.heap.size, 6, none⟩ = some (.slice Y r e) ∧ w'.cell? ⟨w.heap.size, 7, none⟩ = some (.int .i64 q))
            (first
              | go_keep
              | (refine ⟨?_, ?_, ?_, ?_, ?_, ?_⟩ <;> refine hcell6.out _ _ _ hb7.out ?_ ?_ <;> first | assumption | exact hpad | (simp <;> omega)))
            (first
              | (go_at_call 16
                 refine (hSL.out _ ?_ hn.out hn63 hM.out ?_ hym hzr.out (by omega) ?_).mono ?_
                 · first | exact hTX.out.later (hb2.out.trans (hb6.out.mono hs2)).drew | exact hTX.out.later (hb2.out.trans (hb6.out.mono hs2))
                 · exact (hr2.out.below hb6.out).more hs6
                 · exact (hy2.out.below hb6.out).more hs6
                 rintro e0 w7 ⟨rfl, hb7⟩
                 have hb7 : RowKit.Hid (Below w6.heap.size w6 w7) := by
                   refine Lib.hid ?_
                   first | exact hb7 | exact Below.trans (Below.refl _ _).drew hb7))
          have hown7 := Lib.hid (ownsRow_below hown.out hb7.out)
          have hs7 := hb7.out.size
          have hs72 : X2.heap.size ≤ w7.heap.size := by omega
          go_wp2_with (at_builtin; refine wpList_append_new w7 rfl _ _ 37 rfl X2.heap.size 3 j0 (.int .i64 0) 1 8 Tryd.underlying37 hj0 hjz0 hjz1 hjz2 rfl (by decide) (.slice A' i c') i (ints ((args.take i).map (lo up zs q))) rfl hown7.out 1 1 [.int .i64 yk] rfl rfl (by simp [Value.oneCell']) (by omega) (by omega) hs72 ?_; intro A2 c2 w8 hown8 hb8; replace hown8 := Lib.hid hown8; replace hb8 := Lib.hid hb8)
          go_roundw
          case rel =>
            refine ⟨i + 1, A2, c2, by go_num, by omega, rfl, ?_, ?_, (hb6.out.trans (hb7.out.mono hs6)).trans hb8.out⟩
            · rw [htk.out, List.map_append, List.map_singleton, hyk.out]
              have e1 : ints ((args.take i).map (lo up zs q) ++ [yk]) = ints ((args.take i).map (lo up zs q)) ++ [.int .i64 yk] := by unfold ints; rw [List.map_append]; rfl
              rw [e1]
              exact hown8.out
            · intro a ha
              rw [htk.out] at ha
              rcases List.mem_append.1 ha with h | h
              · exact hall.out a h
              · obtain rfl : a = ⟨yv, ym⟩ := by simpa using h
                exact his.out
          case measure => simp [natOf]; omega
      · have hlt : ¬ ((i : Int) < (m : Int)) := by omega
        have hie : i = m := by omega
        rw [List.take_of_length_le (by have := ham.out; omega)] at hown hall
        subst hie
        have hrL := Lib.hid (Reads.of_own hown)
        have hlenL : ((args.map (lo up zs q))).length = i := by rw [List.length_map]; exact ham.out
        have hlaw := hlaw.out hall
        replace hown := Lib.hid hown
        replace hall := Lib.hid hall
        replace hlenL := Lib.hid hlenL
        have hc6 := Lib.hid (Below.refl w6.heap.size w6)
        have hloP : (putL up ⟨pv, pm⟩ (lows zs) ⟨q, 0⟩).lv = lo up zs q ⟨pv, pm⟩ := rfl
        cases hisP : putOk up ⟨pv, pm⟩ (lows zs) ⟨q, 0⟩ with
        | false =>
          replace hlaw := Lib.hid hlaw
          go_wp2_with fail
          refine (slow_any A n c up ⟨pv, pm⟩ Y r e zs q w6 (hTX.out.later (hb2.out.trans (hb6.out.mono hs2))) hn.out hn63 hM.out ((hr2.out.below hb6.out).more hb6.out.size) hpc hzr.out (by omega) ((hy2.out.below hb6.out).more hb6.out.size)).mono ?_
          rintro e0 w7 ⟨rfl, hc⟩
          have hc7 := Lib.hid (hc6.out.trans (hc.mono hc6.out.size))
          have hb7 := Lib.hid (hb6.out.trans (hc7.out.mono hb6.out.size))
          clear hc
          rw [hisP, hloP]
          generalize lo up zs q ⟨pv, pm⟩ = pk at *
          replace hisP := Lib.hid hisP
          replace hloP := Lib.hid hloP
          go_wp2_with fail
          refine (awake_any w7 ?_).mono ?_
          · exact hTX.out.later (hb2.out.trans (hb7.out.mono hs2))
          rintro e0 wz ⟨rfl, hbz⟩
          replace hbz := Lib.hid hbz
          go_wp2_with fail
          go_ret
          exact ⟨rfl, hB0.out.trans ((Below.trans (hb2.out.trans (hb7.out.mono hs2)) (hbz.out.mono (hb2.out.trans (hb7.out.mono hs2)).size)).mono (by omega))⟩
        | true =>
          obtain ⟨o1, o2, o3⟩ := hlaw hisP
          clear hlaw
          go_wp2_with fail
          refine (slow_any A n c up ⟨pv, pm⟩ Y r e zs q w6 (hTX.out.later (hb2.out.trans (hb6.out.mono hs2))) hn.out hn63 hM.out ((hr2.out.below hb6.out).more hb6.out.size) hpc hzr.out (by omega) ((hy2.out.below hb6.out).more hb6.out.size)).mono ?_
          rintro e0 w7 ⟨rfl, hc⟩
          have hc7 := Lib.hid (hc6.out.trans (hc.mono hc6.out.size))
          have hb7 := Lib.hid (hb6.out.trans (hc7.out.mono hb6.out.size))
          clear hc
          rw [hisP, hloP]
          generalize lo up zs q ⟨pv, pm⟩ = pk at *
          replace hisP := Lib.hid hisP
          replace hloP := Lib.hid hloP
          replace o1 := Lib.hid o1
          replace o2 := Lib.hid o2
          have z0_7 := hcell2.out _ _ _ hb7.out (by simp <;> omega) z0
          have z1_7 := hcell2.out _ _ _ hb7.out (by simp <;> omega) z1
          have z2_7 := hcell2.out _ _ _ hb7.out (by simp <;> omega) z2
          have z3_7 := hcell2.out _ _ _ hb7.out (by simp <;> omega) z3
          have z4_7 := hcell2.out _ _ _ hb7.out (by simp <;> omega) z4
          have z5_7 := hcell2.out _ _ _ hb7.out (by simp <;> omega) z5
          have z6_7 := hcell2.out _ _ _ hb7.out (by simp <;> omega) z6
          have z7_7 := hcell2.out _ _ _ hb7.out (by simp <;> omega) z7
          have z8_7 := hcell2.out _ _ _ hb7.out (by simp <;> omega) z8
          have z9_7 := hcell2.out _ _ _ hb7.out (by simp <;> omega) z9
          clear z0_6 z1_6 z2_6 z3_6 z4_6 z5_6 z6_6 z7_6 z8_6 z9_6
          go_wp2_with fail
          refine (slow_any A n c up ⟨xv, xm⟩ Y r e zs q w7 (hTX.out.later (hb2.out.trans (hb7.out.mono hs2))) hn.out hn63 hM.out ((hr2.out.below hb7.out).more hb7.out.size) hxm hzr.out (by omega) ((hy2.out.below hb7.out).more hb7.out.size)).mono ?_
          rintro e0 w8 ⟨rfl, hc⟩
          have hc8 := Lib.hid (hc7.out.trans (hc.mono hc7.out.size))
          have hb8 := Lib.hid (hb6.out.trans (hc8.out.mono hb6.out.size))
          clear hc
          rw [o1.out]
          generalize (putL up ⟨xv, xm⟩ (lows zs) ⟨q, 0⟩).lv = av at *
          replace o3 := Lib.hid o3
          have z0_8 := hcell2.out _ _ _ hb8.out (by simp <;> omega) z0
          have z1_8 := hcell2.out _ _ _ hb8.out (by simp <;> omega) z1
          have z2_8 := hcell2.out _ _ _ hb8.out (by simp <;> omega) z2
          have z3_8 := hcell2.out _ _ _ hb8.out (by simp <;> omega) z3
          have z4_8 := hcell2.out _ _ _ hb8.out (by simp <;> omega) z4
          have z5_8 := hcell2.out _ _ _ hb8.out (by simp <;> omega) z5
          have z6_8 := hcell2.out _ _ _ hb8.out (by simp <;> omega) z6
          have z7_8 := hcell2.out _ _ _ hb8.out (by simp <;> omega) z7
          have z8_8 := hcell2.out _ _ _ hb8.out (by simp <;> omega) z8
          have z9_8 := hcell2.out _ _ _ hb8.out (by simp <;> omega) z9
          clear z0_7 z1_7 z2_7 z3_7 z4_7 z5_7 z6_7 z7_7 z8_7 z9_7
          go_wp2_with fail
          refine (slow_any A n c up ⟨lv, lm⟩ A' i c' (args.map (lo up zs q)) pk w8 (hTX.out.later (hb2.out.trans (hb8.out.mono hs2))) hn.out hn63 hM.out ((hr2.out.below hb8.out).more hb8.out.size) hl hlenL.out (by omega) ((hrL.out.below hc8.out).more hc8.out.size)).mono ?_
          rintro e0 w9 ⟨rfl, hc⟩
          have hc9 := Lib.hid (hc8.out.trans (hc.mono hc8.out.size))
          have hb9 := Lib.hid (hb6.out.trans (hc9.out.mono hb6.out.size))
          clear hc
          rw [o2.out, ← o3.out]
          go_wp2_with fail
          refine (awake_any w9 ?_).mono ?_
          · exact hTX.out.later (hb2.out.trans (hb9.out.mono hs2))
          rintro e0 wz ⟨rfl, hbz⟩
          replace hbz := Lib.hid hbz
          go_wp2_with fail
          go_ret
          exact ⟨rfl, hB0.out.trans ((Below.trans (hb2.out.trans (hb9.out.mono hs2)) (hbz.out.mono (hb2.out.trans (hb9.out.mono hs2)).size)).mono (by omega))⟩
end Go.Proofs.YtfloonpchjbmnaaDoor
