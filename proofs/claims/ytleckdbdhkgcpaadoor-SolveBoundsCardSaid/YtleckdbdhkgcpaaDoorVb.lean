/- solve.Bounds. -/
import Derived.Test.YtleckdbdhkgcpaaDoorVf
import Derived.Test.YtleckdbdhkgcpaaDoorQc
namespace Go.Idl
open Go Go.RowKit
set_option linter.unusedSimpArgs false
set_option linter.unusedVariables false
/-- Do labels bound a system? -/
def boundB (up : List Nat) (consts : List Lb) (needs : List (List Nat)) (ls : List Lb) : Bool :=
  ((List.range consts.length).all fun i => goodB up (ls.getD i z0).lv) && (List.range consts.length).all fun i => leL up (valF up consts needs ls i) (ls.getD i z0)
theorem boundB_iff {up : List Nat} {consts : List Lb} {needs : List (List Nat)} {ls : List Lb} (hl : ls.length = consts.length) : boundB up consts needs ls = true ↔ BoundF up consts needs ls := by
  unfold boundB BoundF
  simp only [Bool.and_eq_true, List.all_eq_true, List.mem_range]
  exact ⟨fun h => ⟨⟨hl, fun i hi => gd_iff.1 (h.1 i hi)⟩, h.2⟩, fun h => ⟨fun i hi => gd_iff.2 (h.1.gd i hi), h.2⟩⟩
end Go.Idl
namespace Go.Proofs.YtleckdbdhkgcpaaDoor
open Go.RowKit Go.Shelf Go.Idl
set_option linter.unusedSimpArgs false
set_option linter.unusedVariables false

set_option maxHeartbeats 8000000 in
set_option maxRecDepth 100000 in
theorem bounds_no (A : Option Addr) (n c : Nat) (up : List Nat) (C D E : Option Addr) (l lc m mc k kc : Nat) (consts : List Lb) (needs : List (List Int)) (w : World) (hT : Tab w) (hn : up.length = n) (hn63 : n ≤ maxLen) (hM : Masks up) (hr : Reads w w.heap.size 1 A n (u64s up))
    (hl : consts.length = l) (hl63 : l ≤ maxLen) (hc : Reads w w.heap.size 2 C l (lbVals consts)) (hm63 : m ≤ maxLen) (hd : NRows w w.heap.size D m needs) (hno : sysB up consts needs = false ∨ k ≠ l) :
    Calls Tryd.prog 18 #[.slice A n c, .agg #[.slice C l lc, .slice D m mc], .slice E k kc] w fun e w' => e = .returned (.bool false) ∧ Below w.heap.size w w' := by
  obtain ⟨W0, hW0⟩ : ∃ W0, w.alloc (.cells #[.slice C l lc, .slice D m mc] 26) = W0 := ⟨_, rfl⟩
  have hb0 : Below w.heap.size w W0 := by rw [← hW0]; exact (Below.refl _ w).alloc (Nat.le_refl _) _
  have k0 : Blk W0 w.heap.size 26 #[.slice C l lc, .slice D m mc] := by rw [← hW0]; exact Blk.new w _ _
  obtain ⟨s0, s1⟩ := pair_cells k0
  have hRi := sright_any A n c up C D l lc m mc consts needs W0 (hT.later hb0) hn hn63 hM ((hr.below hb0).more hb0.size) hl hl63 ((hc.below hb0).more hb0.size) hm63 ((hd.below hb0).more hb0.size)
  replace hRi := Lib.hid hRi
  replace hb0 := Lib.hid hb0
  replace k0 := Lib.hid k0
  replace hr := Lib.hid hr
  replace hM := Lib.hid hM
  replace hT := Lib.hid hT
  replace hc := Lib.hid hc
  replace hd := Lib.hid hd
  replace hn := Lib.hid hn
  replace hl := Lib.hid hl
  cases hq : sysB up consts needs with
  | false =>
    replace hq := Lib.hid hq
    replace hno := Lib.hid hno
    go_enter Tryd.func18, Tryd.ntmps18
    go_wp2_with fail
    refine hRi.out.mono ?_
    rintro x w1 ⟨rfl, hb1⟩
    rw [hq.out]
    have hB := Lib.hid (hb0.out.trans (hb1.mono hb0.out.size))
    clear hb1
    go_wp2
    go_ret
    exact ⟨rfl, hB.out⟩
  | true =>
    have hkl : k ≠ l := by
      rcases hno with h | h
      · rw [hq] at h; cases h
      · exact h
    have h2 : ((k : Int) != (l : Int)) = true := by simp; omega
    replace hq := Lib.hid hq
    replace hno := Lib.hid hno
    go_enter Tryd.func18, Tryd.ntmps18
    go_wp2_with fail
    refine hRi.out.mono ?_
    rintro x w1 ⟨rfl, hb1⟩
    rw [hq.out]
    have hB := Lib.hid (hb0.out.trans (hb1.mono hb0.out.size))
    obtain ⟨s2, s3⟩ := pair_cells (k0.out.below hb1 k0.out.lt)
    clear hb1
    go_wp2
    go_ret
    exact ⟨rfl, hB.out⟩

set_option maxHeartbeats 8000000 in
set_option maxRecDepth 100000 in
theorem bounds_yes (A : Option Addr) (n c : Nat) (up : List Nat) (C D E : Option Addr) (l lc m mc kc : Nat) (consts ls : List Lb) (needs : List (List Nat)) (w : World) (hT : Tab w) (hn : up.length = n) (hn63 : n ≤ maxLen) (hM : Masks up) (hr : Reads w w.heap.size 1 A n (u64s up))
    (hl : consts.length = l) (hl63 : l ≤ 1000) (hc : Reads w w.heap.size 2 C l (lbVals consts)) (hm63 : m ≤ maxLen) (hd : NRows w w.heap.size D m (needs.map casts)) (hq : sysB up consts (needs.map casts) = true)
    (hS : Idl.Sys up consts needs) (hcm : ∀ k, k < consts.length → (consts.getD k z0).ms < 2 ^ 64) (hll : ls.length = l) (hlm : ∀ k, k < l → (ls.getD k z0).ms < 2 ^ 64) (hL : Reads w w.heap.size 2 E l (lbVals ls)) :
    Calls Tryd.prog 18 #[.slice A n c, .agg #[.slice C l lc, .slice D m mc], .slice E l kc] w fun e w' => e = .returned (.bool (boundB up consts needs ls)) ∧ Below w.heap.size w w' := by
  refine (callsIn_wide (n := 20)).1 ?_
  have hml : maxLen = 9223372036854775807 := rfl
  have hm : m = l := by have := hd.1; rw [List.length_map, hS.len] at this; omega
  subst hm
  have he : boundB up consts needs ls = (((List.range m).all fun i => goodB up (ls.getD i z0).lv) && (List.range m).all fun i => leL up (valF up consts needs ls i) (ls.getD i z0)) := by unfold boundB; rw [hl]
  obtain ⟨W0, hW0⟩ : ∃ W0, w.alloc (.cells #[.slice C m lc, .slice D m mc] 26) = W0 := ⟨_, rfl⟩
  have hb0 : Below w.heap.size w W0 := by rw [← hW0]; exact (Below.refl _ w).alloc (Nat.le_refl _) _
  have k0 : Blk W0 w.heap.size 26 #[.slice C m lc, .slice D m mc] := by rw [← hW0]; exact Blk.new w _ _
  obtain ⟨s0, s1⟩ := pair_cells k0
  have hRi := sright_any A n c up C D m lc m mc consts (needs.map casts) W0 (hT.later hb0) hn hn63 hM ((hr.below hb0).more hb0.size) hl (by omega) ((hc.below hb0).more hb0.size) hm63 ((hd.below hb0).more hb0.size)
  rw [hq] at hRi
  replace he := Lib.hid he
  replace hRi := Lib.hid hRi
  replace hb0 := Lib.hid hb0
  replace k0 := Lib.hid k0
  replace hr := Lib.hid hr
  replace hM := Lib.hid hM
  replace hT := Lib.hid hT
  replace hc := Lib.hid hc
  replace hd := Lib.hid hd
  replace hn := Lib.hid hn
  replace hl := Lib.hid hl
  replace hq := Lib.hid hq
  replace hS := Lib.hid hS
  replace hcm := Lib.hid hcm
  replace hll := Lib.hid hll
  replace hlm := Lib.hid hlm
  replace hL := Lib.hid hL
  refine callsIn_of_wp Tryd.func18 rfl trivial ?_ rfl
  simp only [Tryd.ntmps18, List.size_toArray, List.length_cons, List.length_nil, Nat.reduceAdd, Nat.reduceSub, Array.replicate_succ, Array.replicate_zero, List.push_toArray, List.append_toArray, List.nil_append, List.cons_append]
  gi_wp2_with (refine ⟨trivial, ?_⟩; gi_at_call 20; refine (callsIn_wide.2 hRi.out).mono ?_; rintro e w1 ⟨rfl, hb1⟩; have k1 := k0.out.below hb1 k0.out.lt; obtain ⟨s2, s3⟩ := pair_cells k1; have hB1 := Lib.hid (hb0.out.trans (hb1.mono hb0.out.size)); replace k1 := Lib.hid k1; clear hb1 s0 s1)
  gi_loopw [25] (fun v wr => ∃ i : Nat, v = .int .i64 (i : Nat) ∧ i ≤ m ∧ ((List.range i).all fun i => goodB up (ls.getD i z0).lv) = true ∧ Below w1.heap.size w1 wr) (fun v wr => m - natOf v)
  case atStart => exact ⟨0, rfl, by omega, by simp, Below.refl _ _⟩
  case round =>
    obtain ⟨i, rfl, him, hall, hbr⟩ := hrel
    have hBr := hB1.out.trans (hbr.mono hB1.out.size)
    have hsz := hbr.size
    have kr := k1.out.below hbr k1.out.lt
    by_cases hi : i < m
    · have hlt : ((i : Int) < (m : Int)) := by omega
      have hstep := all_succV i (fun i => goodB up (ls.getD i z0).lv)
      have hno := fun h => all_noV (q := fun i => goodB up (ls.getD i z0).lv) hi h
      rw [hall, Bool.true_and] at hstep
      obtain ⟨ad, hE, _, x0, x1⟩ := reads_label hll.out ((hL.out.below hBr).more hBr.size) hi
      subst hE
      change wr.cell? (ad.add (i * 2)) = some (Value.int .i64 (ls.getD i z0).lv) at x0
      change _ = some (Value.int .u64 ((ls.getD i z0).ms : Nat)) at x1
      generalize ls.getD i z0 = y at *
      obtain ⟨yv, ym⟩ := y
      dsimp only at x0 x1 hstep hno
      have hg : goodB up yv = (decide (0 ≤ yv) && decide (yv < (n : Int))) := by unfold goodB; rw [hn.out]
      obtain ⟨X, hX⟩ : ∃ X, wr.alloc (.cells #[.int .i64 yv, .int .u64 (ym : Nat)] 29) = X := ⟨_, rfl⟩
      have hbX : Below wr.heap.size wr X := by rw [← hX]; exact (Below.refl _ wr).alloc (Nat.le_refl _) _
      have kX : Blk X wr.heap.size 29 #[.int .i64 yv, .int .u64 (ym : Nat)] := by rw [← hX]; exact Blk.new wr _ _
      obtain ⟨y0, y1⟩ := pair_cells kX
      have hfb := Lib.hid (hbr.trans (hbX.mono hsz))
      have hfin := Lib.hid (hBr.trans (hbX.mono hBr.size))
      replace hall := Lib.hid hall
      replace hstep := Lib.hid hstep
      replace hno := Lib.hid hno
      replace hg := Lib.hid hg
      replace hbr := Lib.hid hbr
      replace hBr := Lib.hid hBr
      replace kr := Lib.hid kr
      replace kX := Lib.hid kX
      replace hbX := Lib.hid hbX
      by_cases h1 : yv < 0
      · have hres := hno.out (by rw [hg.out, decide_eq_false (show ¬ 0 ≤ yv by omega)]; rfl)
        replace hres := Lib.hid hres
        gi_wp2
        go_ret
        exact ⟨ret_bool (by rw [he.out, hres.out]; rfl), hfin.out⟩
      · by_cases h2 : (n : Int) ≤ yv
        · have hres := hno.out (by rw [hg.out, decide_eq_false (show ¬ yv < (n : Int) by omega)]; simp)
          replace hres := Lib.hid hres
          gi_wp2
          go_ret
          exact ⟨ret_bool (by rw [he.out, hres.out]; rfl), hfin.out⟩
        · have hyes := hstep.out
          rw [hg.out, decide_eq_true (show 0 ≤ yv by omega), decide_eq_true (show yv < (n : Int) by omega)] at hyes
          replace hyes := Lib.hid hyes
          gi_wp2
          go_roundw
          case rel => exact ⟨i + 1, by go_num, by omega, hyes.out, hfb.out⟩
          case measure => simp [natOf]; omega
    · have hie : i = m := by omega
      have hlt : ¬ ((i : Int) < (m : Int)) := by omega
      rw [hie] at hall
      have hLb : Lbs up m ls := ⟨hll.out, fun i hi => gd_iff.1 (List.all_eq_true.1 hall i (List.mem_range.2 hi))⟩
      have hTab := table_any A n c up wr hn.out hS.out.lat hM.out ((hr.out.below hBr).more hBr.size)
      replace hTab := Lib.hid hTab
      replace hall := Lib.hid hall
      replace hLb := Lib.hid hLb
      replace hbr := Lib.hid hbr
      replace hBr := Lib.hid hBr
      replace kr := Lib.hid kr
      gi_wp2_with (refine ⟨trivial, ?_⟩; gi_at_call 24; refine (callsIn_wide.2 hTab.out).mono ?_; rintro e w2 ⟨Z, z, rfl, hz2, hb2⟩)
      obtain ⟨X3, hX3⟩ : ∃ X3, w2.alloc (.cells #[.int .i64 (n : Nat), .slice Z (n * n) z] 54) = X3 := ⟨_, rfl⟩
      have hb3 : Below w2.heap.size w2 X3 := by rw [← hX3]; exact (Below.refl _ w2).alloc (Nat.le_refl _) _
      have kj : Blk X3 w2.heap.size 54 #[.int .i64 (n : Nat), .slice Z (n * n) z] := by rw [← hX3]; exact Blk.new w2 _ _
      have kr2 := kr.out.below hb2 kr.out.lt
      have kr3 := kr2.below hb3 kr2.lt
      have hB2 := hBr.out.trans (hb2.mono hBr.out.size)
      have hB3 := hB2.trans (hb3.mono hB2.size)
      have hZ3 := (hz2.below hb3).more hb3.size
      rw [hX3]
      replace hB3 := Lib.hid hB3
      replace hZ3 := Lib.hid hZ3
      replace kj := Lib.hid kj
      replace kr3 := Lib.hid kr3
      clear hb2 hz2 hb3 kr2 hB2 hX3
      gi_loopw [44] (fun v wr => ∃ i : Nat, v = .int .i64 (i : Nat) ∧ i ≤ m ∧ ((List.range i).all fun i => leL up (valF up consts needs ls i) (ls.getD i z0)) = true ∧ Below X3.heap.size X3 wr) (fun v wr => m - natOf v)
      case atStart => exact ⟨0, rfl, by omega, by simp, Below.refl _ _⟩
      case round =>
        obtain ⟨q, rfl, hqm, hall2, hb4⟩ := hrel
        have hB4 := hB3.out.trans (hb4.mono hB3.out.size)
        have hsz4 := hb4.size
        by_cases hq2 : q < m
        · have hltq : ((q : Int) < (m : Int)) := by omega
          have hstep := all_succV q (fun i => leL up (valF up consts needs ls i) (ls.getD i z0))
          have hno := fun h => all_noV (q := fun i => leL up (valF up consts needs ls i) (ls.getD i z0)) hq2 h
          rw [hall2, Bool.true_and] at hstep
          have hgx := hLb.out.gd q hq2
          have hmx := hlm.out q hq2
          have hgv := hS.out.val_gd (l := ls) (by rw [hl.out]; exact hLb.out) (i := q) (by rw [hl.out]; exact hq2)
          have hmv : (valF up consts needs ls q).ms < 2 ^ 64 := valTo_ms _ _ (hcm.out q (by rw [hl.out]; exact hq2)) fun k hk => hlm.out k (by have := hS.out.nd q (by rw [hl.out]; exact hq2) k hk; rw [hl.out] at this; exact this)
          have hiff := joinL_eq_iff hS.out.lat hgx hgv
          obtain ⟨ad, hE, hbk, x0, x1⟩ := reads_label hll.out ((hL.out.below hB4).more hB4.size) hq2
          subst hE
          change wr.cell? (ad.add (q * 2)) = some (Value.int .i64 (ls.getD q z0).lv) at x0
          change _ = some (Value.int .u64 ((ls.getD q z0).ms : Nat)) at x1
          have k4 := kj.out.below hb4 kj.out.lt
          have s4 := kr3.out.below hb4 kr3.out.lt
          obtain ⟨XT, f, hfb, hfall⟩ := class_below wr.heap.size wr
          have hx : ∃ y, f y = wr.drew := hfall _ (below_drewNs (Below.refl wr.heap.size wr) 1)
          have hne : Nonempty XT := hx.elim fun y _ => ⟨y⟩
          have j0 := fun y => (pair_cells (k4.below (hfb y) k4.lt)).1
          have j1 := fun y => (pair_cells (k4.below (hfb y) k4.lt)).2
          have t0 := fun y => (pair_cells (s4.below (hfb y) s4.lt)).1
          have t1 := fun y => (pair_cells (s4.below (hfb y) s4.lt)).2
          have y0 := fun y => ((hfb y).cell (p := ad.add (q * 2)) (by rw [block_of_add]; exact hbk)).trans x0
          have y1 := fun y => ((hfb y).cell (p := ⟨(ad.add (q * 2)).block, (ad.add (q * 2)).off + 1, none⟩) (show (ad.add (q * 2)).block < _ by rw [block_of_add]; exact hbk)).trans x1
          have hV := fun y => value_any n up Z z C D (some ad) m lc m mc kc consts needs ls q (f y) hn.out ((((hZ3.out.below hb4).more hsz4).below (hfb y)).more (hfb y).size) hS.out hcm.out hl.out (by omega) ((((hc.out.below hB4).more hB4.size).below (hfb y)).more (hfb y).size) ((((hd.out.below hB4).more hB4.size).below (hfb y)).more (hfb y).size) hLb.out hlm.out ((((hL.out.below hB4).more hB4.size).below (hfb y)).more (hfb y).size) hq2
          have hJ := fun y => jjoin_any n up Z z (ls.getD q z0) (valF up consts needs ls q) (f y) hn.out hS.out.lat ((((hZ3.out.below hb4).more hsz4).below (hfb y)).more (hfb y).size) hgx hgv hmx hmv
          have hEq := fun W => label_equalIn (joinL up (ls.getD q z0) (valF up consts needs ls q)).lv (ls.getD q z0).lv ((joinL up (ls.getD q z0) (valF up consts needs ls q)).ms : Nat) ((ls.getD q z0).ms : Nat) W
          have hcmp : ((joinL up (ls.getD q z0) (valF up consts needs ls q)).lv == (ls.getD q z0).lv && (((joinL up (ls.getD q z0) (valF up consts needs ls q)).ms : Nat) : Int) == (((ls.getD q z0).ms : Nat) : Int)) = leL up (valF up consts needs ls q) (ls.getD q z0) := by
            rw [Bool.eq_iff_iff, ← hiff, Bool.and_eq_true, beq_iff_eq, beq_iff_eq]
            generalize joinL up (ls.getD q z0) (valF up consts needs ls q) = a
            generalize ls.getD q z0 = b
            cases a
            cases b
            simp
            intro _
            omega
          rw [hcmp] at hEq
          have hB5 := fun y => hB4.trans ((hfb y).mono hB4.size)
          have hb5 := fun y => hb4.trans ((hfb y).mono hsz4)
          generalize valF up consts needs ls q = v at *
          generalize ls.getD q z0 = x at *
          generalize hjv : joinL up x v = jx at *
          generalize leL up v x = b at *
          replace hjv := Lib.hid hjv
          replace hV := Lib.hid hV
          replace hJ := Lib.hid hJ
          replace hB5 := Lib.hid hB5
          replace hb5 := Lib.hid hb5
          replace hstep := Lib.hid hstep
          replace hno := Lib.hid hno
          replace hall2 := Lib.hid hall2
          replace hb4 := Lib.hid hb4
          replace hB4 := Lib.hid hB4
          replace k4 := Lib.hid k4
          replace s4 := Lib.hid s4
          replace hfb := Lib.hid hfb
          replace hfall := Lib.hid hfall
          replace hiff := Lib.hid hiff
          replace hgx := Lib.hid hgx
          replace hgv := Lib.hid hgv
          clear hcmp x0 x1
          gi_wp2
          refine wpIn_region_class f 16 [true, true, true, true, true, true, true, true, true, true, true, true, true, true, true, true] hx (by kernel_rfl) (by kernel_rfl) ?_
          (simp only [List.take_succ_cons, List.take_zero]; (repeat (first | gi_big_quiet_step (fail) | (refine wpQuietIn_pass (fun _ _ _ _ => trivial) (by rfl) rfl ?_; simp only [List.setIfInBounds_toArray, List.set_cons_succ, List.set_cons_zero]) | (refine wpQuietIn_step (fun _ _ _ _ => trivial) ?_; intro K hK; refine Eq.mpr (if_pos (by rfl)) ?_; gi_big_quiet_op; gi_big_quiet_call ((first
            | (gi_at_call 30; exact class_law hfall.out (hfb.out _) (hfb.out _).size (callsIn_wide.2 (hV.out _)))
            | (gi_at_call 35; exact class_law hfall.out (hfb.out _) (hfb.out _).size (callsIn_wide.2 (hJ.out _)))))))); refine wpQuietIn_nil ?_)
          rintro W' ⟨y, rfl⟩
          have B6 := Lib.hid (hB5.out y)
          have b6 := Lib.hid (hb5.out y)
          clear j0 j1 t0 t1 y0 y1
          generalize f y = Y6 at *
          refine wpAnyIn_end (by kernel_rfl) ?_
          cases b with
          | true =>
            gi_wp2
            go_roundw
            case rel => exact ⟨q + 1, by go_num, by omega, hstep.out, b6.out⟩
            case measure => simp [natOf]; omega
          | false =>
            have hres := hno.out rfl
            replace hres := Lib.hid hres
            gi_wp2
            go_ret
            exact ⟨ret_bool (by rw [he.out, hres.out]; simp), B6.out⟩
        · have hqe : q = m := by omega
          have hltq : ¬ ((q : Int) < (m : Int)) := by omega
          rw [hqe] at hall2
          replace hall2 := Lib.hid hall2
          replace hB4 := Lib.hid hB4
          replace hb4 := Lib.hid hb4
          gi_wp2
          go_ret
          exact ⟨ret_bool (by rw [he.out, hall.out, hall2.out]; rfl), hB4.out⟩
end Go.Proofs.YtleckdbdhkgcpaaDoor
