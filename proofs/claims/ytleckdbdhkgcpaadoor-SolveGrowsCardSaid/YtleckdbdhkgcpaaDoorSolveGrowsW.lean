/- The walk of SolveGrows. -/
import Derived.Deep.RegionHeld3
import Derived.Deep.DeepCutAuto
import Derived.BigQuiet
import Derived.Test.YtleckdbdhkgcpaaDoorVg
import Derived.Test.YtleckdbdhkgcpaaDoorQh
import Derived.Test.YtleckdbdhkgcpaaDoorVa
import Derived.Test.YtleckdbdhkgcpaaDoorRl
namespace Go.Proofs.YtleckdbdhkgcpaaDoor
open Go.RowKit Go.Shelf Go.Idl
set_option linter.unusedSimpArgs false
set_option linter.unusedVariables false

set_option maxHeartbeats 40000000 in
set_option maxRecDepth 100000 in
theorem walkSolveGrows (A : Option Addr) (n c : Nat) (up : List Nat) (C D : Option Addr) (l lc m mc : Nat) (consts : List Lb) (needs : List (List Int)) (at_ need_ : Int) (x : Lb) (w : World) (hT : Tab w) (hn : up.length = n) (hn63 : n ≤ maxLen) (hM : Masks up) (hr : Reads w w.heap.size 1 A n (u64s up))
    (hl : consts.length = l) (hl63 : l ≤ maxLen) (hc : Reads w w.heap.size 2 C l (lbVals consts)) (hcm : ∀ k, (consts.getD k z0).ms < 2 ^ 64) (hm63 : m ≤ maxLen) (hd : NRows w w.heap.size D m needs) (hx : x.ms < 2 ^ 64) :
    Calls Tryd.prog 3 #[.agg #[.slice A n c, .slice C l lc, .slice D m mc, .int .i64 at_, .int .i64 need_, .int .i64 x.lv, .int .u64 (x.ms : Nat)]] w fun e w' => e = .returned (.bool true) ∧ Below w.heap.size w w' := by
  have hml : maxLen = 9223372036854775807 := rfl
  obtain ⟨xv, xm⟩ := x
  dsimp only at hx ⊢
  obtain ⟨i1, hi1, hz0, hz1, hz2⟩ := info_parts1 int_info1
  obtain ⟨X, hX⟩ : ∃ X, w.alloc (.cells #[.slice A n c, .slice C l lc, .slice D m mc, .int .i64 at_, .int .i64 need_, .int .i64 xv, .int .u64 (xm : Nat)] 31) = X := ⟨_, rfl⟩
  have hB0 : Below w.heap.size w X := by rw [← hX]; exact (Below.refl _ w).alloc (Nat.le_refl _) _
  have k0 : Blk X w.heap.size 31 #[.slice A n c, .slice C l lc, .slice D m mc, .int .i64 at_, .int .i64 need_, .int .i64 xv, .int .u64 (xm : Nat)] := by rw [← hX]; exact Blk.new w _ _
  have hsz : X.heap.size = w.heap.size + 1 := by rw [← hX]; simp
  have p0 := k0.cell 0
  have p1 := k0.cell 1
  have p2 := k0.cell 2
  have p3 := k0.cell 3
  have p4 := k0.cell 4
  have p5 := k0.cell 5
  have p6 := k0.cell 6
  simp at p0 p1 p2 p3 p4 p5 p6
  have hcell := Lib.hid (fun (W : World) (p : Addr) (v : Value) (h : Below X.heap.size X W) (hp : p.block < X.heap.size) (hv : X.cell? p = some v) => (h.cell hp).trans hv)
  have hFew := few_any C D l lc m mc needs X hm63 ((hd.below hB0).more hB0.size)
  have hAw := fun (W : World) (hb : Below w.heap.size w W) => awake_any W (hT.later hb)
  have hGo := fun (W : World) => good_any A n c up ⟨xv, xm⟩ W hn
  have hSolN := fun (W : World) (hb : Below w.heap.size w W) (h : sysB up consts needs = false) => solve_no A n c up C D l lc m mc consts needs W (hT.later hb) hn hn63 hM ((hr.below hb).more hb.size) hl hl63 ((hc.below hb).more hb.size) hm63 ((hd.below hb).more hb.size) h
  have hup : ∀ W, Below X.heap.size X W → Below w.heap.size w W := fun W h => hB0.trans (h.mono hB0.size)
  replace hup := Lib.hid hup
  replace hFew := Lib.hid hFew
  replace hAw := Lib.hid hAw
  replace hSolN := Lib.hid hSolN
  simp only [lbV] at hGo
  replace hGo := Lib.hid hGo
  replace hB0 := Lib.hid hB0
  replace k0 := Lib.hid k0
  replace hr := Lib.hid hr
  replace hM := Lib.hid hM
  replace hT := Lib.hid hT
  replace hc := Lib.hid hc
  replace hcm := Lib.hid hcm
  replace hd := Lib.hid hd
  replace hn := Lib.hid hn
  replace hl := Lib.hid hl
  replace hx := Lib.hid hx
  cases hf : fewB l m needs with
  | false =>
    replace hf := Lib.hid hf
    go_enter Tryd.func3, Tryd.ntmps3
    go_wp2_with fail
    refine hFew.out.mono ?_
    rintro e w1 ⟨rfl, hb1⟩
    rw [hf.out]
    replace hb1 := Lib.hid hb1
    go_wp2
    go_ret
    exact ⟨rfl, hup.out _ hb1.out⟩
  | true =>
    by_cases hbig : 8 < n
    · have h2 : ((8 : Int) < (n : Int)) := by omega
      replace hf := Lib.hid hf
      go_enter Tryd.func3, Tryd.ntmps3
      go_wp2_with fail
      refine hFew.out.mono ?_
      rintro e w1 ⟨rfl, hb1⟩
      rw [hf.out]
      replace hb1 := Lib.hid hb1
      have z0_ := hcell.out _ _ _ hb1.out (by simp <;> omega) p0
      have z1_ := hcell.out _ _ _ hb1.out (by simp <;> omega) p1
      have z2_ := hcell.out _ _ _ hb1.out (by simp <;> omega) p2
      have z3_ := hcell.out _ _ _ hb1.out (by simp <;> omega) p3
      have z4_ := hcell.out _ _ _ hb1.out (by simp <;> omega) p4
      have z5_ := hcell.out _ _ _ hb1.out (by simp <;> omega) p5
      have z6_ := hcell.out _ _ _ hb1.out (by simp <;> omega) p6
      go_wp2
      go_ret
      exact ⟨rfl, hup.out _ hb1.out⟩
    have h2 : ¬ ((8 : Int) < (n : Int)) := by omega
    cases hq : sysB up consts needs with
    | false =>
      replace hf := Lib.hid hf
      replace hq := Lib.hid hq
      go_enter Tryd.func3, Tryd.ntmps3
      go_wp2_with fail
      refine hFew.out.mono ?_
      rintro e w1 ⟨rfl, hb1⟩
      rw [hf.out]
      replace hb1 := Lib.hid hb1
      have z0_ := hcell.out _ _ _ hb1.out (by simp <;> omega) p0
      have z1_ := hcell.out _ _ _ hb1.out (by simp <;> omega) p1
      have z2_ := hcell.out _ _ _ hb1.out (by simp <;> omega) p2
      have z3_ := hcell.out _ _ _ hb1.out (by simp <;> omega) p3
      have z4_ := hcell.out _ _ _ hb1.out (by simp <;> omega) p4
      have z5_ := hcell.out _ _ _ hb1.out (by simp <;> omega) p5
      have z6_ := hcell.out _ _ _ hb1.out (by simp <;> omega) p6
      go_wp2_with fail
      refine (hSolN.out _ (hup.out _ hb1.out) hq.out).mono ?_
      rintro e w2 ⟨rfl, hb2'⟩
      have hb2 := Lib.hid (hb1.out.trans (hb2'.mono hb1.out.size))
      clear hb2' p0 p1 p2 p3 p4 p5 p6 z0_ z1_ z2_ z3_ z4_ z5_ z6_
      go_wp2_with fail
      refine (hAw.out w2 ?_).mono ?_
      · exact hup.out _ hb2.out
      rintro e0 wz ⟨rfl, hbz⟩
      replace hbz := Lib.hid hbz
      go_wp2_with fail
      go_ret
      exact ⟨rfl, Below.trans (hup.out _ hb2.out) (hbz.out.mono (Below.size (hup.out _ hb2.out)))⟩
    | true =>
      obtain ⟨N, rfl, hS⟩ := sysB_sys hM.out hq
      have hNm : N.length = m := by have := hd.out.1; rw [List.length_map] at this; exact this
      have hNl := hS.len
      rw [hl.out] at hNl
      obtain rfl : l = m := hNl.symm.trans hNm
      clear hNl
      have hfan := few_fan hf hNm
      obtain ⟨hl60, _, hlen60⟩ := fewB_iff.1 hf
      have hSol := fun (W : World) (hb : Below w.heap.size w W) => solve_yes A n c up C D l lc l mc consts N W (hT.out.later hb) hn.out hn63 hM.out ((hr.out.below hb).more hb.size) hl.out (by omega) ((hc.out.below hb).more hb.size) hm63 ((hd.out.below hb).more hb.size) hq hS (fun k _ => hcm.out k) hfan
      have hCop := fun (W : World) (hb : Below w.heap.size w W) => copied_any C D l lc l mc consts (N.map casts) W hl.out hl60 hl60 hlen60 ((hc.out.below hb).more hb.size) ((hd.out.below hb).more hb.size)
      replace hSol := Lib.hid hSol
      replace hCop := Lib.hid hCop
      replace hlen60 := Lib.hid hlen60
      replace hf := Lib.hid hf
      replace hS := Lib.hid hS
      replace hq := Lib.hid hq
      replace hNm := Lib.hid hNm
      by_cases hl0 : l = 0
      · subst hl0
        go_enter Tryd.func3, Tryd.ntmps3
        go_wp2_with fail
        refine hFew.out.mono ?_
        rintro e w1 ⟨rfl, hb1⟩
        rw [hf.out]
        replace hb1 := Lib.hid hb1
        have z0_ := hcell.out _ _ _ hb1.out (by simp <;> omega) p0
        have z1_ := hcell.out _ _ _ hb1.out (by simp <;> omega) p1
        have z2_ := hcell.out _ _ _ hb1.out (by simp <;> omega) p2
        have z3_ := hcell.out _ _ _ hb1.out (by simp <;> omega) p3
        have z4_ := hcell.out _ _ _ hb1.out (by simp <;> omega) p4
        have z5_ := hcell.out _ _ _ hb1.out (by simp <;> omega) p5
        have z6_ := hcell.out _ _ _ hb1.out (by simp <;> omega) p6
        go_wp2_with fail
        refine (hSol.out _ (hup.out _ hb1.out)).mono ?_
        rintro e w2 ⟨L, lL, lbs, looks, rfl, hL, hlL1, hlL2, hlst, hlbm, hlo, hhi, hb2'⟩
        have hb2 := Lib.hid (hb1.out.trans (hb2'.mono hb1.out.size))
        have hlen : lbs.length = 0 := hlst.lbs.len.trans hl.out
        rw [hl.out] at hlbm
        replace hL := Lib.hid hL
        replace hlst := Lib.hid hlst
        replace hlbm := Lib.hid hlbm
        replace hlen := Lib.hid hlen
        clear hb2' hlo hhi z0_ z1_ z2_ z3_ z4_ z5_ z6_
        go_wp2_with fail
        refine (hAw.out w2 ?_).mono ?_
        · exact hup.out _ hb2.out
        rintro e0 wz ⟨rfl, hbz⟩
        replace hbz := Lib.hid hbz
        go_wp2_with fail
        go_ret
        exact ⟨rfl, Below.trans (hup.out _ hb2.out) (hbz.out.mono (Below.size (hup.out _ hb2.out)))⟩
      have hlp : ((l : Int) == 0) = false := by simp; omega
      have hlp2 : ¬ (l : Int) = 0 := by omega
      cases hg : goodB up xv with
      | false =>
        replace hg := Lib.hid hg
        go_enter Tryd.func3, Tryd.ntmps3
        go_wp2_with fail
        refine hFew.out.mono ?_
        rintro e w1 ⟨rfl, hb1⟩
        rw [hf.out]
        replace hb1 := Lib.hid hb1
        have z0_ := hcell.out _ _ _ hb1.out (by simp <;> omega) p0
        have z1_ := hcell.out _ _ _ hb1.out (by simp <;> omega) p1
        have z2_ := hcell.out _ _ _ hb1.out (by simp <;> omega) p2
        have z3_ := hcell.out _ _ _ hb1.out (by simp <;> omega) p3
        have z4_ := hcell.out _ _ _ hb1.out (by simp <;> omega) p4
        have z5_ := hcell.out _ _ _ hb1.out (by simp <;> omega) p5
        have z6_ := hcell.out _ _ _ hb1.out (by simp <;> omega) p6
        go_wp2_with fail
        refine (hSol.out _ (hup.out _ hb1.out)).mono ?_
        rintro e w2 ⟨L, lL, lbs, looks, rfl, hL, hlL1, hlL2, hlst, hlbm, hlo, hhi, hb2'⟩
        have hb2 := Lib.hid (hb1.out.trans (hb2'.mono hb1.out.size))
        have hlen : lbs.length = l := hlst.lbs.len.trans hl.out
        rw [hl.out] at hlbm
        replace hL := Lib.hid hL
        replace hlst := Lib.hid hlst
        replace hlbm := Lib.hid hlbm
        replace hlen := Lib.hid hlen
        clear hb2' hlo hhi z0_ z1_ z2_ z3_ z4_ z5_ z6_
        have y0_ := hcell.out _ _ _ hb2.out (by simp <;> omega) p0
        have y1_ := hcell.out _ _ _ hb2.out (by simp <;> omega) p1
        have y2_ := hcell.out _ _ _ hb2.out (by simp <;> omega) p2
        have y3_ := hcell.out _ _ _ hb2.out (by simp <;> omega) p3
        have y4_ := hcell.out _ _ _ hb2.out (by simp <;> omega) p4
        have y5_ := hcell.out _ _ _ hb2.out (by simp <;> omega) p5
        have y6_ := hcell.out _ _ _ hb2.out (by simp <;> omega) p6
        go_wp2_with fail
        refine (hGo.out _).mono ?_
        rintro e w3 ⟨rfl, hb3'⟩
        rw [hg.out]
        have hb3 := Lib.hid (hb2.out.trans (hb3'.mono hb2.out.size))
        have hL3 := Lib.hid ((hL.out.below hb3').more hb3'.size)
        clear hb3' y0_ y1_ y2_ y3_ y4_ y5_ y6_
        go_wp2_with fail
        refine (hAw.out w3 ?_).mono ?_
        · exact hup.out _ hb3.out
        rintro e0 wz ⟨rfl, hbz⟩
        replace hbz := Lib.hid hbz
        go_wp2_with fail
        go_ret
        exact ⟨rfl, Below.trans (hup.out _ hb3.out) (hbz.out.mono (Below.size (hup.out _ hb3.out)))⟩
      | true =>
        have hgx : Gd up ⟨xv, xm⟩ := gd_iff.1 hg
        obtain ⟨a, ha, hal⟩ := wrap_idx at_ l (by omega) hl60
        obtain ⟨b, hb, hbl⟩ := wrap_idx need_ l (by omega) hl60
        have hS' := sys_grown hS.out (a := a) (b := b) (x := ⟨xv, xm⟩) (by rw [hl.out]; exact hal) (by rw [hl.out]; exact hbl) hgx
        have hlaw := fun (lbs lbs2 : List Lb) => @grows_law up consts N hS.out a b ⟨xv, xm⟩ (by rw [hl.out]; exact hal) (by rw [hl.out]; exact hbl) hgx lbs lbs2
        have hcl' : (consts.set a (joinL up (consts.getD a z0) ⟨xv, xm⟩)).length = l := by rw [List.length_set]; exact hl.out
        have hNl' : (N.set a (N.getD a [] ++ [b])).length = l := by rw [List.length_set]; exact hNm.out
        have hjm : (joinL up (consts.getD a z0) ⟨xv, xm⟩).ms < 2 ^ 64 := joinL_ms (hcm.out a) hx.out
        have hcm' : ∀ k, ((consts.set a (joinL up (consts.getD a z0) ⟨xv, xm⟩)).getD k z0).ms < 2 ^ 64 := by
          intro k
          rw [getD_setL]
          split
          · exact hjm
          · exact hcm.out k
        have hq' := sys_sysB (by have := hq.out; simp only [sysB, Bool.and_eq_true] at this; exact this.1.1.1) (by rw [hcl']; omega) hS'
        have hfan' : fanF (N.set a (N.getD a [] ++ [b])) ≤ 1000000 := fan_61 (by rw [hNl']; exact hl60) fun i hi => by
          have h6 := fun i hi => by have := hlen60.out i hi; rw [castss_getD, casts_len'] at this; exact this
          rw [List.getD_eq_getElem?_getD, List.getElem?_set]
          split
          · rename_i e
            subst e
            rw [if_pos (by rw [hNm.out]; exact hal)]
            have := h6 a hal
            simp only [Option.getD_some, List.length_append, List.length_cons, List.length_nil]
            omega
          · rw [← List.getD_eq_getElem?_getD]
            have := h6 i (by rw [hNl'] at hi; exact hi)
            omega
        have hrows : ∀ (F : Nat → List Int), (∀ k, F k = (N.map casts).getD k []) → (fun k => if k = a then F a ++ [(b : Int)] else F k) = fun k => ((N.set a (N.getD a [] ++ [b])).map casts).getD k [] := fun F hF => funext fun k => by
          rw [castss_set N a b k (by rw [hNm.out]; exact hal), hF a, hF k, castss_getD]
        have hJ := fun (W : World) (hb : Below w.heap.size w W) => rjoinL_any A n c up (consts.getD a z0) ⟨xv, xm⟩ W hn.out (by omega) hM.out ((hr.out.below hb).more hb.size) (hS.out.gd a (by rw [hl.out]; exact hal)) hgx (hcm.out a) hx.out
        generalize hNe : N.set a (N.getD a [] ++ [b]) = N' at *
        have hSol2 := fun (W : World) (hb : Below w.heap.size w W) (A1 : Option Addr) (c1 : Nat) (A2 : Option Addr) (c2 : Nat) (h1 : Reads W W.heap.size 2 A1 l (lbVals (consts.set a (joinL up (consts.getD a z0) ⟨xv, xm⟩)))) (h2 : NRows W W.heap.size A2 l (N'.map casts)) => solve_yes A n c up A1 A2 l c1 l c2 _ N' W (hT.out.later hb) hn.out hn63 hM.out ((hr.out.below hb).more hb.size) hcl' (by omega) h1 hm63 h2 hq' hS' (fun k _ => hcm' k) hfan'
        generalize hCe : consts.set a (joinL up (consts.getD a z0) ⟨xv, xm⟩) = consts' at *
        generalize hse : joinL up (consts.getD a z0) ⟨xv, xm⟩ = sv at *
        replace hlaw := Lib.hid hlaw
        replace hS' := Lib.hid hS'
        replace hcl' := Lib.hid hcl'
        replace hNl' := Lib.hid hNl'
        replace hcm' := Lib.hid hcm'
        replace hq' := Lib.hid hq'
        replace hrows := Lib.hid hrows
        replace hJ := Lib.hid hJ
        replace hSol2 := Lib.hid hSol2
        replace hNe := Lib.hid hNe
        replace hCe := Lib.hid hCe
        replace hse := Lib.hid hse
        replace hg := Lib.hid hg
        replace hgx := Lib.hid hgx
        have hai := ha
        have hbi := hb
        replace hai := Lib.hid hai
        replace hbi := Lib.hid hbi
        replace ha := Lib.hid ha
        replace hb := Lib.hid hb
        go_enter Tryd.func3, Tryd.ntmps3
        go_wp2_with fail
        refine hFew.out.mono ?_
        rintro e w1 ⟨rfl, hb1⟩
        rw [hf.out]
        replace hb1 := Lib.hid hb1
        have z0_ := hcell.out _ _ _ hb1.out (by simp <;> omega) p0
        have z1_ := hcell.out _ _ _ hb1.out (by simp <;> omega) p1
        have z2_ := hcell.out _ _ _ hb1.out (by simp <;> omega) p2
        have z3_ := hcell.out _ _ _ hb1.out (by simp <;> omega) p3
        have z4_ := hcell.out _ _ _ hb1.out (by simp <;> omega) p4
        have z5_ := hcell.out _ _ _ hb1.out (by simp <;> omega) p5
        have z6_ := hcell.out _ _ _ hb1.out (by simp <;> omega) p6
        go_wp2_with fail
        refine (hSol.out _ (hup.out _ hb1.out)).mono ?_
        rintro e w2 ⟨L, lL, lbs, looks, rfl, hL, hlL1, hlL2, hlst, hlbm, hlo, hhi, hb2'⟩
        have hb2 := Lib.hid (hb1.out.trans (hb2'.mono hb1.out.size))
        have hlen : lbs.length = l := hlst.lbs.len.trans hl.out
        rw [hl.out] at hlbm
        replace hL := Lib.hid hL
        replace hlst := Lib.hid hlst
        replace hlbm := Lib.hid hlbm
        replace hlen := Lib.hid hlen
        clear hb2' hlo hhi z0_ z1_ z2_ z3_ z4_ z5_ z6_
        have y0_ := hcell.out _ _ _ hb2.out (by simp <;> omega) p0
        have y1_ := hcell.out _ _ _ hb2.out (by simp <;> omega) p1
        have y2_ := hcell.out _ _ _ hb2.out (by simp <;> omega) p2
        have y3_ := hcell.out _ _ _ hb2.out (by simp <;> omega) p3
        have y4_ := hcell.out _ _ _ hb2.out (by simp <;> omega) p4
        have y5_ := hcell.out _ _ _ hb2.out (by simp <;> omega) p5
        have y6_ := hcell.out _ _ _ hb2.out (by simp <;> omega) p6
        go_wp2_with fail
        refine (hGo.out _).mono ?_
        rintro e w3 ⟨rfl, hb3'⟩
        rw [hg.out]
        have hb3 := Lib.hid (hb2.out.trans (hb3'.mono hb2.out.size))
        have hL3 := Lib.hid ((hL.out.below hb3').more hb3'.size)
        clear hb3' y0_ y1_ y2_ y3_ y4_ y5_ y6_
        have z0_ := hcell.out _ _ _ hb3.out (by simp <;> omega) p0
        have z1_ := hcell.out _ _ _ hb3.out (by simp <;> omega) p1
        have z2_ := hcell.out _ _ _ hb3.out (by simp <;> omega) p2
        have z3_ := hcell.out _ _ _ hb3.out (by simp <;> omega) p3
        have z4_ := hcell.out _ _ _ hb3.out (by simp <;> omega) p4
        have z5_ := hcell.out _ _ _ hb3.out (by simp <;> omega) p5
        have z6_ := hcell.out _ _ _ hb3.out (by simp <;> omega) p6
        go_upto_region 6 with fail
        go_quiet (fail)
        rw [hai.out, hbi.out]
        have hb4 := Lib.hid (below_drewN hb3.out nq)
        have hL4 : RowKit.Hid (Reads (w3.drewN nq) (w3.drewN nq).heap.size 2 L l (lbVals lbs)) := Lib.hid (hL3.out.drewN nq)
        clear z0_ z1_ z2_ z3_ z4_ z5_ z6_
        have z0_ := hcell.out _ _ _ (hb4.out) (by simp <;> omega) p0
        have z1_ := hcell.out _ _ _ (hb4.out) (by simp <;> omega) p1
        have z2_ := hcell.out _ _ _ (hb4.out) (by simp <;> omega) p2
        have z3_ := hcell.out _ _ _ (hb4.out) (by simp <;> omega) p3
        have z4_ := hcell.out _ _ _ (hb4.out) (by simp <;> omega) p4
        have z5_ := hcell.out _ _ _ (hb4.out) (by simp <;> omega) p5
        have z6_ := hcell.out _ _ _ (hb4.out) (by simp <;> omega) p6
        clear hb3 hL3
        generalize w3.drewN nq = w4 at *
        go_wp2_with fail
        refine (hCop.out _ (hup.out _ hb4.out)).mono ?_
        rintro e w5 ⟨A1, c1, A2, c2, row, rfl, hO2, hR2, hb5'⟩
        obtain ⟨Y, hY⟩ : ∃ Y, w5.alloc (.cells #[.slice A1 l c1, .slice A2 l c2] 26) = Y := ⟨_, rfl⟩
        have kY : Blk Y w5.heap.size 26 #[.slice A1 l c1, .slice A2 l c2] := by rw [← hY]; exact Blk.new _ _ _
        have hbYY : Below w4.heap.size w4 Y := by rw [← hY]; exact hb5'.alloc hb5'.size _
        have hbY := Lib.hid (hb4.out.trans (hbYY.mono hb4.out.size))
        have hO : Y.ownsRow w4.heap.size 29 2 (.slice A1 l c1) l (lbVals consts) := by rw [← hY]; exact hO2.alloc _
        have hR : OwnRows Y 3 40 w4.heap.size (.slice A2 l c2) l (fun k => (N.map casts).getD k []) row := by rw [← hY]; exact hR2.below ((Below.refl _ _).alloc (Nat.le_refl _) _)
        have hsY : Y.heap.size = w5.heap.size + 1 := by rw [← hY]; simp
        have hLY := Lib.hid ((hL4.out.below (hbYY)).more hbYY.size)
        obtain ⟨g1, cur, hA1, hgb, kg, hcur, hset⟩ := own_labelsV hO (by omega) hl.out
        subst hA1
        obtain ⟨g2, hA2⟩ := hR.at0 (by omega)
        subst hA2
        obtain ⟨s0, s1⟩ := pair_cells kY
        obtain ⟨cu0, cu1⟩ := hcur a hal
        have ha0 := add0' g1 (a * 2)
        have q0 : Y.cell? ⟨g1, a * 2, none⟩ = some (.int .i64 (consts.getD a z0).lv) := by rw [kg.cell]; exact cu0
        have q1 : Y.cell? ⟨g1, a * 2 + 1, none⟩ = some (.int .u64 ((consts.getD a z0).ms : Nat)) := by rw [kg.cell]; exact cu1
        obtain ⟨sv, sm⟩ := sv
        have hse2 : ∀ W, Blk W g1 29 ((cur.setIfInBounds (a * 2) (.int .i64 sv)).setIfInBounds (a * 2 + 1) (.int .u64 (sm : Nat))) → Reads W W.heap.size 2 (some ⟨g1, 0, none⟩) l (lbVals consts') := fun W h => by
          rw [← hCe.out]
          exact hset a ⟨sv, sm⟩ W hal h
        dsimp only at hjm
        replace hJ := hJ.out
        generalize consts.getD a z0 = ev at *
        obtain ⟨ev, em⟩ := ev
        dsimp only at q0 q1 cu0 cu1
        simp only [lbV] at hJ
        obtain ⟨P8, hP8⟩ : ∃ P8 : World → Prop, ∀ wx, P8 wx ↔ Blk wx g1 29 ((cur.setIfInBounds (a * 2) (.int .i64 sv)).setIfInBounds (a * 2 + 1) (.int .u64 (sm : Nat))) ∧ OwnRows wx 3 40 w4.heap.size (.slice (some ⟨g2, 0, none⟩) l c2) l (fun k => (N.map casts).getD k []) row ∧ Below w4.heap.size w4 wx ∧ Blk wx w5.heap.size 26 #[.slice (some ⟨g1, 0, none⟩) l c1, .slice (some ⟨g2, 0, none⟩) l c2] := ⟨_, fun _ => Iff.rfl⟩
        clear z0_ z1_ z2_ z3_ z4_ z5_ z6_
        have y0_ := hcell.out _ _ _ (hbY.out) (by simp <;> omega) p0
        have y1_ := hcell.out _ _ _ (hbY.out) (by simp <;> omega) p1
        have y2_ := hcell.out _ _ _ (hbY.out) (by simp <;> omega) p2
        have y3_ := hcell.out _ _ _ (hbY.out) (by simp <;> omega) p3
        have y4_ := hcell.out _ _ _ (hbY.out) (by simp <;> omega) p4
        have y5_ := hcell.out _ _ _ (hbY.out) (by simp <;> omega) p5
        have y6_ := hcell.out _ _ _ (hbY.out) (by simp <;> omega) p6
        have hcellY := Lib.hid (fun (W : World) (p : Addr) (v : Value) (h : Below Y.heap.size Y W) (hp : p.block < Y.heap.size) (hv : Y.cell? p = some v) => (h.cell hp).trans hv)
        replace hJ := Lib.hid hJ
        replace hP8 := Lib.hid hP8
        replace hse2 := Lib.hid hse2
        replace hset := Lib.hid hset
        replace hcur := Lib.hid hcur
        replace cu0 := Lib.hid cu0
        replace cu1 := Lib.hid cu1
        replace kg := Lib.hid kg
        replace kY := Lib.hid kY
        replace hO := Lib.hid hO
        replace hR := Lib.hid hR
        replace hbYY := Lib.hid hbYY
        clear hO2 hR2 hb5'
        have hkk : ((a : Int) < (l : Int)) := by omega
        have hg1s := kg.out.lt
        have hw5s := kY.out.lt
        have hws := Nat.lt_of_lt_of_le (show w.heap.size < X.heap.size by omega) hbY.out.size
        go_upto_region 8 with fail
        go_cut [] (fun wx => P8 wx)
        case first =>
          refine wp_region_T 13 (S := (fun w' => w'.cell? ⟨w5.heap.size, 0, none⟩ = some (.slice (some ⟨g1, 0, none⟩) l c1) ∧ w'.cell? ⟨w.heap.size, 0, none⟩ = some (.slice A n c) ∧ w'.cell? ⟨w.heap.size, 5, none⟩ = some (.int .i64 xv) ∧ w'.cell? ⟨w.heap.size, 6, none⟩ = some (.int .u64 (xm : Nat)) ∧ w'.cell? ⟨g1, a * 2, none⟩ = some (.int .i64 ev) ∧ w'.cell? ⟨g1, a * 2 + 1, none⟩ = some (.int .u64 (em : Nat)))) (by kernel_rfl) (by (refine ⟨?_, ?_, ?_, ?_, ?_, ?_⟩ <;> refine hcellY.out _ _ _ ?_ (by first | omega | (simp <;> omega)) (by assumption) <;> (repeat (first | with_reducible exact hb7.out | with_reducible exact Below.refl _ _ | with_reducible refine Below.drew ?_ | (with_reducible refine Below.alloc ?_ ?_ _; rotate_left; · first | omega | (simp <;> omega)) | (with_reducible refine Below.setCell ?_ ?_ _; rotate_left; · first | omega | (simp <;> omega)))))) (fun hHeld => ?_)
          refine wpAnyT_take (i := 0) (v := ?_) rfl (by decide) (by kernel_rfl) (by kernel_rfl) (by kernel_rfl) (by kernel_rfl) (fun _ _ _ h => h) (Or.inl ⟨by rfl, ?_⟩) hHeld ?_
          rotate_left
          · intro w' hSw
            (try dsimp only at hSw)
            go_simp
            try with_reducible rfl
          try simp only [Act.put, List.setIfInBounds_toArray, List.set_cons_zero, List.set_cons_succ]
          refine wpAnyT_take (i := 1) (v := ?_) rfl (by decide) (by kernel_rfl) (by kernel_rfl) (by kernel_rfl) (by kernel_rfl) (fun _ _ _ h => h) (Or.inl ⟨by rfl, ?_⟩) hHeld ?_
          rotate_left
          · intro w' hSw
            (try dsimp only at hSw)
            go_simp
            try with_reducible rfl
          try simp only [Act.put, List.setIfInBounds_toArray, List.set_cons_zero, List.set_cons_succ]
          refine wpAnyT_take (i := 2) (v := ?_) rfl (by decide) (by kernel_rfl) (by kernel_rfl) (by kernel_rfl) (by kernel_rfl) (fun _ _ _ h => h) (Or.inl ⟨by rfl, ?_⟩) hHeld ?_
          rotate_left
          · intro w' hSw
            (try dsimp only at hSw)
            go_simp
            try with_reducible rfl
          try simp only [Act.put, List.setIfInBounds_toArray, List.set_cons_zero, List.set_cons_succ]
          refine wpAnyT_take (i := 3) (v := ?_) rfl (by decide) (by kernel_rfl) (by kernel_rfl) (by kernel_rfl) (by kernel_rfl) (fun _ _ _ h => h) (Or.inl ⟨by rfl, ?_⟩) hHeld ?_
          rotate_left
          · intro w' hSw
            (try dsimp only at hSw)
            go_simp
            try with_reducible rfl
          try simp only [Act.put, List.setIfInBounds_toArray, List.set_cons_zero, List.set_cons_succ]
          refine wpAnyT_take (i := 4) (v := ?_) rfl (by decide) (by kernel_rfl) (by kernel_rfl) (by kernel_rfl) (by kernel_rfl) (fun _ _ _ h => h) (Or.inl ⟨by rfl, ?_⟩) hHeld ?_
          rotate_left
          · intro w' hSw
            (try dsimp only at hSw)
            go_simp
            try with_reducible rfl
          try simp only [Act.put, List.setIfInBounds_toArray, List.set_cons_zero, List.set_cons_succ]
          refine wpAnyT_take (i := 5) (v := ?_) rfl (by decide) (by kernel_rfl) (by kernel_rfl) (by kernel_rfl) (by kernel_rfl) (fun _ _ _ h => h) (Or.inl ⟨by rfl, ?_⟩) hHeld ?_
          rotate_left
          · intro w' hSw
            (try dsimp only at hSw)
            go_simp
            try with_reducible rfl
          try simp only [Act.put, List.setIfInBounds_toArray, List.set_cons_zero, List.set_cons_succ]
          refine wpAnyT_take (i := 6) (v := ?_) rfl (by decide) (by kernel_rfl) (by kernel_rfl) (by kernel_rfl) (by kernel_rfl) (fun _ _ _ h => h) (Or.inl ⟨by rfl, ?_⟩) hHeld ?_
          rotate_left
          · intro w' hSw
            (try dsimp only at hSw)
            go_simp
            try with_reducible rfl
          try simp only [Act.put, List.setIfInBounds_toArray, List.set_cons_zero, List.set_cons_succ]
          refine wpAnyT_take (i := 7) (v := ?_) rfl (by decide) (by kernel_rfl) (by kernel_rfl) (by kernel_rfl) (by kernel_rfl) (fun _ _ _ h => h) (Or.inl ⟨by rfl, ?_⟩) hHeld ?_
          rotate_left
          · intro w' hSw
            (try dsimp only at hSw)
            go_simp
            try with_reducible rfl
          try simp only [Act.put, List.setIfInBounds_toArray, List.set_cons_zero, List.set_cons_succ]
          refine wpAnyT_take (i := 8) (v := ?_) rfl (by decide) (by kernel_rfl) (by kernel_rfl) (by kernel_rfl) (by kernel_rfl) (fun _ _ _ h => h) (Or.inl ⟨by rfl, ?_⟩) hHeld ?_
          rotate_left
          · intro w' hSw
            (try dsimp only at hSw)
            go_simp
            try with_reducible rfl
          try simp only [Act.put, List.setIfInBounds_toArray, List.set_cons_zero, List.set_cons_succ]
          refine wpAnyT_take (i := 9) (v := ?_) rfl (by decide) (by kernel_rfl) (by kernel_rfl) (by kernel_rfl) (by kernel_rfl) (fun _ _ _ h => h) (Or.inl ⟨by rfl, ?_⟩) hHeld ?_
          rotate_left
          · intro w' hSw
            (try dsimp only at hSw)
            go_simp
            try with_reducible rfl
          try simp only [Act.put, List.setIfInBounds_toArray, List.set_cons_zero, List.set_cons_succ]
          refine wpAnyT_take (i := 10) (v := ?_) rfl (by decide) (by kernel_rfl) (by kernel_rfl) (by kernel_rfl) (by kernel_rfl) (fun _ _ _ h => h) (Or.inl ⟨by rfl, ?_⟩) hHeld ?_
          rotate_left
          · intro w' hSw
            (try dsimp only at hSw)
            go_simp
            try with_reducible rfl
          try simp only [Act.put, List.setIfInBounds_toArray, List.set_cons_zero, List.set_cons_succ]
          refine wpAnyT_take (i := 11) (v := ?_) rfl (by decide) (by kernel_rfl) (by kernel_rfl) (by kernel_rfl) (by kernel_rfl) (fun _ _ _ h => h) (Or.inl ⟨by rfl, ?_⟩) hHeld ?_
          rotate_left
          · intro w' hSw
            (try dsimp only at hSw)
            go_simp
            try with_reducible rfl
          try simp only [Act.put, List.setIfInBounds_toArray, List.set_cons_zero, List.set_cons_succ]
          refine wpAnyT_head (i := 12) (by kernel_rfl) rfl (fun K hK => ?_)
          rw [if_pos (by rfl)]
          go_wp2_with (
            go_at_call 13
            refine (hJ.out _ ?_).mono ?_
            · exact hup.out _ (hbY.out.trans ((show Below Y.heap.size Y _ by (repeat (first  | with_reducible exact Below.refl _ _ | with_reducible refine Below.drew ?_ | (with_reducible refine Below.alloc ?_ ?_ _; rotate_left; · first | omega | (simp <;> omega)) | (with_reducible refine Below.setCell ?_ ?_ _; rotate_left; · first | omega | (simp <;> omega))))).mono hbY.out.size))
            rintro e0 w7 ⟨rfl, hb7'⟩
            have hb7 := Lib.hid (Below.trans (show Below Y.heap.size Y _ by (repeat (first  | with_reducible exact Below.refl _ _ | with_reducible refine Below.drew ?_ | (with_reducible refine Below.alloc ?_ ?_ _; rotate_left; · first | omega | (simp <;> omega)) | (with_reducible refine Below.setCell ?_ ?_ _; rotate_left; · first | omega | (simp <;> omega))))) (hb7'.mono (by first | omega | (simp <;> omega))))
            have kg7 := kg.out.below hb7.out kg.out.lt
            have kf0 := kg7.frozen (a * 2)
            have kf1 := kg7.frozen (a * 2 + 1)
            have q07 := (kg7.cell (a * 2)).trans cu0.out
            have q17 := (kg7.cell (a * 2 + 1)).trans cu1.out
            have s07 := (pair_cells (kY.out.below hb7.out kY.out.lt)).1
            have fin := fun u v => set_step kg7 (hR.out.below hb7.out) (kY.out.below hb7.out kY.out.lt) (hbYY.out.trans (hb7.out.mono hbYY.out.size)) (by decide) (by decide) (by decide) hgb (a * 2) (a * 2 + 1) u v
            replace fin := Lib.hid fin
            replace kg7 := Lib.hid kg7
            clear hb7')
          refine hK.out _ _ (by (refine ⟨?_, ?_, ?_, ?_, ?_, ?_⟩ <;> refine hcellY.out _ _ _ ?_ (by first | omega | (simp <;> omega)) (by assumption) <;> (repeat (first | with_reducible exact hb7.out | with_reducible exact Below.refl _ _ | with_reducible refine Below.drew ?_ | (with_reducible refine Below.alloc ?_ ?_ _; rotate_left; · first | omega | (simp <;> omega)) | (with_reducible refine Below.setCell ?_ ?_ _; rotate_left; · first | omega | (simp <;> omega)))))) (fun hHeld => ?_)
          clear hK K
          try simp only [Act.put, List.setIfInBounds_toArray, List.set_cons_zero, List.set_cons_succ]
          refine wpAnyT_tail (i := 13) (by kernel_rfl) (by decide) rfl (fun K hK => ?_)
          go_simp
          refine hK.out _ _ ?_
          clear hK K
          try simp only [Act.put, List.setIfInBounds_toArray, List.set_cons_zero, List.set_cons_succ]
          refine wpAnyT_tail (i := 14) (by kernel_rfl) (by decide) rfl (fun K hK => ?_)
          go_simp
          refine hK.out _ _ ?_
          clear hK K
          try simp only [Act.put, List.setIfInBounds_toArray, List.set_cons_zero, List.set_cons_succ]
          refine wpAnyT_done (by kernel_rfl) ?_ _
          go_wp2_with fail
          go_meet
          exact (hP8.out _).2 (fin.out _ _)
        case rest =>
          have hcut2 := (hP8.out _).1 hcut
          obtain ⟨V, hV0, rfl⟩ : ∃ V, P8 V ∧ V = _ := ⟨_, hcut, rfl⟩
          clear hV0 hcut
          obtain ⟨kgV, hRV, hBV, kxV⟩ := hcut2
          clear s0 s1 q0 q1
          obtain ⟨s0, s1⟩ := pair_cells kxV
          have hbV := Lib.hid (hb4.out.trans (hBV.mono hb4.out.size))
          have hLV := Lib.hid ((hL4.out.below hBV).more hBV.size)
          obtain ⟨Aa, ca, er, hro⟩ := hRV.rows a hal
          obtain ⟨cur3, kl, hcl⟩ := hRV.blk
          have v0 : V.cell? ⟨g2, a, none⟩ = some (row a) := by rw [kl.cell]; exact hcl a hal
          have a0 : (⟨g2, 0, none⟩ : Addr).add a = ⟨g2, a, none⟩ := add0' g2 a
          have hla := hlen60.out a hal
          have hsV := kxV.lt
          have hsg := kl.lt
          have hsV9 := hBV.size
          obtain ⟨P9, hP9⟩ : ∃ P9 : World → Prop, ∀ wx, P9 wx ↔ Reads wx wx.heap.size 2 (some ⟨g1, 0, none⟩) l (lbVals consts') ∧ NRows wx wx.heap.size (some ⟨g2, 0, none⟩) l (N'.map casts) ∧ Below w4.heap.size w4 wx ∧ Blk wx w5.heap.size 26 #[.slice (some ⟨g1, 0, none⟩) l c1, .slice (some ⟨g2, 0, none⟩) l c2] := ⟨_, fun _ => Iff.rfl⟩
          have hfl : ∀ (w6 : World) (v' : Value), w6.ownsRow w4.heap.size 3 1 v' (((N.map casts).getD a []).length + 1) (nums ((N.map casts).getD a []) ++ [Value.int .i64 (b : Nat)]) → (V.alloc (.cells [Value.int .i64 (b : Nat)].toArray 3)).grownBy w6 (row a).ownBlock →
              (v'.ownBlock = (row a).ownBlock ∨ v'.ownBlock = some (V.alloc (.cells [Value.int .i64 (b : Nat)].toArray 3)).heap.size) → P9 (w6.setCell ⟨g2, a, none⟩ v') ∧ Blk w6 w5.heap.size 26 #[.slice (some ⟨g1, 0, none⟩) l c1, .slice (some ⟨g2, 0, none⟩) l c2] ∧ w6.cell? ⟨g2, a, none⟩ = some (row a) ∧ w6.frozen? ⟨g2, a, none⟩ = false ∧ (w6.setCell ⟨g2, a, none⟩ v').cell? ⟨w5.heap.size, 1, none⟩ = some (.slice (some ⟨g2, 0, none⟩) l c2) := by
            intro w6 v' ho hg hat
            have e : nums ((N.map casts).getD a []) ++ [Value.int .i64 (b : Nat)] = nums ((N.map casts).getD a [] ++ [(b : Int)]) := by simp [nums]
            rw [e] at ho
            obtain ⟨b1, b2, b3, b4, b5, b6, b7⟩ := grow_step hRV kgV kxV (by decide) (by decide) (by decide) (by decide) (by decide) hBV.size hal ho hg hat
            rw [hrows.out (fun k => (N.map casts).getD k []) (fun _ => rfl)] at b1
            exact ⟨(hP9 _).2 ⟨hse2.out _ b3, b1.nrows (by rw [List.length_map]; exact hNl'.out), hBV.trans b2, b4⟩, b5, b6, b7, (pair_cells b4).2⟩
          rw [er] at v0 hro hfl
          generalize (N.map casts).getD a [] = fl at *
          obtain ⟨LN, hLN⟩ : ∃ LN, LN = fl.length := ⟨_, rfl⟩
          rw [← hLN] at v0 hla hro hfl
          have v0a : (V.alloc (.cells #[Value.int .i64 (b : Nat)] 3)).cell? ⟨g2, a, none⟩ = some (.slice Aa LN ca) := (World.cell?_alloc_lt V _ _ hsg).trans v0
          have hcellV := Lib.hid (fun (W : World) (p : Addr) (v : Value) (h : Below V.heap.size V W) (hp : p.block < V.heap.size) (hv : V.cell? p = some v) => (h.cell hp).trans hv)
          clear y0_ y1_ y2_ y3_ y4_ y5_ y6_
          replace hfl := Lib.hid hfl
          replace hP9 := Lib.hid hP9
          replace er := Lib.hid er
          replace hro := Lib.hid hro
          replace hLN := Lib.hid hLN
          replace hcl := Lib.hid hcl
          replace kl := Lib.hid kl
          replace kgV := Lib.hid kgV
          replace hRV := Lib.hid hRV
          replace kxV := Lib.hid kxV
          replace hBV := Lib.hid hBV
          replace hY := Lib.hid hY
          go_upto_region 9 with fail
          go_cut [] (fun wx => P9 wx)
          case first =>
            refine wp_region_T 11 (S := (fun w' => w'.cell? ⟨w5.heap.size, 1, none⟩ = some (.slice (some ⟨g2, 0, none⟩) l c2) ∧ w'.cell? ⟨g2, a, none⟩ = some (.slice Aa LN ca))) (by kernel_rfl) (by (first | exact ⟨t1, f3⟩ | (refine ⟨?_, ?_⟩ <;> refine hcellV.out _ _ _ ?_ (by first | omega | (simp <;> omega)) (by assumption) <;> (repeat (first  | with_reducible exact Below.refl _ _ | with_reducible refine Below.drew ?_ | (with_reducible refine Below.alloc ?_ ?_ _; rotate_left; · first | omega | (simp <;> omega)) | (with_reducible refine Below.setCell ?_ ?_ _; rotate_left; · first | omega | (simp <;> omega))))))) (fun hHeld => ?_)
            refine wpAnyT_take (i := 0) (v := ?_) rfl (by decide) (by kernel_rfl) (by kernel_rfl) (by kernel_rfl) (by kernel_rfl) (fun _ _ _ h => h) (Or.inl ⟨by rfl, ?_⟩) hHeld ?_
            rotate_left
            · intro w' hSw
              (try dsimp only at hSw)
              go_simp
              try with_reducible rfl
            try simp only [Act.put, List.setIfInBounds_toArray, List.set_cons_zero, List.set_cons_succ]
            refine wpAnyT_take (i := 1) (v := ?_) rfl (by decide) (by kernel_rfl) (by kernel_rfl) (by kernel_rfl) (by kernel_rfl) (fun _ _ _ h => h) (Or.inl ⟨by rfl, ?_⟩) hHeld ?_
            rotate_left
            · intro w' hSw
              (try dsimp only at hSw)
              go_simp
              try with_reducible rfl
            try simp only [Act.put, List.setIfInBounds_toArray, List.set_cons_zero, List.set_cons_succ]
            refine wpAnyT_take (i := 2) (v := ?_) rfl (by decide) (by kernel_rfl) (by kernel_rfl) (by kernel_rfl) (by kernel_rfl) (fun _ _ _ h => h) (Or.inl ⟨by rfl, ?_⟩) hHeld ?_
            rotate_left
            · intro w' hSw
              (try dsimp only at hSw)
              go_simp
              try with_reducible rfl
            try simp only [Act.put, List.setIfInBounds_toArray, List.set_cons_zero, List.set_cons_succ]
            refine wpAnyT_take (i := 3) (v := ?_) rfl (by decide) (by kernel_rfl) (by kernel_rfl) (by kernel_rfl) (by kernel_rfl) (fun _ _ _ h => h) (Or.inl ⟨by rfl, ?_⟩) hHeld ?_
            rotate_left
            · intro w' hSw
              (try dsimp only at hSw)
              go_simp
              try with_reducible rfl
            try simp only [Act.put, List.setIfInBounds_toArray, List.set_cons_zero, List.set_cons_succ]
            refine wpAnyT_take (i := 4) (v := ?_) rfl (by decide) (by kernel_rfl) (by kernel_rfl) (by kernel_rfl) (by kernel_rfl) (fun _ _ _ h => h) (Or.inl ⟨by rfl, ?_⟩) hHeld ?_
            rotate_left
            · intro w' hSw
              (try dsimp only at hSw)
              go_simp
              try with_reducible rfl
            try simp only [Act.put, List.setIfInBounds_toArray, List.set_cons_zero, List.set_cons_succ]
            refine wpAnyT_take (i := 5) (v := ?_) rfl (by decide) (by kernel_rfl) (by kernel_rfl) (by kernel_rfl) (by kernel_rfl) (fun _ _ _ h => h) (Or.inl ⟨by rfl, ?_⟩) hHeld ?_
            rotate_left
            · intro w' hSw
              (try dsimp only at hSw)
              go_simp
              try with_reducible rfl
            try simp only [Act.put, List.setIfInBounds_toArray, List.set_cons_zero, List.set_cons_succ]
            refine wpAnyT_take (i := 6) (v := ?_) rfl (by decide) (by kernel_rfl) (by kernel_rfl) (by kernel_rfl) (by kernel_rfl) (fun _ _ _ h => h) (Or.inl ⟨by rfl, ?_⟩) hHeld ?_
            rotate_left
            · intro w' hSw
              (try dsimp only at hSw)
              go_simp
              try with_reducible rfl
            try simp only [Act.put, List.setIfInBounds_toArray, List.set_cons_zero, List.set_cons_succ]
            refine wpAnyT_take (i := 7) (v := ?_) rfl (by decide) (by kernel_rfl) (by kernel_rfl) (by kernel_rfl) (by kernel_rfl) (fun _ _ _ h => h) (Or.inl ⟨by rfl, ?_⟩) hHeld ?_
            rotate_left
            · intro w' hSw
              (try dsimp only at hSw)
              go_simp
              try with_reducible rfl
            try simp only [Act.put, List.setIfInBounds_toArray, List.set_cons_zero, List.set_cons_succ]
            refine wpAnyT_take (i := 8) (v := ?_) rfl (by decide) (by kernel_rfl) (by kernel_rfl) (by kernel_rfl) (by kernel_rfl) (fun _ _ _ h => h) (Or.inl ⟨by rfl, ?_⟩) hHeld ?_
            rotate_left
            · intro w' hSw
              (try dsimp only at hSw)
              go_simp
              try with_reducible rfl
            try simp only [Act.put, List.setIfInBounds_toArray, List.set_cons_zero, List.set_cons_succ]
            refine wpAnyT_head (i := 9) (by kernel_rfl) rfl (fun K hK => ?_)
            go_simp
            refine hK.out _ _ (by (first | exact ⟨t1, f3⟩ | (refine ⟨?_, ?_⟩ <;> refine hcellV.out _ _ _ ?_ (by first | omega | (simp <;> omega)) (by assumption) <;> (repeat (first  | with_reducible exact Below.refl _ _ | with_reducible refine Below.drew ?_ | (with_reducible refine Below.alloc ?_ ?_ _; rotate_left; · first | omega | (simp <;> omega)) | (with_reducible refine Below.setCell ?_ ?_ _; rotate_left; · first | omega | (simp <;> omega))))))) (fun hHeld => ?_)
            clear hK K
            try simp only [Act.put, List.setIfInBounds_toArray, List.set_cons_zero, List.set_cons_succ]
            refine wpAnyT_head (i := 10) (by kernel_rfl) rfl (fun K hK => ?_)
            refine step_append_any _ (by rfl) _ _ _ (by rfl) w4.heap.size 3 i1 (.int .i64 0) 1 8 Tryd.underlying40 hi1 hz0 hz1 hz2 rfl (by decide) (.slice Aa LN ca) LN (nums fl) (by rfl) (by (repeat (first | with_reducible exact hro.out | with_reducible refine World.ownsRow.alloc ?_ _ | with_reducible refine World.ownsRow.drew ?_))) _ _ 1 1 [.int .i64 (b : Nat)] (by rfl) (by (repeat (first | exact Reads.newN _ 3 1 1 [.int .i64 (b : Nat)] rfl | with_reducible refine Reads.drew ?_))) (by simp [Value.oneCell']) (by first | omega | (simp <;> omega)) (by first | omega | (simp <;> omega)) (Nat.le_trans hsV9 (by simp)) ?_
            intro v' w6 ho6 hg6 hat6
            obtain ⟨A5, c5, rfl⟩ := ownsRow_slice ho6
            obtain ⟨f1, f2, f3, f4, f5⟩ := hfl.out w6 _ ho6 (grown_of hg6 rfl rfl rfl rfl) hat6
            obtain ⟨t0, t1⟩ := pair_cells f2
            replace f1 := Lib.hid f1
            replace f5 := Lib.hid f5
            replace f2 := Lib.hid f2
            clear ho6 hg6 hat6
            refine hK.out _ _ (by (first | exact ⟨t1, f3⟩ | (refine ⟨?_, ?_⟩ <;> refine hcellV.out _ _ _ ?_ (by first | omega | (simp <;> omega)) (by assumption) <;> (repeat (first  | with_reducible exact Below.refl _ _ | with_reducible refine Below.drew ?_ | (with_reducible refine Below.alloc ?_ ?_ _; rotate_left; · first | omega | (simp <;> omega)) | (with_reducible refine Below.setCell ?_ ?_ _; rotate_left; · first | omega | (simp <;> omega))))))) (fun hHeld => ?_)
            clear hK K
            try simp only [Act.put, List.setIfInBounds_toArray, List.set_cons_zero, List.set_cons_succ]
            refine wpAnyT_tail (i := 11) (by kernel_rfl) (by decide) rfl (fun K hK => ?_)
            go_simp
            refine hK.out _ _ ?_
            clear hK K
            try simp only [Act.put, List.setIfInBounds_toArray, List.set_cons_zero, List.set_cons_succ]
            refine wpAnyT_tail (i := 12) (by kernel_rfl) (by decide) rfl (fun K hK => ?_)
            go_simp
            refine hK.out _ _ ?_
            clear hK K
            try simp only [Act.put, List.setIfInBounds_toArray, List.set_cons_zero, List.set_cons_succ]
            refine wpAnyT_done (by kernel_rfl) ?_ _
            go_wp2_with fail
            go_meet
            exact f1.out
          case rest =>
            have hcut2 := (hP9.out _).1 hcut
            obtain ⟨V2, hV0, rfl⟩ : ∃ V, P9 V ∧ V = _ := ⟨_, hcut, rfl⟩
            clear hV0 hcut
            obtain ⟨hr2, hd2, hB2, kx2⟩ := hcut2
            clear s0 s1 v0 a0
            obtain ⟨s0, s1⟩ := pair_cells kx2
            have hbV2 := Lib.hid (hb4.out.trans (hB2.mono hb4.out.size))
            have hL5 := Lib.hid ((hL4.out.below hB2).more hB2.size)
            have z0_ := hcell.out _ _ _ (hbV2.out) (by simp <;> omega) p0
            have z1_ := hcell.out _ _ _ (hbV2.out) (by simp <;> omega) p1
            have z2_ := hcell.out _ _ _ (hbV2.out) (by simp <;> omega) p2
            have z3_ := hcell.out _ _ _ (hbV2.out) (by simp <;> omega) p3
            have z4_ := hcell.out _ _ _ (hbV2.out) (by simp <;> omega) p4
            have z5_ := hcell.out _ _ _ (hbV2.out) (by simp <;> omega) p5
            have z6_ := hcell.out _ _ _ (hbV2.out) (by simp <;> omega) p6
            replace hr2 := Lib.hid hr2
            replace hd2 := Lib.hid hd2
            replace hB2 := Lib.hid hB2
            replace kx2 := Lib.hid kx2
            go_wp2_with fail
            refine (hSol2.out _ (hup.out _ hbV2.out) _ _ _ _ hr2.out hd2.out).mono ?_
            rintro e w8 ⟨L2, lL2, lbs2, looks2, rfl, hM8, hlL3, hlL4, hlst2, hlbm2, hlo, hhi, hb8'⟩
            have hb8 := Lib.hid (hbV2.out.trans (hb8'.mono hbV2.out.size))
            have hL8 := Lib.hid ((hL5.out.below hb8').more hb8'.size)
            have hlen2 : lbs2.length = l := hlst2.lbs.len.trans hcl'.out
            rw [hcl'.out] at hlbm2
            have hund := hlaw.out lbs lbs2 hlst.out hlst2
            rw [hl.out] at hund
            replace hund := Lib.hid hund
            replace hM8 := Lib.hid hM8
            replace hlst2 := Lib.hid hlst2
            replace hlbm2 := Lib.hid hlbm2
            replace hlen2 := Lib.hid hlen2
            clear hb8' hlo hhi s0 s1
            clear z0_ z1_ z2_ z3_ z4_ z5_ z6_
            go_wp2_with fail
            go_loopw [12] (fun v wr => ∃ i : Nat, v = .int .i64 (i : Nat) ∧ i ≤ l ∧ Below w8.heap.size w8 wr) (fun v wr => l - natOf v)
            case atStart => exact ⟨0, rfl, by omega, Below.refl _ _⟩
            case round =>
              obtain ⟨i, rfl, him, hbr⟩ := hrel
              have hBr := hb8.out.trans (hbr.mono hb8.out.size)
              have hsr := hbr.size
              by_cases hi : i < l
              · have hlti : ((i : Int) < (l : Int)) := by omega
                have hle := hund.out i hi
                obtain ⟨ad1, hE1, hbk1, x10, x11⟩ := reads_label hlen.out ((hL8.out.below hbr).more hsr) hi
                obtain ⟨ad2, hE2, hbk2, x20, x21⟩ := reads_label hlen2.out ((hM8.out.below hbr).more hsr) hi
                subst hE1 hE2
                change wr.cell? (ad1.add (i * 2)) = some (Value.int .i64 (lbs.getD i z0).lv) at x10
                change _ = some (Value.int .u64 ((lbs.getD i z0).ms : Nat)) at x11
                change wr.cell? (ad2.add (i * 2)) = some (Value.int .i64 (lbs2.getD i z0).lv) at x20
                change _ = some (Value.int .u64 ((lbs2.getD i z0).ms : Nat)) at x21
                have hgx1 := hlst.out.lbs.gd i (by rw [hl.out]; exact hi)
                have hgx2 := hlst2.out.lbs.gd i (by rw [hcl'.out]; exact hi)
                have hmx := hlbm.out i hi
                have hmy := hlbm2.out i hi
                have hLq := fun (W : World) (hb : Below wr.heap.size wr W) => rleqL_any A n c up (lbs.getD i z0) (lbs2.getD i z0) W hn.out (by omega) hM.out ((hr.out.below (hup.out _ (hBr.trans (hb.mono hBr.size)))).more (hup.out _ (hBr.trans (hb.mono hBr.size))).size) hgx1 hgx2 hmx hmy
                have hbk1' : (ad1.add (i * 2)).block < wr.heap.size := by rw [block_of_add]; exact hbk1
                have hbk2' : (ad2.add (i * 2)).block < wr.heap.size := by rw [block_of_add]; exact hbk2
                have hwr := Nat.lt_of_lt_of_le (show w.heap.size < X.heap.size by omega) hBr.size
                have y0_ := hcell.out _ _ _ hBr (by simp <;> omega) p0
                have hcellW := Lib.hid (fun (W : World) (p : Addr) (v : Value) (h : Below wr.heap.size wr W) (hp : p.block < wr.heap.size) (hv : wr.cell? p = some v) => (h.cell hp).trans hv)
                generalize lbs.getD i z0 = x1 at *
                generalize lbs2.getD i z0 = x2 at *
                replace hle := Lib.hid hle
                replace hLq := Lib.hid hLq
                replace hbr := Lib.hid hbr
                replace hBr := Lib.hid hBr
                replace hgx1 := Lib.hid hgx1
                replace hgx2 := Lib.hid hgx2
                go_upto_region 16 with fail
                go_region_held3 (fun w' => w'.cell? ⟨w.heap.size, 0, none⟩ = some (.slice A n c) ∧ w'.cell? (ad1.add (i * 2)) = some (.int .i64 x1.lv) ∧ w'.cell? ⟨(ad1.add (i * 2)).block, (ad1.add (i * 2)).off + 1, none⟩ = some (.int .u64 (x1.ms : Nat)) ∧ w'.cell? (ad2.add (i * 2)) = some (.int .i64 x2.lv) ∧ w'.cell? ⟨(ad2.add (i * 2)).block, (ad2.add (i * 2)).off + 1, none⟩ = some (.int .u64 (x2.ms : Nat)))
                  (first
                    | (refine ⟨?_, ?_, ?_, ?_, ?_⟩ <;> (refine hcellW.out _ _ _ ?_ (by first | omega | (simp <;> omega)) (by assumption); (repeat (first | with_reducible exact hb9.out | with_reducible exact Below.refl _ _ | with_reducible refine Below.drew ?_ | (with_reducible refine Below.alloc ?_ ?_ _; rotate_left; · first | omega | (simp <;> omega)) | (with_reducible refine Below.setCell ?_ ?_ _; rotate_left; · first | omega | (simp <;> omega))))))
                    | (refine ⟨?_, ?_, ?_, ?_⟩ <;> (refine hcellW.out _ _ _ ?_ (by first | omega | (simp <;> omega)) (by assumption); (repeat (first | with_reducible exact hb9.out | with_reducible exact Below.refl _ _ | with_reducible refine Below.drew ?_ | (with_reducible refine Below.alloc ?_ ?_ _; rotate_left; · first | omega | (simp <;> omega)) | (with_reducible refine Below.setCell ?_ ?_ _; rotate_left; · first | omega | (simp <;> omega))))))
                    | (refine ⟨?_, ?_, ?_⟩ <;> (refine hcellW.out _ _ _ ?_ (by first | omega | (simp <;> omega)) (by assumption); (repeat (first | with_reducible exact hb9.out | with_reducible exact Below.refl _ _ | with_reducible refine Below.drew ?_ | (with_reducible refine Below.alloc ?_ ?_ _; rotate_left; · first | omega | (simp <;> omega)) | (with_reducible refine Below.setCell ?_ ?_ _; rotate_left; · first | omega | (simp <;> omega))))))
                    | (refine ⟨?_, ?_⟩ <;> (refine hcellW.out _ _ _ ?_ (by first | omega | (simp <;> omega)) (by assumption); (repeat (first | with_reducible exact hb9.out | with_reducible exact Below.refl _ _ | with_reducible refine Below.drew ?_ | (with_reducible refine Below.alloc ?_ ?_ _; rotate_left; · first | omega | (simp <;> omega)) | (with_reducible refine Below.setCell ?_ ?_ _; rotate_left; · first | omega | (simp <;> omega))))))
                    | (refine hcellW.out _ _ _ ?_ (by first | omega | (simp <;> omega)) (by assumption); (repeat (first | with_reducible exact hb9.out | with_reducible exact Below.refl _ _ | with_reducible refine Below.drew ?_ | (with_reducible refine Below.alloc ?_ ?_ _; rotate_left; · first | omega | (simp <;> omega)) | (with_reducible refine Below.setCell ?_ ?_ _; rotate_left; · first | omega | (simp <;> omega)))))
                    | go_keep)
                  (first
                    | (go_at_call 14
                       refine (hLq.out _ ?_).mono ?_
                       · exact (show Below wr.heap.size wr _ by (repeat (first  | with_reducible exact Below.refl _ _ | with_reducible refine Below.drew ?_ | (with_reducible refine Below.alloc ?_ ?_ _; rotate_left; · first | omega | (simp <;> omega)) | (with_reducible refine Below.setCell ?_ ?_ _; rotate_left; · first | omega | (simp <;> omega)))))
                       rintro e w9 ⟨rfl, hb9'⟩
                       rw [hle.out]
                       have hb9 := Lib.hid (Below.trans (show Below wr.heap.size wr _ by (repeat (first  | with_reducible exact Below.refl _ _ | with_reducible refine Below.drew ?_ | (with_reducible refine Below.alloc ?_ ?_ _; rotate_left; · first | omega | (simp <;> omega)) | (with_reducible refine Below.setCell ?_ ?_ _; rotate_left; · first | omega | (simp <;> omega))))) (hb9'.mono (by first | omega | (simp <;> omega))))
                       clear hb9')
                    | fail)
                all_goals (
                  have hfb := Lib.hid (hbr.out.trans (hb9.out.mono hsr))
                  go_wp2
                  go_roundw
                  case rel => exact ⟨i + 1, by go_num, by omega, hfb.out⟩
                  case measure => simp [natOf]; omega)
              · have hlti : ¬ ((i : Int) < (l : Int)) := by omega
                replace hbr := Lib.hid hbr
                replace hBr := Lib.hid hBr
                go_wp2_with fail
                refine (hAw.out _ (hup.out _ hBr.out)).mono ?_
                rintro e0 wz ⟨rfl, hbz⟩
                replace hbz := Lib.hid hbz
                go_wp2_with fail
                go_ret
                exact ⟨rfl, hup.out _ (hBr.out.trans (hbz.out.mono hBr.out.size))⟩
end Go.Proofs.YtleckdbdhkgcpaaDoor
