/- The walk of SolveBelow. -/
import Derived.Test.YtleckdbdhkgcpaaDoorVy
import Derived.Test.YtleckdbdhkgcpaaDoorVa
import Derived.Test.YtleckdbdhkgcpaaDoorRl
namespace Go.Proofs.YtleckdbdhkgcpaaDoor
open Go.RowKit Go.Shelf Go.Idl
set_option linter.unusedSimpArgs false
set_option linter.unusedVariables false

set_option maxHeartbeats 800000 in
set_option maxRecDepth 100000 in
theorem walkSolveBelow (A : Option Addr) (n c : Nat) (up : List Nat) (C D E : Option Addr) (l lc m mc k kc : Nat) (consts ls : List Lb) (needs : List (List Int)) (w : World) (hT : Tab w) (hn : up.length = n) (hn63 : n ≤ maxLen) (hM : Masks up) (hr : Reads w w.heap.size 1 A n (u64s up))
    (hl : consts.length = l) (hl63 : l ≤ maxLen) (hc : Reads w w.heap.size 2 C l (lbVals consts)) (hcm : ∀ k, (consts.getD k z0).ms < 2 ^ 64) (hm63 : m ≤ maxLen) (hd : NRows w w.heap.size D m needs) (hk : ls.length = k) (hk63 : k ≤ maxLen) (hls : Reads w w.heap.size 2 E k (lbVals ls)) (hlm : ∀ k, (ls.getD k z0).ms < 2 ^ 64) :
    Calls Tryd.prog 6 #[.slice A n c, .agg #[.slice C l lc, .slice D m mc], .slice E k kc] w fun e w' => e = .returned (.bool true) ∧ Below w.heap.size w w' := by
  refine (callsIn_wide (n := 20)).1 ?_
  have hml : maxLen = 9223372036854775807 := rfl
  obtain ⟨X, hX⟩ : ∃ X, w.alloc (.cells #[.slice C l lc, .slice D m mc] 26) = X := ⟨_, rfl⟩
  have hb0 : Below w.heap.size w X := by rw [← hX]; exact (Below.refl _ w).alloc (Nat.le_refl _) _
  have k0 : Blk X w.heap.size 26 #[.slice C l lc, .slice D m mc] := by rw [← hX]; exact Blk.new w _ _
  obtain ⟨s0, s1⟩ := pair_cells k0
  have hFew := few_any C D l lc m mc needs X hm63 ((hd.below hb0).more hb0.size)
  have hAw := fun (W : World) (hb : Below w.heap.size w W) => awake_any W (hT.later hb)
  have hSolN := fun (W : World) (hb : Below w.heap.size w W) (h : sysB up consts needs = false) => solve_no A n c up C D l lc m mc consts needs W (hT.later hb) hn hn63 hM ((hr.below hb).more hb.size) hl hl63 ((hc.below hb).more hb.size) hm63 ((hd.below hb).more hb.size) h
  have hBoN := fun (W : World) (hb : Below w.heap.size w W) (h : sysB up consts needs = false ∨ k ≠ l) => bounds_no A n c up C D E l lc m mc k kc consts needs W (hT.later hb) hn hn63 hM ((hr.below hb).more hb.size) hl hl63 ((hc.below hb).more hb.size) hm63 ((hd.below hb).more hb.size) h
  replace hFew := Lib.hid hFew
  replace hAw := Lib.hid hAw
  replace hSolN := Lib.hid hSolN
  replace hBoN := Lib.hid hBoN
  replace hb0 := Lib.hid hb0
  replace k0 := Lib.hid k0
  replace hr := Lib.hid hr
  replace hM := Lib.hid hM
  replace hT := Lib.hid hT
  replace hc := Lib.hid hc
  replace hcm := Lib.hid hcm
  replace hd := Lib.hid hd
  replace hn := Lib.hid hn
  replace hl := Lib.hid hl
  replace hk := Lib.hid hk
  replace hls := Lib.hid hls
  replace hlm := Lib.hid hlm
  cases hf : fewB l m needs with
  | false =>
    replace hf := Lib.hid hf
    refine callsIn_of_wp Tryd.func6 rfl trivial ?_ rfl
    simp only [Tryd.ntmps6, List.size_toArray, List.length_cons, List.length_nil, Nat.reduceAdd, Nat.reduceSub, Array.replicate_succ, Array.replicate_zero, List.push_toArray, List.append_toArray, List.nil_append, List.cons_append]
    have hcc := Lib.hid (hFew.out)
    gi_wp2_with (refine ⟨trivial, ?_⟩; gi_at_call 8; refine (callsIn_wide.2 hcc.out).mono ?_; clear hcc; rintro e w2 ⟨rfl, hb1⟩; rw [hf.out]; have hB := Lib.hid (hb0.out.trans (hb1.mono hb0.out.size)); clear hb1)
    go_ret
    exact ⟨rfl, hB.out⟩
  | true =>
    by_cases hbig : 8 < n
    · have h2 : ((8 : Int) < (n : Int)) := by omega
      replace hf := Lib.hid hf
      refine callsIn_of_wp Tryd.func6 rfl trivial ?_ rfl
      simp only [Tryd.ntmps6, List.size_toArray, List.length_cons, List.length_nil, Nat.reduceAdd, Nat.reduceSub, Array.replicate_succ, Array.replicate_zero, List.push_toArray, List.append_toArray, List.nil_append, List.cons_append]
      have hcc := Lib.hid (hFew.out)
      gi_wp2_with (refine ⟨trivial, ?_⟩; gi_at_call 8; refine (callsIn_wide.2 hcc.out).mono ?_; clear hcc; rintro e w2 ⟨rfl, hb1⟩; rw [hf.out]; have hB := Lib.hid (hb0.out.trans (hb1.mono hb0.out.size)); clear hb1)
      go_ret
      exact ⟨rfl, hB.out⟩
    have h2 : ¬ ((8 : Int) < (n : Int)) := by omega
    cases hq : sysB up consts needs with
    | false =>
      replace hf := Lib.hid hf
      replace hq := Lib.hid hq
      refine callsIn_of_wp Tryd.func6 rfl trivial ?_ rfl
      simp only [Tryd.ntmps6, List.size_toArray, List.length_cons, List.length_nil, Nat.reduceAdd, Nat.reduceSub, Array.replicate_succ, Array.replicate_zero, List.push_toArray, List.append_toArray, List.nil_append, List.cons_append]
      have hcc := Lib.hid (hFew.out)
      gi_wp2_with (refine ⟨trivial, ?_⟩; gi_at_call 8; refine (callsIn_wide.2 hcc.out).mono ?_; clear hcc; rintro e w2 ⟨rfl, hb1⟩; rw [hf.out]; have hB := Lib.hid (hb0.out.trans (hb1.mono hb0.out.size)); obtain ⟨a0, a1⟩ := pair_cells (k0.out.below hb1 k0.out.lt); have kk := Lib.hid (k0.out.below hb1 k0.out.lt); clear hb1 s0 s1)
      have hcc := Lib.hid (hSolN.out _ hB.out hq.out)
      gi_wp2_with (refine ⟨trivial, ?_⟩; gi_at_call 9; refine (callsIn_wide.2 hcc.out).mono ?_; clear hcc; rintro e w2 ⟨rfl, hb1⟩; have hB2 := Lib.hid (hB.out.trans (hb1.mono hB.out.size)); obtain ⟨b0, b1⟩ := pair_cells (kk.out.below hb1 kk.out.lt); clear hb1 a0 a1)
      have hcc := Lib.hid (hBoN.out _ hB2.out (.inl hq.out))
      gi_wp2_with (refine ⟨trivial, ?_⟩; gi_at_call 18; refine (callsIn_wide.2 hcc.out).mono ?_; clear hcc; rintro e w2 ⟨rfl, hb1⟩; have hB3 := Lib.hid (hB2.out.trans (hb1.mono hB2.out.size)); clear hb1)
      have hcc := Lib.hid (hAw.out _ hB3.out)
      gi_wp2_with (refine ⟨trivial, ?_⟩; gi_at_call 11; refine (callsIn_wide.2 hcc.out).mono ?_; clear hcc; rintro e w2 ⟨rfl, hb1⟩; have hB4 := Lib.hid (hB3.out.trans (hb1.mono hB3.out.size)); clear hb1)
      go_ret
      exact ⟨rfl, hB4.out⟩
    | true =>
      obtain ⟨N, rfl, hS⟩ := sysB_sys hM.out hq
      have hNm : N.length = m := by have := hd.out.1; rw [List.length_map] at this; exact this
      have hfan := few_fan hf hNm
      have hl60 := (fewB_iff.1 hf).1
      have hSol := fun (W : World) (hb : Below w.heap.size w W) => solve_yes A n c up C D l lc m mc consts N W (hT.out.later hb) hn.out hn63 hM.out ((hr.out.below hb).more hb.size) hl.out (by omega) ((hc.out.below hb).more hb.size) hm63 ((hd.out.below hb).more hb.size) hq hS (fun k _ => hcm.out k) hfan
      have hBo := fun (W : World) (hb : Below w.heap.size w W) (E' : Option Addr) (kc' : Nat) (ls' : List Lb) (h1 : ls'.length = l) (h2 : ∀ k, k < l → (ls'.getD k z0).ms < 2 ^ 64) (h3 : Reads W W.heap.size 2 E' l (lbVals ls')) => bounds_yes A n c up C D E' l lc m mc kc' consts ls' N W (hT.out.later hb) hn.out hn63 hM.out ((hr.out.below hb).more hb.size) hl.out (by omega) ((hc.out.below hb).more hb.size) hm63 ((hd.out.below hb).more hb.size) hq hS (fun k _ => hcm.out k) h1 h2 h3
      replace hSol := Lib.hid hSol
      replace hBo := Lib.hid hBo
      replace hf := Lib.hid hf
      replace hq := Lib.hid hq
      replace hS := Lib.hid hS
      replace hNm := Lib.hid hNm
      refine callsIn_of_wp Tryd.func6 rfl trivial ?_ rfl
      simp only [Tryd.ntmps6, List.size_toArray, List.length_cons, List.length_nil, Nat.reduceAdd, Nat.reduceSub, Array.replicate_succ, Array.replicate_zero, List.push_toArray, List.append_toArray, List.nil_append, List.cons_append]
      have hcc := Lib.hid (hFew.out)
      gi_wp2_with (refine ⟨trivial, ?_⟩; gi_at_call 8; refine (callsIn_wide.2 hcc.out).mono ?_; clear hcc; rintro e w2 ⟨rfl, hb1⟩; rw [hf.out]; have hB := Lib.hid (hb0.out.trans (hb1.mono hb0.out.size)); obtain ⟨a0, a1⟩ := pair_cells (k0.out.below hb1 k0.out.lt); have kk := Lib.hid (k0.out.below hb1 k0.out.lt); clear hb1 s0 s1)
      have hcc := Lib.hid (hSol.out _ hB.out)
      gi_wp2_with (refine ⟨trivial, ?_⟩; gi_at_call 9; refine (callsIn_wide.2 hcc.out).mono ?_; clear hcc; rintro e w2 ⟨L, lL, lbs, looks, rfl, hL, hlL1, hlL2, hlst, hlbm, hlo, hhi, hb1⟩; have hB2 := Lib.hid (hB.out.trans (hb1.mono hB.out.size)); have kk2 := kk.out.below hb1 kk.out.lt; obtain ⟨b0, b1⟩ := pair_cells kk2; replace kk2 := Lib.hid kk2; have hlen : lbs.length = l := hlst.lbs.len.trans hl.out; rw [hl.out] at hlbm; have hbt : boundB up consts N lbs = true := (boundB_iff hlst.lbs.len).2 (hlst.bound hS.out); replace hbt := Lib.hid hbt; replace hL := Lib.hid hL; replace hlst := Lib.hid hlst; replace hlbm := Lib.hid hlbm; replace hlen := Lib.hid hlen; clear hb1 a0 a1 hlo hhi hlL1 hlL2)
      have hcc := Lib.hid (hBo.out _ hB2.out L lL lbs hlen.out hlbm.out hL.out)
      gi_wp2_with (refine ⟨trivial, ?_⟩; gi_at_call 18; refine (callsIn_wide.2 hcc.out).mono ?_; clear hcc; rintro e w2 ⟨rfl, hb1⟩; rw [hbt.out]; have hB3 := Lib.hid (hB2.out.trans (hb1.mono hB2.out.size)); have kk3 := kk2.out.below hb1 kk2.out.lt; obtain ⟨c0, c1⟩ := pair_cells kk3; replace kk3 := Lib.hid kk3; have hL3 := Lib.hid ((hL.out.below hb1).more hb1.size); clear hb1 b0 b1)
      by_cases hkl : k = l
      · cases hkl
        cases hbl : boundB up consts N ls with
        | false =>
          replace hbl := Lib.hid hbl
          have hcc := Lib.hid (hBo.out _ hB3.out E kc ls hk.out (fun k _ => hlm.out k) ((hls.out.below hB3.out).more hB3.out.size))
          gi_wp2_with (refine ⟨trivial, ?_⟩; gi_at_call 18; refine (callsIn_wide.2 hcc.out).mono ?_; clear hcc; rintro e w2 ⟨rfl, hb1⟩; rw [hbl.out]; have hB4 := Lib.hid (hB3.out.trans (hb1.mono hB3.out.size)); clear hb1)
          have hcc := Lib.hid (hAw.out _ hB4.out)
          gi_wp2_with (refine ⟨trivial, ?_⟩; gi_at_call 11; refine (callsIn_wide.2 hcc.out).mono ?_; clear hcc; rintro e w2 ⟨rfl, hb1⟩; have hB5 := Lib.hid (hB4.out.trans (hb1.mono hB4.out.size)); clear hb1)
          go_ret
          exact ⟨rfl, hB5.out⟩
        | true =>
          have hlow := hlst.out.low ls ((boundB_iff (hk.out.trans hl.out.symm)).1 hbl)
          have hgls := ((boundB_iff (needs := N) (hk.out.trans hl.out.symm)).1 hbl).1
          replace hlow := Lib.hid hlow
          replace hgls := Lib.hid hgls
          replace hbl := Lib.hid hbl
          have hcc := Lib.hid (hBo.out _ hB3.out E kc ls hk.out (fun k _ => hlm.out k) ((hls.out.below hB3.out).more hB3.out.size))
          gi_wp2_with (refine ⟨trivial, ?_⟩; gi_at_call 18; refine (callsIn_wide.2 hcc.out).mono ?_; clear hcc; rintro e w2 ⟨rfl, hb1⟩; rw [hbl.out]; have hB4 := Lib.hid (hB3.out.trans (hb1.mono hB3.out.size)); have hL4 := Lib.hid ((hL3.out.below hb1).more hb1.size); clear hb1)
          gi_loopw [10] (fun v wr => ∃ i : Nat, v = .int .i64 (i : Nat) ∧ i ≤ l ∧ Below w2.heap.size w2 wr) (fun v wr => l - natOf v)
          case atStart => exact ⟨0, rfl, by omega, Below.refl _ _⟩
          case round =>
            obtain ⟨i, rfl, him, hbr⟩ := hrel
            have hBr := hB4.out.trans (hbr.mono hB4.out.size)
            have hsr := hbr.size
            by_cases hi : i < l
            · have hlti : ((i : Int) < (l : Int)) := by omega
              have hlow2 := hlow.out i (by rw [hl.out]; exact hi)
              obtain ⟨ad1, hE1, hbk1, x0, x1⟩ := reads_label hlen.out ((hL4.out.below hbr).more hsr) hi
              obtain ⟨ad2, hE2, hbk2, y0, y1⟩ := reads_label hk.out ((hls.out.below hBr).more hBr.size) hi
              subst hE1 hE2
              change wr.cell? (ad1.add (i * 2)) = some (Value.int .i64 (lbs.getD i z0).lv) at x0
              change _ = some (Value.int .u64 ((lbs.getD i z0).ms : Nat)) at x1
              change wr.cell? (ad2.add (i * 2)) = some (Value.int .i64 (ls.getD i z0).lv) at y0
              change _ = some (Value.int .u64 ((ls.getD i z0).ms : Nat)) at y1
              have hgx := hlst.out.lbs.gd i (by rw [hl.out]; exact hi)
              have hgy := hgls.out.gd i (by rw [hl.out]; exact hi)
              have hmx := hlbm.out i hi
              have hmy := hlm.out i
              obtain ⟨XT, f, hfb, hfall⟩ := class_below wr.heap.size wr
              have hx : ∃ y, f y = wr.drew := hfall _ (below_drewNs (Below.refl wr.heap.size wr) 1)
              have hne : Nonempty XT := hx.elim fun y _ => ⟨y⟩
              have p0 := fun y => ((hfb y).cell (p := ad1.add (i * 2)) (by rw [block_of_add]; exact hbk1)).trans x0
              have p1 := fun y => ((hfb y).cell (p := ⟨(ad1.add (i * 2)).block, (ad1.add (i * 2)).off + 1, none⟩) (show (ad1.add (i * 2)).block < _ by rw [block_of_add]; exact hbk1)).trans x1
              have p2 := fun y => ((hfb y).cell (p := ad2.add (i * 2)) (by rw [block_of_add]; exact hbk2)).trans y0
              have p3 := fun y => ((hfb y).cell (p := ⟨(ad2.add (i * 2)).block, (ad2.add (i * 2)).off + 1, none⟩) (show (ad2.add (i * 2)).block < _ by rw [block_of_add]; exact hbk2)).trans y1
              have hLq := fun y => rleqL_any A n c up (lbs.getD i z0) (ls.getD i z0) (f y) hn.out (by omega) hM.out ((((hr.out.below hBr).more hBr.size).below (hfb y)).more (hfb y).size) hgx hgy hmx hmy
              rw [hlow2] at hLq
              have hb5 := fun y => hbr.trans ((hfb y).mono hsr)
              generalize lbs.getD i z0 = x at *
              generalize ls.getD i z0 = y at *
              replace hLq := Lib.hid hLq
              replace hb5 := Lib.hid hb5
              replace hbr := Lib.hid hbr
              replace hBr := Lib.hid hBr
              replace hfb := Lib.hid hfb
              replace hfall := Lib.hid hfall
              replace hgx := Lib.hid hgx
              replace hgy := Lib.hid hgy
              replace hlow2 := Lib.hid hlow2
              clear x0 x1 y0 y1
              gi_wp2
              refine wpIn_region_class f 11 [true, true, true, true, true, true, true, true, true, true, true] hx (by kernel_rfl) (by kernel_rfl) ?_
              (simp only [List.take_succ_cons, List.take_zero]; (repeat (first | gi_big_quiet_step (fail) | (refine wpQuietIn_pass (fun _ _ _ _ => trivial) (by rfl) rfl ?_; simp only [List.setIfInBounds_toArray, List.set_cons_succ, List.set_cons_zero]) | (refine wpQuietIn_step (fun _ _ _ _ => trivial) ?_; intro K hK; refine Eq.mpr (if_pos (by rfl)) ?_; gi_big_quiet_op; gi_big_quiet_call ((first
                | (gi_at_call 14; exact class_law hfall.out (hfb.out _) (hfb.out _).size (callsIn_wide.2 (hLq.out _)))
                | fail))))); refine wpQuietIn_nil ?_)
              rintro W' ⟨yy, rfl⟩
              have b6 := Lib.hid (hb5.out yy)
              clear p0 p1 p2 p3
              generalize f yy = Y6 at *
              refine wpAnyIn_end (by kernel_rfl) ?_
              gi_wp2
              go_roundw
              case rel => exact ⟨i + 1, by go_num, by omega, b6.out⟩
              case measure => simp [natOf]; omega
            · have hlti : ¬ ((i : Int) < (l : Int)) := by omega
              replace hbr := Lib.hid hbr
              replace hBr := Lib.hid hBr
              have hcc := Lib.hid (hAw.out _ hBr.out)
              gi_wp2_with (refine ⟨trivial, ?_⟩; gi_at_call 11; refine (callsIn_wide.2 hcc.out).mono ?_; clear hcc; rintro e w2 ⟨rfl, hb1⟩; have hB5 := Lib.hid (hBr.out.trans (hb1.mono hBr.out.size)); clear hb1)
              go_ret
              exact ⟨rfl, hB5.out⟩
      · have hcc := Lib.hid (hBoN.out _ hB3.out (.inr hkl))
        gi_wp2_with (refine ⟨trivial, ?_⟩; gi_at_call 18; refine (callsIn_wide.2 hcc.out).mono ?_; clear hcc; rintro e w2 ⟨rfl, hb1⟩; have hB4 := Lib.hid (hB3.out.trans (hb1.mono hB3.out.size)); clear hb1)
        have hcc := Lib.hid (hAw.out _ hB4.out)
        gi_wp2_with (refine ⟨trivial, ?_⟩; gi_at_call 11; refine (callsIn_wide.2 hcc.out).mono ?_; clear hcc; rintro e w2 ⟨rfl, hb1⟩; have hB5 := Lib.hid (hB4.out.trans (hb1.mono hB4.out.size)); clear hb1)
        go_ret
        exact ⟨rfl, hB5.out⟩
end Go.Proofs.YtleckdbdhkgcpaaDoor
