/- The reference's Cap. -/
import Derived.Test.YtfloonpchjbmnaaDoorSc
namespace Go.Proofs.YtfloonpchjbmnaaDoor
open Go.RowKit Go.Shelf Go.Idl
set_option linter.unusedSimpArgs false
set_option linter.unusedVariables false

/-- The blocks of a call of the reference's Cap. -/
structure RCapB (w : World) (cs : List Int) (l : Lb) (W : World) : Prop where
  b0 : Blk W w.heap.size 50 (ints cs).toArray
  b1 : Blk W (w.heap.size + 1) 25 (lbC l)
  b2 : Blk W (w.heap.size + 2) 50 #[.int .i64 0, .int .i64 0, .int .i64 0, .int .i64 0, .int .i64 0, .int .i64 0, .int .i64 0]
  bw : Below w.heap.size w W
  sz : w.heap.size + 3 ≤ W.heap.size
theorem rcap_set {w W : World} {cs : List Int} {l : Lb} (k : RCapB w cs l W) (b : Nat) (u : Int) : RCapB w (cs.set b u) l (W.setCell ⟨w.heap.size, b, none⟩ (.int .i64 u)) := by
  have h1 := k.b0.set_ b (.int .i64 u)
  rw [ints_set] at h1
  exact ⟨h1, k.b1.far (by simp) _, k.b2.far (by simp) _, k.bw.setCell (by simp) _, by have := k.sz; simpa [World.setCell] using this⟩

set_option maxRecDepth 100000 in
set_option maxHeartbeats 8000000 in
theorem rcap_any (A : Option Addr) (n c : Nat) (up : List Nat) (cs : List Int) (l : Lb) (bound : Int) (w : World) (hn : up.length = n) (hM : Masks up) (hr : Reads w w.heap.size 1 A n (u64s up))
    (hl : l.ms < 2 ^ 64) (hc : cs.length = 7) (hok : capOk up cs l bound = true) :
    Calls Tryd.prog 24 #[.slice A n c, .agg (ints cs).toArray, lbV l, .int .i64 bound] w fun e w' => e = .returned (.agg (ints (capF up cs l.ms bound)).toArray) ∧ Below w.heap.size w w' := by
  have hml : maxLen = 9223372036854775807 := rfl
  obtain ⟨hla, hcg, hbg, _, hfit⟩ := capOk_iff.1 hok
  have La := Lat.of hM hla
  have h64 : n ≤ 64 := by rw [← hn]; exact La.n64
  obtain ⟨lv, lm⟩ := l
  dsimp only at hl hfit ⊢
  simp only [lbV]
  rw [capF_ref hfit]
  obtain ⟨q, rfl, hql⟩ := goodB_iff.1 hbg
  have hlen : ∀ i, (rcapTo up cs lm (q : Int) i).length = 7 := fun i => by unfold rcapTo; rw [capTo_len]; exact hc
  have hgood : ∀ i, ∀ k ∈ rcapTo up cs lm (q : Int) i, goodB up k = true := fun i => capTo_good La hbg _ cs (fun b hb => by
    rw [hc]
    have := (List.mem_filter.1 hb).1
    have h2 := (List.mem_filter.1 hb).2
    have h3 : b < 64 := tb_lt hl h2
    exact bits7 hfit (mem_bitsOf.2 ⟨h3, h2⟩)) hcg
  have hstep := fun i => rcapTo_succ up cs lm (q : Int) i
  have h0 : rcapTo up cs lm (q : Int) 0 = cs := by unfold rcapTo; rfl
  obtain ⟨R, hR⟩ : ∃ R, rcapTo up cs lm (q : Int) = R := ⟨_, rfl⟩
  rw [hR] at hlen hgood hstep h0 ⊢
  obtain ⟨W0, hW0⟩ : ∃ W0, ((w.alloc (.cells (ints cs).toArray 50)).alloc (.cells (lbC ⟨lv, lm⟩) 25)).alloc (.cells #[.int .i64 0, .int .i64 0, .int .i64 0, .int .i64 0, .int .i64 0, .int .i64 0, .int .i64 0] 50) = W0 := ⟨_, rfl⟩
  have k : RCapB w cs ⟨lv, lm⟩ W0 := by
    rw [← hW0]
    refine ⟨((Blk.new w _ _).alloc _).alloc _, (Blk.new_at _ _ _ _ (by simp)).alloc _, Blk.new_at _ _ _ _ (by simp), ?_, by simp⟩
    exact (((Below.refl _ w).alloc (Nat.le_refl _) _).alloc (by simp) _).alloc (by simp; omega) _
  replace k := Lib.hid k
  replace hr := Lib.hid hr
  replace hM := Lib.hid hM
  replace hn := Lib.hid hn
  replace hR := Lib.hid hR
  replace h0 := Lib.hid h0
  replace hlen := Lib.hid hlen
  replace hgood := Lib.hid hgood
  replace hstep := Lib.hid hstep
  replace hcg := Lib.hid hcg
  replace La := Lib.hid La
  replace hla := Lib.hid hla
  replace hok := Lib.hid hok
  replace hbg := Lib.hid hbg
  replace hfit := Lib.hid hfit
  replace hc := Lib.hid hc
  go_enter Tryd.func24, Tryd.ntmps24
  go_wp2_with fail
  try rw [hW0]
  replace hW0 := Lib.hid hW0
  go_loopw [9] (fun v wr => ∃ i : Nat, v = .int .i64 (i : Nat) ∧ i ≤ 7 ∧ RCapB w (R i) ⟨lv, lm⟩ wr) (fun v wr => 7 - natOf v)
  case atStart => exact ⟨0, rfl, by omega, by rw [h0.out]; exact k.out⟩
  case round =>
    obtain ⟨i, rfl, hi7, kr⟩ := hrel
    obtain ⟨q0, q1⟩ := pair_cells kr.b1
    by_cases hi : i < 7
    · have hlt : ((i : Int) < 7) := by omega
      have hlt0 : ((0 : Int) ≤ (i : Int)) := by omega
      have hs := hstep.out i
      have hli := hlen.out i
      have hgx := getD_good (hgood.out i) (show i < (R i).length by omega)
      have hat : (ints (R i))[i]? = some (.int .i64 ((R i).getD i 0)) := by
        rw [ints_at (show i < (R i).length by omega), List.getD_eq_getElem?_getD, List.getElem?_eq_getElem (show i < (R i).length by omega)]
        rfl
      have d1 : wr.cell? ⟨w.heap.size, i, none⟩ = some (.int .i64 ((R i).getD i 0)) := by
        rw [kr.b0.cell i]
        simpa using hat
      obtain ⟨p, hp, hpl⟩ := goodB_iff.1 hgx
      rw [hp] at hs d1
      rw [Int.toNat_natCast, Int.toNat_natCast] at hs
      have hmeet := rmeet_any A n c up p q wr hn.out h64 hM.out (by rw [← hn.out]; exact hpl) (by rw [← hn.out]; exact hql) ((hr.out.below kr.bw).more kr.bw.size)
      have hh : hasB lm (i : Int) = lm.testBit i := by unfold hasB; simp; omega
      have hset := rcap_set kr i (meetI up p q)
      have f1 := kr.b0.frozen i
      generalize hRi : R i = o at *
      generalize meetI up p q = u at *
      replace hat := Lib.hid hat
      replace hgx := Lib.hid hgx
      replace hp := Lib.hid hp
      replace hRi := Lib.hid hRi
      replace hmeet := Lib.hid hmeet
      replace hset := Lib.hid hset
      cases ht : lm.testBit i with
      | false =>
        rw [ht, if_neg (by simp)] at hs
        rw [ht] at hh
        replace hh := Lib.hid hh
        replace hs := Lib.hid hs
        replace ht := Lib.hid ht
        replace kr := Lib.hid kr
        go_wp2_with (go_at_call 35; refine (rhas_any lm i _ hl).mono ?_; rintro e w2 ⟨rfl, rfl⟩; rw [hh.out])
        go_roundw
        case rel => exact ⟨i + 1, by go_num, by omega, by rw [hs.out]; exact kr.out⟩
        case measure => simp [natOf]; omega
      | true =>
        rw [ht, if_pos rfl] at hs
        rw [ht] at hh
        replace hh := Lib.hid hh
        replace hs := Lib.hid hs
        replace ht := Lib.hid ht
        replace kr := Lib.hid kr
        go_wp2_with (first | (go_at_call 35; refine (rhas_any lm i _ hl).mono ?_; rintro e w2 ⟨rfl, rfl⟩; rw [hh.out]) | (go_at_call 34; refine hmeet.out.mono ?_; rintro e w2 ⟨rfl, rfl⟩))
        go_roundw
        case rel => exact ⟨i + 1, by go_num, by omega, by rw [hs.out]; exact hset.out⟩
        case measure => simp [natOf]; omega
    · have hlt : ¬ ((i : Int) < 7) := by omega
      obtain rfl : i = 7 := by omega
      have hl7 := hlen.out 7
      generalize hRi : R 7 = o at *
      obtain ⟨c0, c1, c2, c3, c4, c5, c6, rfl⟩ := list7 hl7
      have k1 : Blk wr w.heap.size 50 #[.int .i64 c0, .int .i64 c1, .int .i64 c2, .int .i64 c3, .int .i64 c4, .int .i64 c5, .int .i64 c6] := kr.b0
      have p0 := k1.cell 0
      have y0 := kr.b2.cell 0
      have r0 := kr.b2.frozen 0
      have p1 := k1.cell 1
      have y1 := kr.b2.cell 1
      have r1 := kr.b2.frozen 1
      have p2 := k1.cell 2
      have y2 := kr.b2.cell 2
      have r2 := kr.b2.frozen 2
      have p3 := k1.cell 3
      have y3 := kr.b2.cell 3
      have r3 := kr.b2.frozen 3
      have p4 := k1.cell 4
      have y4 := kr.b2.cell 4
      have r4 := kr.b2.frozen 4
      have p5 := k1.cell 5
      have y5 := kr.b2.cell 5
      have r5 := kr.b2.frozen 5
      have p6 := k1.cell 6
      have y6 := kr.b2.cell 6
      have r6 := kr.b2.frozen 6
      simp at p0 p1 p2 p3 p4 p5 p6 y0 y1 y2 y3 y4 y5 y6
      replace hRi := Lib.hid hRi
      replace kr := Lib.hid kr
      replace k1 := Lib.hid k1
      go_wp2
      have hbk := set7 kr.out.b2 (.int .i64 c0) (.int .i64 c1) (.int .i64 c2) (.int .i64 c3) (.int .i64 c4) (.int .i64 c5) (.int .i64 c6)
      have e0 := hbk.cell 0
      have e1 := hbk.cell 1
      have e2 := hbk.cell 2
      have e3 := hbk.cell 3
      have e4 := hbk.cell 4
      have e5 := hbk.cell 5
      have e6 := hbk.cell 6
      simp at e0 e1 e2 e3 e4 e5 e6
      refine bodyPost_ret_by (v := .agg #[.int .i64 c0, .int .i64 c1, .int .i64 c2, .int .i64 c3, .int .i64 c4, .int .i64 c5, .int .i64 c6]) (by simp [results, Tryd.f24, go_sem, e0, e1, e2, e3, e4, e5, e6]) rfl ⟨by rw [hRi.out]; rfl, below7 kr.out.bw (by omega) _ _ _ _ _ _ _⟩
end Go.Proofs.YtfloonpchjbmnaaDoor
