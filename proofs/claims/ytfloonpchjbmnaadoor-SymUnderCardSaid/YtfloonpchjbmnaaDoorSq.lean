/- The reference's Put: what a label that fits becomes. -/
import Derived.Test.YtfloonpchjbmnaaDoorSr
import Derived.Test.YtfloonpchjbmnaaDoorSp
namespace Go.Idl
/-- Of labels that may be: what the first j of them come to may be. -/
theorem refTo_ok {up : List Nat} (h : Lat up) {l : Lb} {args : List Lb} (hl : Gd up l) (hg : ∀ k, k < args.length → Gd up (args.getD k ⟨0, 0⟩)) (hm : ∀ k, (args.getD k ⟨0, 0⟩).ms < 2 ^ 64) : ∀ j, j ≤ args.length → Gd up (refTo up l args j) ∧ (refTo up l args j).ms < 2 ^ 64
  | 0, _ => ⟨hl, Nat.two_pow_pos 64⟩
  | j + 1, hj => by
    have ih := refTo_ok h hl hg hm j (by omega)
    rw [refTo_succ]
    split
    · exact ⟨h.joinL_gd ih.1 (hg j (by omega)), Nat.or_lt_two_pow ih.2 (hm j)⟩
    · exact ih
end Go.Idl
namespace Go.Proofs.YtfloonpchjbmnaaDoor
open Go.RowKit Go.Shelf Go.Idl
attribute [local go_sem] Oper.semAt_some

/-- The blocks of a call of the reference's Put. -/
structure RPutB (w : World) (l pc o : Lb) (W : World) : Prop where
  b0 : Blk W w.heap.size 25 (lbC l)
  b1 : Blk W (w.heap.size + 1) 25 (lbC pc)
  b2 : Blk W (w.heap.size + 2) 25 #[.int .i64 0, .int .u64 0]
  b3 : Blk W (w.heap.size + 3) 25 (lbC o)
  bw : Below w.heap.size w W
theorem RPutB.below {w : World} {l pc o : Lb} {W W' : World} (h : RPutB w l pc o W) (hb : Below W.heap.size W W') : RPutB w l pc o W' :=
  ⟨h.b0.below hb h.b0.lt, h.b1.below hb h.b1.lt, h.b2.below hb h.b2.lt, h.b3.below hb h.b3.lt, h.bw.trans (hb.mono h.bw.size)⟩
theorem RPutB.drewN {w : World} {l pc o : Lb} {W : World} (h : RPutB w l pc o W) (q : Nat) : RPutB w l pc o (W.drewN q) := h.below (below_drewNs (Below.refl _ _) q)
theorem RPutB.set_ {w : World} {l pc o : Lb} {W : World} (h : RPutB w l pc o W) (x : Lb) : RPutB w l pc x ((W.setCell ⟨w.heap.size + 3, 0, none⟩ (.int .i64 x.lv)).setCell ⟨w.heap.size + 3, 1, none⟩ (.int .u64 (x.ms : Nat))) :=
  ⟨(h.b0.far (by simp) _).far (by simp) _, (h.b1.far (by simp) _).far (by simp) _, (h.b2.far (by simp) _).far (by simp) _, pair_set h.b3 _ _, (h.bw.setCell (by show w.heap.size ≤ w.heap.size + 3; omega) _).setCell (by show w.heap.size ≤ w.heap.size + 3; omega) _⟩

set_option maxHeartbeats 8000000 in
theorem rput_any (A : Option Addr) (n c : Nat) (up : List Nat) (l : Lb) (Z : Option Addr) (m d : Nat) (args : List Lb) (pc : Lb) (w : World) (hn : up.length = n) (hM : Masks up) (hr : Reads w w.heap.size 1 A n (u64s up)) (hlat : latB up = true)
    (hl : l.ms < 2 ^ 64) (hlg : Gd up l) (hpc : pc.ms < 2 ^ 64) (hpg : Gd up pc) (ham : args.length = m) (hm6 : m ≤ 6) (hz : Reads w w.heap.size 2 Z m (lbVals args)) (hlm : Lms args) (hag : ∀ k, k < args.length → Gd up (args.getD k ⟨0, 0⟩)) (hfit : fitsB l.ms m = true) :
    Calls Tryd.prog 15 #[.slice A n c, lbV l, .slice Z m d, lbV pc] w fun e w' => e = .returned (lbV (putF up l args pc)) ∧ Below w.heap.size w w' := by
  refine (callsIn_wide (n := 20)).1 ?_
  have hL := Lat.of hM hlat
  have h64 : n ≤ 64 := by rw [← hn]; exact hL.n64
  have hput := putF_ref (up := up) (l := l) (args := args) (pc := pc) (by omega) (by rw [ham]; exact hfit)
  rw [ham] at hput
  have hok := refTo_ok hL hlg hag hlm
  rw [ham] at hok
  have hstep := refTo_succ up l args
  have hr0 : refTo up l args 0 = ⟨l.lv, 0⟩ := rfl
  have hhas : ∀ i, i < 64 → hasB l.ms (i : Nat) = l.ms.testBit i := fun i hi => hasB_in hi
  generalize refTo up l args = R at *
  obtain ⟨W0, hW0⟩ : ∃ W0, (((w.alloc (.cells (lbC l) 25)).alloc (.cells (lbC pc) 25)).alloc (.cells #[.int .i64 0, .int .u64 0] 25)).alloc (.cells #[.int .i64 l.lv, .int .u64 0] 25) = W0 := ⟨_, rfl⟩
  have k : RPutB w l pc ⟨l.lv, 0⟩ W0 := by
    rw [← hW0]
    refine ⟨(((Blk.new w _ _).alloc _).alloc _).alloc _, ((Blk.new_at _ _ _ _ (by simp)).alloc _).alloc _, (Blk.new_at _ _ _ _ (by simp)).alloc _, Blk.new_at _ _ _ _ (by simp), ?_⟩
    exact ((((Below.refl _ w).alloc (Nat.le_refl _) _).alloc (by simp) _).alloc (by simp; omega) _).alloc (by simp; omega) _
  replace hW0 := Lib.hid hW0
  replace hput := Lib.hid hput
  replace hok := Lib.hid hok
  replace hstep := Lib.hid hstep
  replace hhas := Lib.hid hhas
  replace hr := Lib.hid hr
  replace hn := Lib.hid hn
  replace hM := Lib.hid hM
  replace hz := Lib.hid hz
  replace ham := Lib.hid ham
  replace hlat := Lib.hid hlat
  replace hL := Lib.hid hL
  replace k := Lib.hid k
  replace hag := Lib.hid hag
  replace hlm := Lib.hid hlm
  replace hfit := Lib.hid hfit
  replace hr0 := Lib.hid hr0
  replace hlg := Lib.hid hlg
  replace hpg := Lib.hid hpg
  refine callsIn_of_wp Tryd.func15 rfl trivial ?_ rfl
  simp only [Tryd.ntmps15, List.size_toArray, List.length_cons, List.length_nil, Nat.reduceAdd, Nat.reduceSub, Array.replicate_succ, Array.replicate_zero, List.push_toArray, List.append_toArray, List.nil_append, List.cons_append]
  gi_wp2
  rw [hW0.out]
  gi_loopw [10] (fun v wr => ∃ i : Nat, v = .int .i64 (i : Nat) ∧ i ≤ m ∧ RPutB w l pc (R i) wr) (fun v wr => m - natOf v)
  case atStart => exact ⟨0, rfl, by omega, by rw [hr0.out]; exact k.out⟩
  case round =>
    obtain ⟨i, rfl, him, kr⟩ := hrel
    obtain ⟨q0, q1⟩ := pair_cells kr.b0
    by_cases hi : i < m
    · have hlt : ((i : Int) < (m : Int)) := by omega
      obtain ⟨ad, hZ, hbk, p0, p1⟩ := reads_label ham.out ((hz.out.below kr.bw).more kr.bw.size) hi
      subst hZ
      have hs := hstep.out i
      have hh := hhas.out i (by omega)
      obtain ⟨hg1, hg2⟩ := hok.out i (by omega)
      have hg3 := hag.out i (by rw [ham.out]; exact hi)
      have hg4 := hlm.out i
      obtain ⟨q2, q3⟩ := pair_cells kr.b3
      have f2 := kr.b3.frozen 0
      have f3 := kr.b3.frozen 1
      generalize hRi : R i = o at *
      generalize args.getD i ⟨0, 0⟩ = x at *
      cases ht : l.ms.testBit i with
      | false =>
        rw [ht, if_neg (by simp)] at hs
        rw [ht] at hh
        replace hh := Lib.hid hh
        replace hs := Lib.hid hs
        replace ht := Lib.hid ht
        replace kr := Lib.hid kr
        replace hRi := Lib.hid hRi
        replace hg1 := Lib.hid hg1
        replace hg3 := Lib.hid hg3
        gi_wp2_with (refine ⟨trivial, ?_⟩; gi_at_call 35; refine (callsIn_wide.2 (rhas_any l.ms i _ hl)).mono ?_; rintro e w2 ⟨rfl, rfl⟩; rw [hh.out])
        go_roundw
        case rel => exact ⟨i + 1, by go_num, by omega, by rw [hs.out]; exact kr.out⟩
        case measure => simp [natOf]; omega
      | true =>
        rw [ht, if_pos rfl] at hs
        rw [ht] at hh
        have hJ := fun q => rjoinL_any A n c up o x (wr.drewN q) hn.out h64 hM.out (((hr.out.below kr.bw).more kr.bw.size).drewN q) hg1 hg3 hg2 hg4
        obtain ⟨ov, om⟩ := o
        obtain ⟨xv, xm⟩ := x
        dsimp only at p0 p1 q2 q3
        generalize joinL up ⟨ov, om⟩ ⟨xv, xm⟩ = y at *
        obtain ⟨yv, ym⟩ := y
        replace hh := Lib.hid hh
        replace hs := Lib.hid hs
        replace ht := Lib.hid ht
        replace kr := Lib.hid kr
        replace hRi := Lib.hid hRi
        replace hg1 := Lib.hid hg1
        replace hg3 := Lib.hid hg3
        replace hJ := Lib.hid hJ
        gi_wp2_with (refine ⟨trivial, ?_⟩; gi_at_call 35; refine (callsIn_wide.2 (rhas_any l.ms i _ hl)).mono ?_; rintro e w2 ⟨rfl, rfl⟩; rw [hh.out])
        (refine wpIn_region_quiet_tail 6 (by kernel_rfl) (by kernel_rfl) ?_; simp only [List.take_succ_cons, List.take_zero, List.drop_succ_cons, List.drop_zero]; (repeat (first | gi_big_quiet_step (fail) | (refine wpQuietIn_pass (fun _ _ _ _ => trivial) (by rfl) rfl ?_; simp only [List.setIfInBounds_toArray, List.set_cons_succ, List.set_cons_zero]) | (refine wpQuietIn_step (fun _ _ _ _ => trivial) ?_; intro K hK; refine Eq.mpr (if_pos (by rfl)) ?_; gi_big_quiet_op; gi_big_quiet_call ((fail))))); refine wpQuietIn_nil ?_; intro _ hw'; obtain ⟨nq, hw''⟩ := hw'; subst hw'')
        have kq := kr.out.drewN nq
        gi_wp2_with (refine ⟨trivial, ?_⟩; gi_at_call 21; refine (callsIn_wide.2 (hJ.out nq)).mono ?_; rintro e w3 ⟨rfl, hb3⟩; have k3 := kq.below hb3; obtain ⟨q4, q5⟩ := pair_cells k3.b3; have f4 := k3.b3.frozen 0; have f5 := k3.b3.frozen 1; replace k3 := Lib.hid k3; clear hb3)
        go_roundw
        case rel => exact ⟨i + 1, by go_num, by omega, by rw [hs.out]; exact k3.out.set_ _⟩
        case measure => simp [natOf]; omega
    · have hie : i = m := by omega
      have hlt : ¬ ((i : Int) < (m : Int)) := by omega
      subst hie
      obtain ⟨hg1, hg2⟩ := hok.out i (by omega)
      have hh := hhas.out 6 (by decide)
      obtain ⟨q2, q3⟩ := pair_cells kr.b3
      obtain ⟨q4, q5⟩ := pair_cells kr.b2
      obtain ⟨q6, q7⟩ := pair_cells kr.b1
      have f2 := kr.b3.frozen 0
      have f3 := kr.b3.frozen 1
      have f4 := kr.b2.frozen 0
      have f5 := kr.b2.frozen 1
      have hp := hput.out
      generalize hRi : R i = o at *
      cases ht : l.ms.testBit 6 with
      | false =>
        rw [ht, if_neg (by simp)] at hp
        rw [ht] at hh
        obtain ⟨ov, om⟩ := o
        dsimp only at q2 q3
        replace hp := Lib.hid hp
        replace hh := Lib.hid hh
        replace ht := Lib.hid ht
        replace kr := Lib.hid kr
        replace hRi := Lib.hid hRi
        replace hg1 := Lib.hid hg1
        gi_wp2_with (refine ⟨trivial, ?_⟩; gi_at_call 35; refine (callsIn_wide.2 (rhas_any l.ms 6 _ hl)).mono ?_; rintro e w2 ⟨rfl, rfl⟩; rw [show hasB l.ms 6 = false from hh.out])
        obtain ⟨e0, e1⟩ := pair_cells (pair_set kr.out.b2 (.int .i64 ov) (.int .u64 (om : Nat)))
        exact bodyPost_ret (v := .agg #[.int .i64 ov, .int .u64 (om : Nat)]) (by simp [results, Tryd.f15, go_sem, e0, e1]) rfl ⟨by rw [hp.out], (kr.out.bw.setCell (by show w.heap.size ≤ w.heap.size + 2; omega) _).setCell (by show w.heap.size ≤ w.heap.size + 2; omega) _⟩
      | true =>
        rw [ht, if_pos rfl] at hp
        rw [ht] at hh
        have hJ := rjoinL_any A n c up o pc wr hn.out h64 hM.out ((hr.out.below kr.bw).more kr.bw.size) hg1 hpg.out hg2 hpc
        obtain ⟨ov, om⟩ := o
        dsimp only at q2 q3
        generalize hye : joinL up ⟨ov, om⟩ pc = y at *
        obtain ⟨yv, ym⟩ := y
        replace hp := Lib.hid hp
        replace hh := Lib.hid hh
        replace ht := Lib.hid ht
        replace kr := Lib.hid kr
        replace hRi := Lib.hid hRi
        replace hg1 := Lib.hid hg1
        replace hJ := Lib.hid hJ
        replace hye := Lib.hid hye
        gi_wp2_with (refine ⟨trivial, ?_⟩; first | (gi_at_call 35; refine (callsIn_wide.2 (rhas_any l.ms 6 _ hl)).mono ?_; rintro e w2 ⟨rfl, rfl⟩; rw [show hasB l.ms 6 = true from hh.out]) | (gi_at_call 21; refine (callsIn_wide.2 hJ.out).mono ?_; rintro e w3 ⟨rfl, hb3⟩; have k3 := kr.out.below hb3; obtain ⟨r4, r5⟩ := pair_cells k3.b3; have f6 := k3.b3.frozen 0; have f7 := k3.b3.frozen 1; have k4 := k3.set_ ⟨yv, ym⟩; obtain ⟨r6, r7⟩ := pair_cells k4.b3; obtain ⟨r8, r9⟩ := pair_cells k4.b2; have f8 := k4.b2.frozen 0; have f9 := k4.b2.frozen 1; dsimp only at r6 r7; replace k3 := Lib.hid k3; replace k4 := Lib.hid k4; clear hb3))
        obtain ⟨e0, e1⟩ := pair_cells (pair_set k4.out.b2 (.int .i64 yv) (.int .u64 (ym : Nat)))
        exact bodyPost_ret (v := .agg #[.int .i64 yv, .int .u64 (ym : Nat)]) (by simp [results, Tryd.f15, go_sem, e0, e1]) rfl ⟨by rw [hp.out], (k4.out.bw.setCell (by show w.heap.size ≤ w.heap.size + 2; omega) _).setCell (by show w.heap.size ≤ w.heap.size + 2; omega) _⟩

end Go.Proofs.YtfloonpchjbmnaaDoor
