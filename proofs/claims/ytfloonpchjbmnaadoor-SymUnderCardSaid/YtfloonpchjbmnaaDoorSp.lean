/- sym.Put: what a label becomes where a function is called. -/
import Derived.Test.YtfloonpchjbmnaaDoorSt
import Derived.Test.YtfloonpchjbmnaaDoorQc
import Derived.Laws.EntriesVeiled
namespace Go.Idl
open Go Go.RowKit
/-- What sym.Put answers. -/
def putL (up : List Nat) (l : Lb) (args : List Lb) (pc : Lb) : Lb := if putOk up l args pc = true then putF up l args pc else ⟨0, 0⟩
theorem putOk_iff {up : List Nat} {l : Lb} {args : List Lb} {pc : Lb} : putOk up l args pc = true ↔ args.length ≤ 6 ∧ latB up = true ∧ goodB up l.lv = true ∧ goodB up pc.lv = true ∧ fitsB l.ms args.length = true ∧ args.all (fun a => goodB up a.lv) = true := by
  unfold putOk
  simp only [Bool.and_eq_true, decide_eq_true_eq, and_assoc]
/-- Masks of labels are numbers of 64 bits. -/
def Lms (l : List Lb) : Prop := ∀ k, (l.getD k ⟨0, 0⟩).ms < 2 ^ 64
theorem levB_two (up : List Nat) (a b : Int) : levB up [a, b] = true ↔ latB up = true ∧ goodB up a = true ∧ goodB up b = true := by
  unfold levB
  simp
theorem levB_one (up : List Nat) (a : Int) (h : latB up = true) : levB up [a] = goodB up a := by
  unfold levB
  simp [h]
theorem take_all {α : Type} (p : α → Bool) (l : List α) (i : Nat) (hi : i < l.length) (d : α) : (l.take (i + 1)).all p = ((l.take i).all p && p (l.getD i d)) := by
  rw [List.take_succ_eq_append_getElem hi, List.all_append]
  simp [List.getD, hi]
end Go.Idl
namespace Go.Proofs.YtfloonpchjbmnaaDoor
open Go.RowKit Go.Shelf Go.Idl
attribute [local go_sem] Oper.semAt_some

/-- The blocks of a call of sym.Put. -/
structure PutB (w : World) (A : Option Addr) (n c : Nat) (l : Lb) (Z : Option Addr) (m d : Nat) (pc : Lb) (W : World) : Prop where
  b0 : Blk W w.heap.size 22 #[.slice A n c]
  b1 : Blk W (w.heap.size + 1) 25 (lbC l)
  b2 : Blk W (w.heap.size + 2) 26 #[.slice Z m d]
  b3 : Blk W (w.heap.size + 3) 25 (lbC pc)
  b4 : Blk W (w.heap.size + 4) 25 #[.int .i64 0, .int .u64 0]
  bw : Below w.heap.size w W
  sz : w.heap.size + 5 ≤ W.heap.size

section
variable {w W W' : World} {A Z : Option Addr} {n c m d : Nat} {l pc : Lb}
theorem PutB.below (h : PutB w A n c l Z m d pc W) (hb : Below W.heap.size W W') : PutB w A n c l Z m d pc W' :=
  ⟨h.b0.below hb h.b0.lt, h.b1.below hb h.b1.lt, h.b2.below hb h.b2.lt, h.b3.below hb h.b3.lt, h.b4.below hb h.b4.lt, h.bw.trans (hb.mono h.bw.size), Nat.le_trans h.sz hb.size⟩
theorem PutB.alloc (h : PutB w A n c l Z m d pc W) (o : Obj) : PutB w A n c l Z m d pc (W.alloc o) := h.below ((Below.refl _ W).alloc (Nat.le_refl _) o)
end

/-- What the levels of some bits come to. -/
def foldTo (up : List Nat) (l : Lb) (args : List Lb) (pc : Lb) (L : List Nat) : Lb := L.foldl (fun out bit => joinL up out (stands args pc bit)) ⟨l.lv, 0⟩
/-- What holds while the bits of the mask are gone through. -/
structure PutAt (w : World) (A : Option Addr) (n c : Nat) (up : List Nat) (l : Lb) (Z : Option Addr) (m d : Nat) (args : List Lb) (pc : Lb) (H : Nat) (L : List Nat) (X : World) : Prop where
  k : PutB w A n c l Z m d pc X
  f : Blk X H 62 #[.func (.func 30) #[] #[.pointer (some ⟨w.heap.size + 3, 0, none⟩), .pointer (some ⟨w.heap.size + 2, 0, none⟩)]]
  o : Blk X (H + 1) 25 (lbC (foldTo up l args pc L))
  sz : H + 3 ≤ X.heap.size
set_option maxRecDepth 100000 in
set_option maxHeartbeats 8000000 in
theorem put_any (A : Option Addr) (n c : Nat) (up : List Nat) (l : Lb) (Z : Option Addr) (m d : Nat) (args : List Lb) (pc : Lb) (w : World) (hT : Tab w) (hn : up.length = n) (hn63 : n ≤ maxLen) (hM : Masks up) (hr : Reads w w.heap.size 1 A n (u64s up))
    (hl : l.ms < 2 ^ 64) (hpc : pc.ms < 2 ^ 64) (ham : args.length = m) (hm : m ≤ maxLen) (hz : Reads w w.heap.size 2 Z m (lbVals args)) (hlm : Lms args) :
    Calls Tryd.prog 10 #[.slice A n c, lbV l, .slice Z m d, lbV pc] w fun e w' => e = .returned (.tuple #[lbV (putL up l args pc), .bool (putOk up l args pc)]) ∧ Below w.heap.size w w' := by
  refine (callsIn_wide (n := 20)).1 ?_
  have hw0 := hT.1
  have hml : maxLen = 9223372036854775807 := rfl
  have hno : putOk up l args pc = false → putL up l args pc = ⟨0, 0⟩ := fun h => by unfold putL; rw [h]; rfl
  obtain ⟨W0, hW0⟩ : ∃ W0, ((((w.alloc (.cells #[.slice A n c] 22)).alloc (.cells (lbC l) 25)).alloc (.cells #[.slice Z m d] 26)).alloc (.cells (lbC pc) 25)).alloc (.cells #[.int .i64 0, .int .u64 0] 25) = W0 := ⟨_, rfl⟩
  have k : PutB w A n c l Z m d pc W0 := by
    rw [← hW0]
    refine ⟨((((Blk.new w _ _).alloc _).alloc _).alloc _).alloc _, (((Blk.new_at _ _ _ _ (by simp)).alloc _).alloc _).alloc _, ((Blk.new_at _ _ _ _ (by simp)).alloc _).alloc _, (Blk.new_at _ _ _ _ (by simp)).alloc _, Blk.new_at _ _ _ _ (by simp), ?_, by simp⟩
    exact (((((Below.refl _ w).alloc (Nat.le_refl _) _).alloc (by simp) _).alloc (by simp; omega) _).alloc (by simp; omega) _).alloc (by simp; omega) _
  have hs0 : W0.heap.size = w.heap.size + 5 := by rw [← hW0]; simp
  have q0 := k.b0.cell0
  obtain ⟨q1, q2⟩ := pair_cells k.b1
  have q3 := k.b2.cell0
  obtain ⟨q4, q5⟩ := pair_cells k.b3
  obtain ⟨q6, q7⟩ := pair_cells k.b4
  have r6 := k.b4.frozen 0
  have r7 := k.b4.frozen 1
  have hno' := Lib.hid hno
  replace k := Lib.hid k
  replace hT := Lib.hid hT
  replace hr := Lib.hid hr
  replace hM := Lib.hid hM
  replace hn := Lib.hid hn
  replace ham := Lib.hid ham
  replace hz := Lib.hid hz
  replace hlm := Lib.hid hlm
  clear hno
  have hfw : withN (belowN (m : Nat)) 6 < 2 ^ 64 := withN_lt _ _ (belowN_lt _)
  by_cases hm6 : 6 < m
  · have hok : putOk up l args pc = false := by
      cases h : putOk up l args pc with
      | false => rfl
      | true => have := (putOk_iff.1 h).1; have := ham.out; omega
    have h6 : ((6 : Int) < (m : Int)) := by omega
    rw [hno'.out hok, hok]
    replace hok := Lib.hid hok
    refine callsIn_of_wp_marks Tryd.func10 rfl trivial ?_ rfl
    simp only [Tryd.ntmps10, List.size_toArray, List.length_cons, List.length_nil, Nat.reduceAdd, Nat.reduceSub, Array.replicate_succ, Array.replicate_zero, List.push_toArray, List.append_toArray, List.nil_append, List.cons_append]
    gi_wp2_with (refine ⟨trivial, ?_⟩; first | (gi_at_call 28; refine (callsIn_wide.2 (below_any _ _ (by omega))).mono ?_; rintro e w1 ⟨rfl, rfl⟩) | (gi_at_call 27; refine (callsIn_wide.2 (with_any _ _ _ (belowN_lt _))).mono ?_; rintro e w1 ⟨rfl, rfl⟩))
    refine ⟨trivial, ?_⟩
    gi_wp2
    refine leaves_of_marks (Marks.nil w.heap.size w.heap.size _) ?_
    intro W' hW'
    obtain ⟨e0, e1⟩ := pair_cells (hW'.blk _ _ _ (pair_set k.out.b4 (.int .i64 0) (.int .u64 0)))
    exact ⟨.tuple #[.agg #[.int .i64 0, .int .u64 0], .bool false], by simp [results, Tryd.f10, go_sem, e0, e1], rfl, ((k.out.bw.setCell (by show w.heap.size ≤ w.heap.size + 4; omega) _).setCell (by show w.heap.size ≤ w.heap.size + 4; omega) _).trans hW'.below⟩
  · have h6 : ¬ ((6 : Int) < (m : Int)) := by omega
    obtain ⟨W1, hW1⟩ : ∃ W1, W0.alloc (.cells #[.int .i64 l.lv, .int .i64 pc.lv] 3) = W1 := ⟨_, rfl⟩
    have hb1 : Below W0.heap.size W0 W1 := by rw [← hW1]; exact (Below.refl _ W0).alloc (Nat.le_refl _) _
    have hLev : Calls Tryd.prog 29 #[.slice A n c, .slice (some ⟨W0.heap.size, 0, none⟩) 2 2] W1 _ :=
      level_any A n c up (some ⟨W0.heap.size, 0, none⟩) 2 2 [l.lv, pc.lv] W1 (hT.out.later (k.out.bw.trans (hb1.mono k.out.bw.size))) hn.out hn63 hM.out (((hr.out.below k.out.bw).more k.out.bw.size).below hb1 |>.more hb1.size) rfl (by decide) (by rw [← hW1]; exact Reads.new W0 3 (ints [l.lv, pc.lv]))
    rw [hs0] at hLev
    have k1 := k.out.below hb1
    have hfit : (bits BinOp.andNot IntKind.u64 (l.ms : Int) ((withN (belowN (m : Nat)) 6 : Nat) : Int) == 0) = fitsB l.ms m := by
      rw [u64_andNot_eq l.ms _ hl hfw, ← fits_prog hl (show m < 64 by omega), Bool.eq_iff_iff, beq_iff_eq, decide_eq_true_eq]
      omega
    have hfit2 : (bits BinOp.andNot IntKind.u64 (l.ms : Int) ((withN (belowN (m : Nat)) 6 : Nat) : Int) != 0) = !fitsB l.ms m := by rw [← hfit]; rfl
    replace hLev := Lib.hid hLev
    replace k1 := Lib.hid k1
    replace hb1 := Lib.hid hb1
    cases hq : levB up [l.lv, pc.lv] with
    | false =>
      have hok : putOk up l args pc = false := by
        cases h : putOk up l args pc with
        | false => rfl
        | true =>
          have h1 := putOk_iff.1 h
          rw [(levB_two up l.lv pc.lv).2 ⟨h1.2.1, h1.2.2.1, h1.2.2.2.1⟩] at hq
          cases hq
      rw [hno'.out hok, hok]
      replace hok := Lib.hid hok
      replace hq := Lib.hid hq
      refine callsIn_of_wp_marks Tryd.func10 rfl trivial ?_ rfl
      simp only [Tryd.ntmps10, List.size_toArray, List.length_cons, List.length_nil, Nat.reduceAdd, Nat.reduceSub, Array.replicate_succ, Array.replicate_zero, List.push_toArray, List.append_toArray, List.nil_append, List.cons_append]
      gi_wp2_with (refine ⟨trivial, ?_⟩; first | (gi_at_call 28; refine (callsIn_wide.2 (below_any _ _ (by omega))).mono ?_; rintro e w1 ⟨rfl, rfl⟩) | (gi_at_call 27; refine (callsIn_wide.2 (with_any _ _ _ (belowN_lt _))).mono ?_; rintro e w1 ⟨rfl, rfl⟩) | (gi_at_call 29; refine (callsIn_wide.2 hLev.out).mono ?_; rintro e w2 ⟨rfl, hb2⟩; rw [hq.out]; have k2 := k1.out.below hb2; have y0 := k2.b0.cell0; obtain ⟨y1, y2⟩ := pair_cells k2.b1; have y3 := k2.b2.cell0; obtain ⟨y4, y5⟩ := pair_cells k2.b3; obtain ⟨y6, y7⟩ := pair_cells k2.b4; have z6 := k2.b4.frozen 0; have z7 := k2.b4.frozen 1; replace k2 := Lib.hid k2; clear hb2))
      refine leaves_of_marks (Marks.nil w.heap.size w.heap.size _) ?_
      intro W' hW'
      obtain ⟨e0, e1⟩ := pair_cells (hW'.blk _ _ _ (pair_set k2.out.b4 (.int .i64 0) (.int .u64 0)))
      exact ⟨.tuple #[.agg #[.int .i64 0, .int .u64 0], .bool false], by simp [results, Tryd.f10, go_sem, e0, e1], rfl, ((k2.out.bw.setCell (by show w.heap.size ≤ w.heap.size + 4; omega) _).setCell (by show w.heap.size ≤ w.heap.size + 4; omega) _).trans hW'.below⟩
    | true =>
      obtain ⟨hlat, hgl, hgp⟩ := (levB_two up l.lv pc.lv).1 hq
      have ham' := ham.out
      cases hqf : fitsB l.ms m with
      | false =>
        have hok : putOk up l args pc = false := by
          cases h : putOk up l args pc with
          | false => rfl
          | true =>
            have h1 := (putOk_iff.1 h).2.2.2.2.1
            rw [ham', hqf] at h1
            cases h1
        rw [hno'.out hok, hok]
        rw [hqf] at hfit hfit2
        replace hok := Lib.hid hok
        replace hq := Lib.hid hq
        replace hqf := Lib.hid hqf
        replace hlat := Lib.hid hlat
        replace hgl := Lib.hid hgl
        replace hgp := Lib.hid hgp
        refine callsIn_of_wp_marks Tryd.func10 rfl trivial ?_ rfl
        simp only [Tryd.ntmps10, List.size_toArray, List.length_cons, List.length_nil, Nat.reduceAdd, Nat.reduceSub, Array.replicate_succ, Array.replicate_zero, List.push_toArray, List.append_toArray, List.nil_append, List.cons_append]
        gi_wp2_with (refine ⟨trivial, ?_⟩; first | (gi_at_call 28; refine (callsIn_wide.2 (below_any _ _ (by omega))).mono ?_; rintro e w1 ⟨rfl, rfl⟩) | (gi_at_call 27; refine (callsIn_wide.2 (with_any _ _ _ (belowN_lt _))).mono ?_; rintro e w1 ⟨rfl, rfl⟩) | (gi_at_call 29; refine (callsIn_wide.2 hLev.out).mono ?_; rintro e w2 ⟨rfl, hb2⟩; rw [hq.out]; have k2 := k1.out.below hb2; have y0 := k2.b0.cell0; obtain ⟨y1, y2⟩ := pair_cells k2.b1; have y3 := k2.b2.cell0; obtain ⟨y4, y5⟩ := pair_cells k2.b3; obtain ⟨y6, y7⟩ := pair_cells k2.b4; have z6 := k2.b4.frozen 0; have z7 := k2.b4.frozen 1; replace k2 := Lib.hid k2; clear hb2))
        refine leaves_of_marks (Marks.nil w.heap.size w.heap.size _) ?_
        intro W' hW'
        obtain ⟨e0, e1⟩ := pair_cells (hW'.blk _ _ _ (pair_set k2.out.b4 (.int .i64 0) (.int .u64 0)))
        exact ⟨.tuple #[.agg #[.int .i64 0, .int .u64 0], .bool false], by simp [results, Tryd.f10, go_sem, e0, e1], rfl, ((k2.out.bw.setCell (by show w.heap.size ≤ w.heap.size + 4; omega) _).setCell (by show w.heap.size ≤ w.heap.size + 4; omega) _).trans hW'.below⟩
      | true =>
        rw [hqf] at hfit hfit2
        replace hq := Lib.hid hq
        replace hqf := Lib.hid hqf
        replace hlat := Lib.hid hlat
        replace hgl := Lib.hid hgl
        replace hgp := Lib.hid hgp
        have hO := (Lat.of hM.out hlat.out).toOrd
        have h64 : n ≤ 64 := by rw [← hn.out]; exact hO.n64
        replace hO := Lib.hid hO
        clear ham'
        refine callsIn_of_wp_marks Tryd.func10 rfl trivial ?_ rfl
        simp only [Tryd.ntmps10, List.size_toArray, List.length_cons, List.length_nil, Nat.reduceAdd, Nat.reduceSub, Array.replicate_succ, Array.replicate_zero, List.push_toArray, List.append_toArray, List.nil_append, List.cons_append]
        gi_wp2_with (refine ⟨trivial, ?_⟩; first | (gi_at_call 28; refine (callsIn_wide.2 (below_any _ _ (by omega))).mono ?_; rintro e w1 ⟨rfl, rfl⟩) | (gi_at_call 27; refine (callsIn_wide.2 (with_any _ _ _ (belowN_lt _))).mono ?_; rintro e w1 ⟨rfl, rfl⟩) | (gi_at_call 29; refine (callsIn_wide.2 hLev.out).mono ?_; rintro e w2 ⟨rfl, hb2⟩; rw [hq.out]; have k2 := k1.out.below hb2; have y0 := k2.b0.cell0; obtain ⟨y1, y2⟩ := pair_cells k2.b1; have y3 := k2.b2.cell0; obtain ⟨y4, y5⟩ := pair_cells k2.b3; obtain ⟨y6, y7⟩ := pair_cells k2.b4; have z6 := k2.b4.frozen 0; have z7 := k2.b4.frozen 1; replace k2 := Lib.hid k2; clear hb2))
        gi_loopw [43] (fun v wr => ∃ i : Nat, v = .int .i64 (i : Nat) ∧ i ≤ m ∧ (args.take i).all (fun a => goodB up a.lv) = true ∧ PutB w A n c l Z m d pc wr) (fun v wr => m - natOf v)
        case atStart => exact ⟨0, rfl, by omega, by simp, k2.out⟩
        case round =>
          obtain ⟨i, rfl, him, hall, kr⟩ := hrel
          clear y0 y1 y2 y3 y4 y5 y6 y7 z6 z7 q0 q1 q2 q3 q4 q5 q6 q7 r6 r7
          by_cases hi : i < m
          · have hlt : ((i : Int) < (m : Int)) := by omega
            obtain ⟨ad, hZ, hbk, p0, p1⟩ := reads_label ham.out ((hz.out.below kr.bw).more kr.bw.size) hi
            subst hZ
            have hstep := take_all (fun a : Lb => goodB up a.lv) args i (by rw [ham.out]; exact hi) ⟨0, 0⟩
            rw [hall, Bool.true_and] at hstep
            generalize args.getD i ⟨0, 0⟩ = x at *
            obtain ⟨xv, xm⟩ := x
            dsimp only at p0 p1 hstep
            obtain ⟨W3, hW3⟩ : ∃ W3, (wr.alloc (.cells #[.int .i64 xv, .int .u64 (xm : Nat)] 25)).alloc (.cells #[.int .i64 xv] 3) = W3 := ⟨_, rfl⟩
            have kb3 : Below wr.heap.size wr W3 := by rw [← hW3]; exact ((Below.refl _ wr).alloc (Nat.le_refl _) _).alloc (by simp) _
            have k3 := kr.below kb3
            have a0 := (kr.alloc (.cells #[.int .i64 xv, .int .u64 (xm : Nat)] 25)).b0.cell0
            have hLevA := level_any A n c up (some ⟨wr.heap.size + 1, 0, none⟩) 1 1 [xv] W3 (hT.out.later k3.bw) hn.out hn63 hM.out ((hr.out.below k3.bw).more k3.bw.size) rfl (by decide) (by rw [← hW3]; have h0 := Reads.new (wr.alloc (.cells #[.int .i64 xv, .int .u64 (xm : Nat)] 25)) 3 (ints [xv]); rw [show (wr.alloc (.cells #[.int .i64 xv, .int .u64 (xm : Nat)] 25)).heap.size = wr.heap.size + 1 by simp] at h0; exact h0)
            have hq2 := levB_one up xv hlat.out
            replace hLevA := Lib.hid hLevA
            replace hall := Lib.hid hall
            replace k3 := Lib.hid k3
            replace kr := Lib.hid kr
            replace kb3 := Lib.hid kb3
            cases hg : goodB up xv with
            | false =>
              rw [hg] at hstep hq2
              have hok : putOk up l args pc = false := by
                cases h : putOk up l args pc with
                | false => rfl
                | true =>
                  have h1 := (putOk_iff.1 h).2.2.2.2.2
                  rw [List.all_eq_true] at h1
                  have h2 : (args.take (i + 1)).all (fun a => goodB up a.lv) = true := by
                    rw [List.all_eq_true]
                    exact fun y hy => h1 y (List.mem_of_mem_take hy)
                  rw [h2] at hstep
                  cases hstep
              replace hok := Lib.hid hok
              replace hstep := Lib.hid hstep
              replace hq2 := Lib.hid hq2
              replace hg := Lib.hid hg
              gi_wp2_with (refine ⟨trivial, ?_⟩; (gi_at_call 29; refine (callsIn_wide.2 hLevA.out).mono ?_; rintro e w4 ⟨rfl, hb4⟩; rw [hq2.out]; have k4 := k3.out.below hb4; obtain ⟨y6, y7⟩ := pair_cells k4.b4; have z6 := k4.b4.frozen 0; have z7 := k4.b4.frozen 1; replace k4 := Lib.hid k4; clear hb4))
              refine leaves_of_marks (Marks.nil w.heap.size w.heap.size _) ?_
              intro W' hW'
              obtain ⟨e0, e1⟩ := pair_cells (hW'.blk _ _ _ (pair_set k4.out.b4 (.int .i64 0) (.int .u64 0)))
              exact ⟨.tuple #[.agg #[.int .i64 0, .int .u64 0], .bool false], by simp [results, Tryd.f10, go_sem, e0, e1], (by rw [hno'.out hok.out, hok.out]; rfl), ((k4.out.bw.setCell (by show w.heap.size ≤ w.heap.size + 4; omega) _).setCell (by show w.heap.size ≤ w.heap.size + 4; omega) _).trans hW'.below⟩
            | true =>
              rw [hg] at hstep hq2
              replace hstep := Lib.hid hstep
              replace hq2 := Lib.hid hq2
              replace hg := Lib.hid hg
              gi_wp2_with (refine ⟨trivial, ?_⟩; (gi_at_call 29; refine (callsIn_wide.2 hLevA.out).mono ?_; rintro e w4 ⟨rfl, hb4⟩; rw [hq2.out]; have k4 := k3.out.below hb4; obtain ⟨y6, y7⟩ := pair_cells k4.b4; have z6 := k4.b4.frozen 0; have z7 := k4.b4.frozen 1; replace k4 := Lib.hid k4; clear hb4))
              go_roundw
              case rel => exact ⟨i + 1, by go_num, by omega, hstep.out, k4.out⟩
              case measure => simp [natOf]; omega
          · have hie : i = m := by omega
            have hlt : ¬ ((i : Int) < (m : Int)) := by omega
            rw [List.take_of_length_le (by have := ham.out; omega)] at hall
            have hok : putOk up l args pc = true := putOk_iff.2 ⟨by have := ham.out; omega, hlat.out, hgl.out, hgp.out, by rw [ham.out]; exact hqf.out, hall⟩
            have hpl : putL up l args pc = putF up l args pc := by unfold putL; rw [hok]; rfl
            obtain ⟨u1, u2⟩ := pair_cells kr.b1
            have kf := kr.b1.alloc (.cells #[.func (.func 30) #[] #[.pointer (some ⟨w.heap.size + 3, 0, none⟩), .pointer (some ⟨w.heap.size + 2, 0, none⟩)]] 62)
            obtain ⟨u3, _⟩ := pair_cells kf
            obtain ⟨_, u4⟩ := pair_cells (kf.alloc (.cells #[.int .i64 l.lv, .int .u64 0] 25))
            obtain ⟨lv, lm⟩ := l
            dsimp only at u1 u2 u3 u4 hl
            replace hok := Lib.hid hok
            replace hpl := Lib.hid hpl
            replace hall := Lib.hid hall
            replace kr := Lib.hid kr
            gi_wp2_with (refine ⟨trivial, ?_⟩; gi_at_call 31; refine (callsIn_wide.2 (all_makes _ _)).mono ?_; rintro e w' ⟨rfl, rfl⟩)
            obtain ⟨H, hH⟩ : ∃ H, wr.heap.size = H := ⟨_, rfl⟩
            obtain ⟨W5, hW5⟩ : ∃ W5, ((wr.alloc (.cells #[.func (.func 30) #[] #[.pointer (some ⟨w.heap.size + 1 + 1 + 1, 0, none⟩), .pointer (some ⟨w.heap.size + 1 + 1, 0, none⟩)]] 62)).alloc (.cells #[.int .i64 lv, .int .u64 0] 25)).alloc (.cells #[.int .u64 (lm : Nat)] 23) = W5 := ⟨_, rfl⟩
            rw [hW5, hH]
            have k5 : PutB w A n c ⟨lv, lm⟩ Z m d pc W5 := by rw [← hW5]; exact ((kr.out.alloc _).alloc _).alloc _
            have v1 : Blk W5 H 62 #[.func (.func 30) #[] #[.pointer (some ⟨w.heap.size + 3, 0, none⟩), .pointer (some ⟨w.heap.size + 2, 0, none⟩)]] := by rw [← hW5]; exact ((Blk.new_at wr _ _ _ hH).alloc _).alloc _
            have v2 : Blk W5 (H + 1) 25 (lbC ⟨lv, 0⟩) := by rw [← hW5]; exact (Blk.new_at _ _ _ _ (by simp; omega)).alloc _
            have v3 : Blk W5 (H + 2) 23 #[.int .u64 (lm : Nat)] := by rw [← hW5]; exact Blk.new_at _ _ _ _ (by simp; omega)
            have hs5 : W5.heap.size = H + 3 := by rw [← hW5]; simp; omega
            have hs5w := kr.out.sz
            rw [hH] at hs5w
            clear hW5 u1 u2 u3 u4
            have hfit1 := fitsB_iff.1 hqf.out
            have hfit7 : ∀ x ∈ bitsOf lm, x = 6 ∨ x < m := fun x hx => (hfit1 x hx).symm
            replace hfit7 := Lib.hid hfit7
            clear hfit1
            refine wpIn_rangeFunc_ownG rfl (by omega) (gf := 45) (lb := #[.pointer (some ⟨H + 2, 0, none⟩)]) rfl trivial (enters_of Tryd.func45 (by kernel_rfl) rfl)
              (all_stops 19 (by omega) lm hl (H + 2) w.heap.size _ hw0 (by omega) (hT.out.later k5.bw) v3.cell0) belowK_t (belowK_b (by omega)) (Below.refl _ _) (fun _ => rfl)
              (fun pre X => PutAt w A n c up ⟨lv, lm⟩ Z m d args pc H (pre.map (·.1)) X)
              (fun c pre X => False)
              ?hI ?hIx ⟨k5, v1, v2, by omega⟩
              (fun x => { tmps := #[.slice A n c, lbV ⟨lv, lm⟩, .slice Z m d, lbV pc, .pointer (some ⟨w.heap.size, 0, none⟩), .pointer (some ⟨w.heap.size + 1, 0, none⟩), .pointer (some ⟨w.heap.size + 1 + 1, 0, none⟩), .pointer (some ⟨w.heap.size + 1 + 1 + 1, 0, none⟩), .pointer (some ⟨w.heap.size + 1 + 1 + 1 + 1, 0, none⟩), u9, .int .u64 (withN (belowN (m : Nat)) 6 : Nat), undef, u12, .pointer (some ⟨H, 0, none⟩), .pointer (some ⟨H + 1, 0, none⟩), .int .i64 (x.1 : Nat), .slice Z m d, .int .i64 (m : Nat), .int .u64 (belowN (m : Nat) : Nat), .int .u64 (withN (belowN (m : Nat)) 6 : Nat), .slice Z m d, .int .i64 (m : Nat), .bool (decide ((6 : Int) < (m : Nat))), .bool (decide ((6 : Int) < (m : Nat))), .slice A n c, .pointer (some ⟨w.heap.size + 1, 0, none⟩), .int .i64 lv, .pointer (some ⟨w.heap.size + 1 + 1 + 1, 0, none⟩), .int .i64 pc.lv, .slice (some ⟨w.heap.size + 5, 0, none⟩) 2 2, .bool true, .bool false, .bool (decide ((6 : Int) < (m : Nat))), .bool (decide ((6 : Int) < (m : Nat))), .pointer (some ⟨w.heap.size + 1, 1, none⟩), .int .u64 (lm : Nat), .int .u64 (withN (belowN (m : Nat)) 6 : Nat), .int .u64 (bits BinOp.andNot IntKind.u64 (lm : Nat) (withN (belowN (m : Nat)) 6 : Nat)), .bool false, .bool (decide ((6 : Int) < (m : Nat))), undef, .slice Z m d, .int .i64 (m : Nat), .int .i64 (m : Nat), .bool false, u45, u46, u47, u48, u49, u50, u51, u52, u53, u54, .func (.func 30) #[] #[.pointer (some ⟨w.heap.size + 1 + 1 + 1, 0, none⟩), .pointer (some ⟨w.heap.size + 1 + 1, 0, none⟩)], .pointer (some ⟨w.heap.size + 1, 0, none⟩), .int .i64 lv, .agg #[.int .i64 lv, .int .u64 0], .pointer (some ⟨w.heap.size + 1, 1, none⟩), .int .u64 (lm : Nat), .func (.func 45) #[] #[.pointer (some ⟨H + 1 + 1, 0, none⟩)], .int .i64 (x.1 : Nat), undef, undef, undef, undef, undef, undef, undef, undef, undef, undef], defers := [] }) ?assign ?body ?done ?stop
            case hI =>
              rintro s A' B' row ⟨⟨h1, h2, h3, h4, h5, h6, h7⟩, h8, h9, h10⟩ hg hr'
              have hc := fun r e => (hr' r e).2
              exact ⟨⟨h1.own hg hc, h2.own hg hc, h3.own hg hc, h4.own hg hc, h5.own hg hc, ownFrom_below (β := Unit) (Nat.le_refl _) (by omega) () A' B' row h6 hg hr', Nat.le_trans h7 hg.size⟩, h8.own hg hc, h9.own hg hc, Nat.le_trans h10 hg.size⟩
            case hIx => exact fun _ _ _ _ _ h => h.elim
            case assign =>
              intro l x X K hK
              gi_wp2
              simpa using hK
            case body =>
              rintro lr pre x X hX hlen
              have hgdp : Gd up pc := goodB_iff.1 hgp.out
              have hLat := Lat.of hM.out hlat.out
              have hgs : ∀ b ∈ bitsOf lm, Gd up (stands args pc b) ∧ (stands args pc b).ms < 2 ^ 64 := by
                intro b hb
                unfold stands
                split
                · exact ⟨hgdp, hpc⟩
                · rename_i hb6
                  rcases hfit7.out b hb with h0 | h0
                  · exact absurd h0 hb6
                  · have h1 := List.all_eq_true.1 hall.out (args.getD b ⟨0, 0⟩) (by
                      rw [List.getD_eq_getElem?_getD, List.getElem?_eq_getElem (by rw [ham.out]; exact h0)]
                      exact List.getElem_mem _)
                    exact ⟨goodB_iff.1 h1, hlm.out b⟩
              have hpre : ∀ b ∈ pre.map (·.1), b ∈ bitsOf lm := by
                intro b hb
                obtain ⟨y, _, rfl⟩ := List.mem_map.1 hb
                exact y.2
              have hfg : Gd up (foldTo up ⟨lv, lm⟩ args pc (pre.map (·.1))) := by
                unfold foldTo
                exact (hLat.fold_le (f := stands args pc) (x := 0) hLat.n1 (pre.map (·.1)) ⟨lv, 0⟩ (goodB_iff.1 hgl.out) (fun b hb => (hgs b (hpre b hb)).1)).1
              have hfm : (foldTo up ⟨lv, lm⟩ args pc (pre.map (·.1))).ms < 2 ^ 64 := by
                unfold foldTo
                exact fold_ms_lt (pre.map (·.1)) ⟨lv, 0⟩ (Nat.two_pow_pos 64) (fun b hb => (hgs b (hpre b hb)).2)
              have hsnoc : foldTo up ⟨lv, lm⟩ args pc ((pre ++ [x]).map (·.1)) = joinL up (foldTo up ⟨lv, lm⟩ args pc (pre.map (·.1))) (stands args pc x.1) := by
                unfold foldTo
                rw [List.map_append, List.foldl_append]
                rfl
              have hob := hX.o
              generalize hfe : foldTo up ⟨lv, lm⟩ args pc (pre.map (·.1)) = fo at *
              obtain ⟨hsg, hsm⟩ := hgs x.1 x.2
              have hboth : bothL up fo.lv (stands args pc x.1).lv = true := bothL_iff.2 ⟨by rw [hfg.eq]; omega, by rw [hsg.eq]; omega, by have := hfg.lt; rw [hfg.eq]; omega, by have := hsg.lt; rw [hsg.eq]; omega, hlat.out⟩
              have hsj : sjL up fo (stands args pc x.1) = joinL up fo (stands args pc x.1) := by unfold sjL; rw [hboth]; rfl
              have hst := fun (Y : World) (h1 : Blk Y (w.heap.size + 3) 25 (lbC pc)) (h2 : Y.cell? ⟨w.heap.size + 2, 0, none⟩ = some (.slice Z m d)) (hz : Reads Y Y.heap.size 2 Z m (lbVals args)) => stand_any x.1 (w.heap.size + 3) (w.heap.size + 2) pc args Z m d Y (by omega) h1 h2 ham.out hz (hfit7.out x.1 x.2)
              obtain ⟨XT, f, hfb, hfall⟩ := class_below X.heap.size X
              have hx0 : ∃ y, f y = X.drew := hfall _ (by
                have := below_drewNs (Below.refl X.heap.size X) 1
                exact this)
              have hne : Nonempty XT := hx0.elim fun y _ => ⟨y⟩
              have hkf := fun y => hX.k.below (hfb y)
              have d0 := fun y => (hkf y).b0.cell0
              have d1 := fun y => (hX.f.below (hfb y) hX.f.lt).cell0
              have d2 := fun y => (pair_cells (hob.below (hfb y) hob.lt)).1
              have d3 := fun y => (pair_cells (hob.below (hfb y) hob.lt)).2
              replace hst := Lib.hid hst
              replace hkf := Lib.hid hkf
              replace hX := Lib.hid hX
              replace hob := Lib.hid hob
              replace hfe := Lib.hid hfe
              replace hsj := Lib.hid hsj
              replace hsnoc := Lib.hid hsnoc
              replace hgs := Lib.hid hgs
              replace hboth := Lib.hid hboth
              replace hpre := Lib.hid hpre
              replace hfall := Lib.hid hfall
              replace hfb := Lib.hid hfb
              obtain ⟨fv, fm⟩ := fo
              dsimp only at d2 d3 hfm
              gi_wp2
              refine wpIn_region_class f 7 [true, true, true, true, true, true, true, false, false, false] hx0 (by kernel_rfl) (by kernel_rfl) ?_
              (simp only [List.take_succ_cons, List.take_zero]; (repeat (first | gi_big_quiet_step (fail) | (refine wpQuietIn_pass (fun _ _ _ _ => trivial) (by rfl) rfl ?_; simp only [List.setIfInBounds_toArray, List.set_cons_succ, List.set_cons_zero]) | (refine wpQuietIn_step (fun _ _ _ _ => trivial) ?_; intro K hK; refine Eq.mpr (if_pos (by rfl)) ?_; gi_big_quiet_op; gi_big_quiet_call ((first | (gi_at_call 30; exact class_law hfall.out (hfb.out _) (hfb.out _).size (CallsIn.inRound lr (callsIn_wide.2 (hst.out _ (hkf.out _).b3 (hkf.out _).b2.cell0 ((hz.out.below (hkf.out _).bw).more (hkf.out _).bw.size))))) | (gi_at_call 19; exact class_law hfall.out (hfb.out _) (hfb.out _).size (CallsIn.inRound lr (callsIn_wide.2 (sjoin_any A n c up ⟨fv, fm⟩ _ _ (hT.out.later (hkf.out _).bw) hn.out hn63 hM.out ((hr.out.below (hkf.out _).bw).more (hkf.out _).bw.size) hfm hsm))))))))); refine wpQuietIn_nil ?_)
              rintro W6 ⟨y, rfl⟩
              have k6 := hkf.out y
              have o6 := hob.out.below (hfb.out y) hob.out.lt
              have g6 := hX.out.f.below (hfb.out y) hX.out.f.lt
              have s6 := (hfb.out y).size
              have b6 := hfb.out y
              clear d0 d1 d2 d3
              generalize f y = Y at *
              obtain ⟨d2, d3⟩ := pair_cells o6
              have d4 := o6.frozen 0
              have d5 := o6.frozen 1
              replace k6 := Lib.hid k6
              replace o6 := Lib.hid o6
              replace g6 := Lib.hid g6
              replace b6 := Lib.hid b6
              dsimp only at d2 d3
              have hfin : PutAt w A n c up ⟨lv, lm⟩ Z m d args pc H ((pre ++ [x]).map (·.1)) ((Y.setCell ⟨H + 1, 0, none⟩ (.int .i64 (sjL up ⟨fv, fm⟩ (stands args pc x.1)).lv)).setCell ⟨H + 1, 1, none⟩ (.int .u64 ((sjL up ⟨fv, fm⟩ (stands args pc x.1)).ms : Nat))) ∧
                  KeepsOthers X ((Y.setCell ⟨H + 1, 0, none⟩ (.int .i64 (sjL up ⟨fv, fm⟩ (stands args pc x.1)).lv)).setCell ⟨H + 1, 1, none⟩ (.int .u64 ((sjL up ⟨fv, fm⟩ (stands args pc x.1)).ms : Nat))) ∧
                  Below w.heap.size X ((Y.setCell ⟨H + 1, 0, none⟩ (.int .i64 (sjL up ⟨fv, fm⟩ (stands args pc x.1)).lv)).setCell ⟨H + 1, 1, none⟩ (.int .u64 ((sjL up ⟨fv, fm⟩ (stands args pc x.1)).ms : Nat))) := by
                have kk := k6.out
                have hXs := hX.out.sz
                have hXb := hX.out.k.bw.size
                refine ⟨⟨⟨(kk.b0.far (by simp; omega) _).far (by simp; omega) _, (kk.b1.far (by simp; omega) _).far (by simp; omega) _, (kk.b2.far (by simp; omega) _).far (by simp; omega) _, (kk.b3.far (by simp; omega) _).far (by simp; omega) _, (kk.b4.far (by simp; omega) _).far (by simp; omega) _, (kk.bw.setCell (by simp; omega) _).setCell (by simp; omega) _, by have := kk.sz; simpa [World.setCell] using this⟩,
                  (g6.out.far (by simp) _).far (by simp) _, ?_, by simp [World.setCell]; omega⟩, ((keeps_below b6.out).trans (KeepsOthers.setCell _ _ _)).trans (KeepsOthers.setCell _ _ _), ((b6.out.mono (by omega)).setCell (by simp; omega) _).setCell (by simp; omega) _⟩
                rw [hsnoc.out, ← hsj.out]
                exact pair_set o6.out _ _
              replace hfin := Lib.hid hfin
              refine wpAnyIn_two (i := 7) (k := 8) (by kernel_rfl) ?_ ?_
              · refine wpOpIn_at rfl (by rfl) ?_; intro K' hK'; gi_wp2
                refine wpAnyIn_two (i := 8) (k := 9) (by kernel_rfl) ?_ ?_
                · refine wpOpIn_at rfl (by rfl) ?_; intro K' hK'; gi_wp2
                  refine wpAnyIn_one (i := 9) (by kernel_rfl) ?_
                  refine wpOpIn_at rfl (by rfl) ?_; intro K' hK'; gi_wp2
                  refine wpAnyIn_end (by kernel_rfl) ?_; gi_wp2
                  exact ⟨hfin.out.2.1.from _, hfin.out.2.2, hfin.out.1⟩
                · refine wpOpIn_at rfl (by rfl) ?_; intro K' hK'; gi_wp2
                  refine wpAnyIn_one (i := 8) (by kernel_rfl) ?_
                  refine wpOpIn_at rfl (by rfl) ?_; intro K' hK'; gi_wp2
                  refine wpAnyIn_end (by kernel_rfl) ?_; gi_wp2
                  exact ⟨hfin.out.2.1.from _, hfin.out.2.2, hfin.out.1⟩
              · refine wpOpIn_at rfl (by rfl) ?_; intro K' hK'; gi_wp2
                refine wpAnyIn_one (i := 7) (by kernel_rfl) ?_
                refine wpOpIn_at rfl (by rfl) ?_; intro K' hK'; gi_wp2
                refine wpAnyIn_one (i := 9) (by kernel_rfl) ?_
                refine wpOpIn_at rfl (by rfl) ?_; intro K' hK'; gi_wp2
                refine wpAnyIn_end (by kernel_rfl) ?_; gi_wp2
                exact ⟨hfin.out.2.1.from _, hfin.out.2.2, hfin.out.1⟩
            case done =>
              rintro D ys X hD hys ⟨h1, h2, h3, h4⟩ hK
              have hmk' := Lib.hid ((Marks.nil w.heap.size w.heap.size X).cons (by omega) (by omega) hK)
              rw [hys] at h3
              obtain ⟨d2, d3⟩ := pair_cells h3
              obtain ⟨y6, y7⟩ := pair_cells h1.b4
              have z6 := h1.b4.frozen 0
              have z7 := h1.b4.frozen 1
              have hpf : putL up ⟨lv, lm⟩ args pc = foldTo up ⟨lv, lm⟩ args pc (bitsOf lm) := hpl.out
              generalize foldTo up ⟨lv, lm⟩ args pc (bitsOf lm) = fo at *
              obtain ⟨fv, fm⟩ := fo
              dsimp only at d2 d3
              replace h1 := Lib.hid h1
              replace h2 := Lib.hid h2
              replace h3 := Lib.hid h3
              replace hpf := Lib.hid hpf
              clear hK hys
              gi_wp2
              refine leaves_of_marks (hmk'.out.keeps ((KeepsOthers.setCell _ _ _).trans (KeepsOthers.setCell _ _ _))) ?_
              intro W' hW'
              obtain ⟨e0, e1⟩ := pair_cells (hW'.blk _ _ _ (pair_set h1.out.b4 (.int .i64 fv) (.int .u64 (fm : Nat))))
              exact ⟨.tuple #[.agg #[.int .i64 fv, .int .u64 (fm : Nat)], .bool true], by simp [results, Tryd.f10, go_sem, e0, e1], (by rw [hpf.out, hok.out]), ((h1.out.bw.setCell (by show w.heap.size ≤ w.heap.size + 4; omega) _).setCell (by show w.heap.size ≤ w.heap.size + 4; omega) _).trans hW'.below⟩
            case stop => exact fun _ _ _ _ _ _ h => h.elim

end Go.Proofs.YtfloonpchjbmnaaDoor
