/- sym.Cap: caps, lowered by a label and a bound. -/
import Derived.Deep.RegionHeld3
import Derived.Deep.RegionLawGrows
import Derived.Deep.DeepCutAuto
import Derived.Test.YtfloonpchjbmnaaDoorCp
import Derived.Test.YtfloonpchjbmnaaDoorSymLowsW
import Derived.Test.YtfloonpchjbmnaaDoorRd
namespace Go.Proofs.YtfloonpchjbmnaaDoor
open Go.RowKit Go.Shelf Go.Idl
attribute [local go_sem] Oper.semAt_some
set_option linter.unusedSimpArgs false
set_option linter.unusedVariables false

/-- The blocks of a call of sym.Cap. -/
structure CapB (w : World) (A : Option Addr) (n c : Nat) (cs : List Int) (l : Lb) (bound : Int) (W : World) : Prop where
  b0 : Blk W w.heap.size 22 #[.slice A n c]
  b1 : Blk W (w.heap.size + 1) 50 (ints cs).toArray
  b2 : Blk W (w.heap.size + 2) 25 (lbC l)
  b3 : Blk W (w.heap.size + 3) 3 #[.int .i64 bound]
  b4 : Blk W (w.heap.size + 4) 50 #[.int .i64 0, .int .i64 0, .int .i64 0, .int .i64 0, .int .i64 0, .int .i64 0, .int .i64 0]
  bw : Below w.heap.size w W
  sz : w.heap.size + 5 ≤ W.heap.size
section
variable {w W W' : World} {A : Option Addr} {n c : Nat} {cs : List Int} {l : Lb} {bound : Int}
theorem CapB.below (h : CapB w A n c cs l bound W) (hb : Below W.heap.size W W') : CapB w A n c cs l bound W' :=
  ⟨h.b0.below hb h.b0.lt, h.b1.below hb h.b1.lt, h.b2.below hb h.b2.lt, h.b3.below hb h.b3.lt, h.b4.below hb h.b4.lt, h.bw.trans (hb.mono h.bw.size), Nat.le_trans h.sz hb.size⟩
end
theorem ints_set (cs : List Int) (b : Nat) (u : Int) : (ints cs).toArray.setIfInBounds b (.int .i64 u) = (ints (cs.set b u)).toArray := by simp [ints, List.map_set]
theorem cap_set {w W : World} {A : Option Addr} {n c : Nat} {cs : List Int} {l : Lb} {bound : Int} (k : CapB w A n c cs l bound W) (b : Nat) (u : Int) : CapB w A n c (cs.set b u) l bound (W.setCell ⟨w.heap.size + 1, b, none⟩ (.int .i64 u)) := by
  have h1 := k.b1.set_ b (.int .i64 u)
  rw [ints_set] at h1
  exact ⟨k.b0.far (by simp) _, h1, k.b2.far (by simp) _, k.b3.far (by simp) _, k.b4.far (by simp) _, k.bw.setCell (by simp) _, by have := k.sz; simpa [World.setCell] using this⟩
theorem opIn_append_grows {F : Fence} {nF : Nat} {P : Program} {w : World} {o : Oper} {a : Act} {K : Act → World → Prop} {Q : Exit → Act → World → Prop} (s x : Operand) (t : TypeId)
    (ho : o.op = .call { callee := .builtin .append, args := #[s, x], argTypes := #[t, t] })
    (e : TypeId) (i : TypeInfo) (z : Value) (size bytes : Nat) (ht : P.underlying t = some (.slice e)) (hi : P.info? e = some i) (hz : i.zero = some z)
    (hsize : i.size = size) (hby : i.bytes = bytes) (hzs : z.cells.size = size) (hsz : 0 < size)
    (b : Addr) (n cap : Nat) (olds : List Value) (hs : a.eval s = .slice (some b) n cap) (hlo : olds.length = n * size) (holds : ∀ j u, olds[j]? = some u → w.cell? (b.add j) = some u)
    (ad : Addr) (m c : Nat) (news : List Value) (hx : a.eval x = .slice (some ad) m c) (hl : news.length = m * size) (hnews : ∀ j u, news[j]? = some u → w.cell? (ad.add j) = some u)
    (hg : cap < n + m) (h63 : n + m ≤ maxLen) (hbytes : (n + m) * bytes ≤ 140737488355328)
    (h : ∀ v' w', w'.ownsRow w.heap.size e size v' (n + m) (olds ++ news) → w.grownBy w' none → K (a.put o.dst v') w') : o.wpIn F nF P a w K Q := by
  obtain ⟨v', w', hrun, r1, r2⟩ := run_append_arg_grows (P := P) w t o.type e i z size bytes ht hi hz hsize hby hzs hsz b n cap olds hlo holds ad m c news hl hnews hg h63 hbytes
  refine ⟨?_, ?_⟩
  · simp [Oper.about, ho, resolve, Target.leads, Sem.run_pure]
  · rw [Oper.semAt_eq _ _ _ (by rw [ho]; intro c hc; cases hc)]
    simp [execOp, ho, resolve, invoke, builtin, hs, hx, hrun, Result.andThen]
    exact h v' w' r1 r2
theorem wpOpIn_skip {F : Fence} {n : Nat} {P : Program} {Q : Exit → Act → World → Prop} {ops : Array Oper} {i : Nat} {o : Oper} {a : Act} {w : World} {K : Act → World → Prop} (ho : ops[i]? = some o) (hw : Region.wanted o (yielded ops a.tmps) = false) (hf : ∀ f, F.fn f) (h : K (a.put o.dst undef) w) : wpOpIn F n P ops Q i K a w := by
  unfold wpOpIn
  simp only [ho, hw, Bool.false_eq_true, if_false]
  exact ⟨fun f _ => hf f, h⟩
theorem wpIn_region_wide {F : Fence} {n : Nat} {P : Program} {Q : Exit → Act → World → Prop} {id : Nat} {a : Act} {w : World} {ops : List Oper} (hm : P.follows .mixedOrders = true)
    (h : wpAnyIn F n P .any ops.toArray Q ops.toArray.size (Array.replicate ops.toArray.size false) a w.drew) : (Code.region id ops.toArray true).wpIn F n P Q a w := wpIn_region_any hm h
theorem lev_of {up : List Nat} {cs : List Int} {bound : Int} {l : Lb} (h : capOk up cs l bound = true) : levB up (cs ++ [bound, l.lv]) = true := by
  unfold capOk at h
  rw [Bool.and_eq_true] at h
  exact h.1

theorem set7 {W : World} {g : Nat} {t : TypeId} {a0 a1 a2 a3 a4 a5 a6 : Value} (h : Blk W g t #[a0, a1, a2, a3, a4, a5, a6]) (x0 x1 x2 x3 x4 x5 x6 : Value) :
    Blk (((((((W.setCell ⟨g, 0, none⟩ x0).setCell ⟨g, 1, none⟩ x1).setCell ⟨g, 2, none⟩ x2).setCell ⟨g, 3, none⟩ x3).setCell ⟨g, 4, none⟩ x4).setCell ⟨g, 5, none⟩ x5).setCell ⟨g, 6, none⟩ x6) g t #[x0, x1, x2, x3, x4, x5, x6] := by
  have := ((((((h.set_ 0 x0).set_ 1 x1).set_ 2 x2).set_ 3 x3).set_ 4 x4).set_ 5 x5).set_ 6 x6
  simpa using this
theorem list7 {l : List Int} (h : l.length = 7) : ∃ a b c d e f g, l = [a, b, c, d, e, f, g] := by
  match l, h with
  | [a, b, c, d, e, f, g], _ => exact ⟨a, b, c, d, e, f, g, rfl⟩
theorem keeps7 (W : World) (g : Nat) (x0 x1 x2 x3 x4 x5 x6 : Value) : KeepsOthers W (((((((W.setCell ⟨g, 0, none⟩ x0).setCell ⟨g, 1, none⟩ x1).setCell ⟨g, 2, none⟩ x2).setCell ⟨g, 3, none⟩ x3).setCell ⟨g, 4, none⟩ x4).setCell ⟨g, 5, none⟩ x5).setCell ⟨g, 6, none⟩ x6) :=
  ((((((KeepsOthers.setCell _ _ _).trans (KeepsOthers.setCell _ _ _)).trans (KeepsOthers.setCell _ _ _)).trans (KeepsOthers.setCell _ _ _)).trans (KeepsOthers.setCell _ _ _)).trans (KeepsOthers.setCell _ _ _)).trans (KeepsOthers.setCell _ _ _)
theorem below7 {w W : World} {B g : Nat} (h : Below B w W) (hg : B ≤ g) (x0 x1 x2 x3 x4 x5 x6 : Value) :
    Below B w (((((((W.setCell ⟨g, 0, none⟩ x0).setCell ⟨g, 1, none⟩ x1).setCell ⟨g, 2, none⟩ x2).setCell ⟨g, 3, none⟩ x3).setCell ⟨g, 4, none⟩ x4).setCell ⟨g, 5, none⟩ x5).setCell ⟨g, 6, none⟩ x6) :=
  ((((((h.setCell hg x0).setCell hg x1).setCell hg x2).setCell hg x3).setCell hg x4).setCell hg x5).setCell hg x6

set_option maxRecDepth 100000 in
set_option maxHeartbeats 8000000 in
theorem cap_any (A : Option Addr) (n c : Nat) (up : List Nat) (cs : List Int) (l : Lb) (bound : Int) (w : World) (hT : Tab w) (hn : up.length = n) (hn63 : n ≤ maxLen) (hM : Masks up) (hr : Reads w w.heap.size 1 A n (u64s up))
    (hl : l.ms < 2 ^ 64) (hc : cs.length = 7) :
    Calls Tryd.prog 23 #[.slice A n c, .agg (ints cs).toArray, lbV l, .int .i64 bound] w fun e w' => e = .returned (.tuple #[.agg (ints (capL up cs l bound)).toArray, .bool (capOk up cs l bound)]) ∧ Below w.heap.size w w' := by
  refine (callsIn_wide (n := 20)).1 ?_
  have hw0 := hT.1
  have hml : maxLen = 9223372036854775807 := rfl
  obtain ⟨j0, hj0, hjz0, hjz1, hjz2⟩ := info_parts intA_info
  have hno : capOk up cs l bound = false → capL up cs l bound = [0, 0, 0, 0, 0, 0, 0] := fun h => by unfold capL; rw [h]; rfl
  have hlev := @lev_of up cs bound l
  obtain ⟨lv, lm⟩ := l
  dsimp only at hl hlev ⊢
  simp only [lbV]
  obtain ⟨W0, hW0⟩ : ∃ W0, ((((w.alloc (.cells #[.slice A n c] 22)).alloc (.cells (ints cs).toArray 50)).alloc (.cells (lbC ⟨lv, lm⟩) 25)).alloc (.cells #[.int .i64 bound] 3)).alloc (.cells #[.int .i64 0, .int .i64 0, .int .i64 0, .int .i64 0, .int .i64 0, .int .i64 0, .int .i64 0] 50) = W0 := ⟨_, rfl⟩
  have k : CapB w A n c cs ⟨lv, lm⟩ bound W0 := by
    rw [← hW0]
    refine ⟨((((Blk.new w _ _).alloc _).alloc _).alloc _).alloc _, (((Blk.new_at _ _ _ _ (by simp)).alloc _).alloc _).alloc _, ((Blk.new_at _ _ _ _ (by simp)).alloc _).alloc _, (Blk.new_at _ _ _ _ (by simp)).alloc _, Blk.new_at _ _ _ _ (by simp), ?_, by simp⟩
    exact (((((Below.refl _ w).alloc (Nat.le_refl _) _).alloc (by simp) _).alloc (by simp; omega) _).alloc (by simp; omega) _).alloc (by simp; omega) _
  have hs0 : W0.heap.size = w.heap.size + 5 := by rw [← hW0]; simp
  have q0 := k.b0.cell0
  obtain ⟨q1, q2⟩ := pair_cells k.b2
  have q3 := k.b3.cell0
  have hcell0 := Lib.hid (fun (W : World) (p : Addr) (v : Value) (h : Below W0.heap.size W0 W) (hp : p.block < W0.heap.size) (hv : W0.cell? p = some v) => (h.cell hp).trans hv)
  have hints := Lib.hid (show (ints cs).length = 7 * 1 by unfold ints; rw [List.length_map, hc])
  have hno' := Lib.hid hno
  replace k := Lib.hid k
  replace hT := Lib.hid hT
  replace hr := Lib.hid hr
  replace hM := Lib.hid hM
  replace hn := Lib.hid hn
  replace hc := Lib.hid hc
  clear hno
  have h77 : withN (belowN ((7 : Nat) : Int)) 6 = belowN 7 := by decide
  have hfw : withN (belowN ((7 : Nat) : Int)) 6 < 2 ^ 64 := withN_lt _ _ (belowN_lt _)
  have hfit : (bits BinOp.andNot IntKind.u64 (lm : Int) ((belowN 7 : Nat) : Int) == 0) = fitsB lm 7 := by
    rw [← h77, u64_andNot_eq lm _ hl hfw, ← fits_prog hl (show 7 < 64 by omega), Bool.eq_iff_iff, beq_iff_eq, decide_eq_true_eq]
    omega
  have hfit2 : (bits BinOp.andNot IntKind.u64 (lm : Int) ((belowN 7 : Nat) : Int) != 0) = !fitsB lm 7 := by rw [← hfit]; rfl
  replace h77 := Lib.hid h77
  cases hq : levB up (cs ++ [bound, lv]) with
  | false =>
    have hok : capOk up cs ⟨lv, lm⟩ bound = false := by
      cases h : capOk up cs ⟨lv, lm⟩ bound with
      | false => rfl
      | true => rw [hlev h] at hq; cases hq
    rw [hno'.out hok, hok]
    replace hok := Lib.hid hok
    replace hlev := Lib.hid hlev
    replace hq := Lib.hid hq
    refine callsIn_of_wp_marks Tryd.func23 rfl trivial ?_ rfl
    simp only [Tryd.ntmps23, List.size_toArray, List.length_cons, List.length_nil, Nat.reduceAdd, Nat.reduceSub, Array.replicate_succ, Array.replicate_zero, List.push_toArray, List.append_toArray, List.nil_append, List.cons_append]
    gi_wp2
    refine (wpIn_wide (n := 20)).2 ?_
    refine wp_region_noPanic ?_
    refine (wpIn_wide (n := 20)).1 ?_
    refine wpIn_region_wide (by kernel_rfl) ?_
    refine wpAnyIn_take (i := 1) (v := ?_) rfl rfl (by kernel_rfl) (by kernel_rfl) (by kernel_rfl) (fun _ _ _ h => h) ⟨Or.inl ⟨by rfl, ?_⟩, fun _ => rfl⟩ ?_
    rotate_left
    · intro W1
      go_simp
      try with_reducible rfl
    simp only [Act.put, List.setIfInBounds_toArray, List.set_cons_zero, List.set_cons_succ]
    refine wpAnyIn_take (i := 3) (v := ?_) rfl rfl (by kernel_rfl) (by kernel_rfl) (by kernel_rfl) (fun _ _ _ h => h) ⟨Or.inl ⟨by rfl, ?_⟩, fun _ => rfl⟩ ?_
    rotate_left
    · intro W1
      go_simp
      try with_reducible rfl
    simp only [Act.put, List.setIfInBounds_toArray, List.set_cons_zero, List.set_cons_succ]
    refine wpAnyIn_three (i := 0) (k := 2) (r := 4) (by kernel_rfl) ?_ ?_ ?_
    · refine wpOpIn_at rfl (by rfl) ?_
      intro K' hK'
      gi_wp2
      refine wpAnyIn_two (i := 2) (k := 4) (by kernel_rfl) ?_ ?_
      · refine wpOpIn_at rfl (by rfl) ?_
        intro K' hK'
        gi_wp2
        refine wpAnyIn_one (i := 4) (by kernel_rfl) ?_
        refine wpOpIn_at rfl (by rfl) ?_
        intro K' hK'
        gi_wp2
        refine wpAnyIn_one (i := 5) (by kernel_rfl) ?_
        refine wpOpIn_at rfl (by rfl) ?_
        intro K' hK'
        gi_wp2
        refine wpAnyIn_one (i := 6) (by kernel_rfl) ?_
        refine wpOpIn_at rfl (by rfl) ?_
        intro K' hK'
        refine opIn_append_grows _ _ _ rfl 3 j0 (.int .i64 0) 1 8 Tryd.underlying37 hj0 hjz0 hjz1 hjz2 rfl (by decide) ⟨w.heap.size + 1, 0, none⟩ 7 7 (ints cs) (by rfl) hints.out ?_ ⟨w.heap.size + 5, 0, none⟩ 2 2 [.int .i64 bound, .int .i64 lv] (by rfl) rfl ?_ (by omega) (by omega) (by omega) ?_
        · intro j u hu
          rw [add0]
          refine ((k.out.b1.alloc _).cell j).trans ?_
          simpa using hu
        · intro j u hu
          rw [add0]
          refine (Blk.cell (t := 3) (cs := #[.int .i64 bound, .int .i64 lv]) (Blk.new_at W0 _ _ _ hs0) j).trans ?_
          simpa using hu
        intro v2 w2 hown2 hg2
        obtain ⟨A2, c2, rfl⟩ := ownsRow_slice hown2
        have hb2 : RowKit.Hid (Below W0.heap.size W0 w2) := by
          refine Lib.hid (Below.grown (w := _) ?_ hg2 ?_ ?_)
          · exact ((Below.refl _ W0).drew).alloc (Nat.le_refl _) _
          · first | omega | (simp <;> omega)
          · intro j hj
            cases hj
        have hs2 := hb2.out.size
        have q02 := hcell0.out w2 ⟨w.heap.size, 0, none⟩ _ hb2.out (by simp <;> omega) q0
        have hrd2 := Lib.hid (Reads.of_own hown2)
        clear hown2 hg2
        refine hK' _ _ ?_
        simp only [Act.put, List.setIfInBounds_toArray, List.set_cons_zero, List.set_cons_succ]
        refine wpAnyIn_one (i := 7) (by kernel_rfl) ?_
        refine wpOpIn_at rfl (by rfl) ?_
        intro K' hK'
        gi_wp2_with (refine ⟨trivial, ?_⟩; gi_at_call 29; refine (callsIn_wide.2 (level_any A n c up A2 9 c2 (cs ++ [bound, lv]) w2 (hT.out.later (k.out.bw.trans (hb2.out.mono k.out.bw.size))) hn.out hn63 hM.out (((hr.out.below k.out.bw).more k.out.bw.size).below hb2.out |>.more hs2) (by rw [List.length_append, hc.out]; rfl) (by omega) (by have := hrd2.out; unfold ints at this ⊢; rw [List.map_append]; exact this))).mono ?_; rintro e0 w3 ⟨rfl, hb3'⟩; rw [hq.out]; have hb3 := Lib.hid (hb2.out.trans (hb3'.mono hs2)); have k3 := k.out.below hb3.out; have y0 := k3.b4.cell 0; have r0 := k3.b4.frozen 0; have y1 := k3.b4.cell 1; have r1 := k3.b4.frozen 1; have y2 := k3.b4.cell 2; have r2 := k3.b4.frozen 2; have y3 := k3.b4.cell 3; have r3 := k3.b4.frozen 3; have y4 := k3.b4.cell 4; have r4 := k3.b4.frozen 4; have y5 := k3.b4.cell 5; have r5 := k3.b4.frozen 5; have y6 := k3.b4.cell 6; have r6 := k3.b4.frozen 6; simp at y0 y1 y2 y3 y4 y5 y6; replace k3 := Lib.hid k3; clear hb3')
        refine wpAnyIn_take (i := 8) (v := ?_) rfl rfl (by kernel_rfl) (by kernel_rfl) (by kernel_rfl) (fun _ _ _ h => h) ⟨Or.inl ⟨by rfl, ?_⟩, fun _ => rfl⟩ ?_
        rotate_left
        · intro W1
          go_simp
          try with_reducible rfl
        simp only [Act.put, List.setIfInBounds_toArray, List.set_cons_zero, List.set_cons_succ]
        refine wpAnyIn_take (i := 9) (v := ?_) rfl rfl (by kernel_rfl) (by kernel_rfl) (by kernel_rfl) (fun _ _ _ h => h) ⟨Or.inl ⟨by rfl, ?_⟩, fun _ => rfl⟩ ?_
        rotate_left
        · intro W1
          go_simp
          try with_reducible rfl
        simp only [Act.put, List.setIfInBounds_toArray, List.set_cons_zero, List.set_cons_succ]
        refine wpAnyIn_take (i := 10) (v := undef) rfl rfl (by kernel_rfl) (by kernel_rfl) (by kernel_rfl) (fun _ _ _ h => h) ⟨Or.inr ⟨by rfl, rfl⟩, fun _ => rfl⟩ ?_
        simp only [Act.put, List.setIfInBounds_toArray, List.set_cons_zero, List.set_cons_succ]
        refine wpAnyIn_take (i := 11) (v := undef) rfl rfl (by kernel_rfl) (by kernel_rfl) (by kernel_rfl) (fun _ _ _ h => h) ⟨Or.inr ⟨by rfl, rfl⟩, fun _ => rfl⟩ ?_
        simp only [Act.put, List.setIfInBounds_toArray, List.set_cons_zero, List.set_cons_succ]
        refine wpAnyIn_one (i := 12) (by kernel_rfl) ?_
        refine wpOpIn_skip rfl (by rfl) (fun _ => trivial) ?_
        simp only [Act.put, List.setIfInBounds_toArray, List.set_cons_zero, List.set_cons_succ]
        refine wpAnyIn_take (i := 13) (v := undef) rfl rfl (by kernel_rfl) (by kernel_rfl) (by kernel_rfl) (fun _ _ _ h => h) ⟨Or.inr ⟨by rfl, rfl⟩, fun _ => rfl⟩ ?_
        simp only [Act.put, List.setIfInBounds_toArray, List.set_cons_zero, List.set_cons_succ]
        refine wpAnyIn_take (i := 14) (v := undef) rfl rfl (by kernel_rfl) (by kernel_rfl) (by kernel_rfl) (fun _ _ _ h => h) ⟨Or.inr ⟨by rfl, rfl⟩, fun _ => rfl⟩ ?_
        simp only [Act.put, List.setIfInBounds_toArray, List.set_cons_zero, List.set_cons_succ]
        refine wpAnyIn_one (i := 15) (by kernel_rfl) ?_
        refine wpOpIn_at rfl (by rfl) ?_
        intro K' hK'
        gi_wp2
        refine wpAnyIn_end (by kernel_rfl) ?_
        refine NoPanic.normal ?_
        gi_wp2
        (
          refine leaves_of_marks (Marks.nil w.heap.size w.heap.size _) ?_
          intro W' hW'
          have hbk := hW'.blk _ _ _ (set7 k3.out.b4 (.int .i64 0) (.int .i64 0) (.int .i64 0) (.int .i64 0) (.int .i64 0) (.int .i64 0) (.int .i64 0))
          have e0 := hbk.cell 0
          have e1 := hbk.cell 1
          have e2 := hbk.cell 2
          have e3 := hbk.cell 3
          have e4 := hbk.cell 4
          have e5 := hbk.cell 5
          have e6 := hbk.cell 6
          simp at e0 e1 e2 e3 e4 e5 e6
          refine ⟨.tuple #[.agg #[.int .i64 0, .int .i64 0, .int .i64 0, .int .i64 0, .int .i64 0, .int .i64 0, .int .i64 0], .bool false], ?_, rfl, (below7 k3.out.bw (by omega) _ _ _ _ _ _ _).trans hW'.below⟩
          simp [results, Tryd.f23, go_sem, e0, e1, e2, e3, e4, e5, e6])
      · refine wpOpIn_at rfl (by rfl) ?_
        intro K' hK'
        gi_wp2
        refine wpAnyIn_one (i := 2) (by kernel_rfl) ?_
        refine wpOpIn_at rfl (by rfl) ?_
        intro K' hK'
        gi_wp2
        refine wpAnyIn_one (i := 5) (by kernel_rfl) ?_
        refine wpOpIn_at rfl (by rfl) ?_
        intro K' hK'
        gi_wp2
        refine wpAnyIn_one (i := 6) (by kernel_rfl) ?_
        refine wpOpIn_at rfl (by rfl) ?_
        intro K' hK'
        refine opIn_append_grows _ _ _ rfl 3 j0 (.int .i64 0) 1 8 Tryd.underlying37 hj0 hjz0 hjz1 hjz2 rfl (by decide) ⟨w.heap.size + 1, 0, none⟩ 7 7 (ints cs) (by rfl) hints.out ?_ ⟨w.heap.size + 5, 0, none⟩ 2 2 [.int .i64 bound, .int .i64 lv] (by rfl) rfl ?_ (by omega) (by omega) (by omega) ?_
        · intro j u hu
          rw [add0]
          refine ((k.out.b1.alloc _).cell j).trans ?_
          simpa using hu
        · intro j u hu
          rw [add0]
          refine (Blk.cell (t := 3) (cs := #[.int .i64 bound, .int .i64 lv]) (Blk.new_at W0 _ _ _ hs0) j).trans ?_
          simpa using hu
        intro v2 w2 hown2 hg2
        obtain ⟨A2, c2, rfl⟩ := ownsRow_slice hown2
        have hb2 : RowKit.Hid (Below W0.heap.size W0 w2) := by
          refine Lib.hid (Below.grown (w := _) ?_ hg2 ?_ ?_)
          · exact ((Below.refl _ W0).drew).alloc (Nat.le_refl _) _
          · first | omega | (simp <;> omega)
          · intro j hj
            cases hj
        have hs2 := hb2.out.size
        have q02 := hcell0.out w2 ⟨w.heap.size, 0, none⟩ _ hb2.out (by simp <;> omega) q0
        have hrd2 := Lib.hid (Reads.of_own hown2)
        clear hown2 hg2
        refine hK' _ _ ?_
        simp only [Act.put, List.setIfInBounds_toArray, List.set_cons_zero, List.set_cons_succ]
        refine wpAnyIn_one (i := 7) (by kernel_rfl) ?_
        refine wpOpIn_at rfl (by rfl) ?_
        intro K' hK'
        gi_wp2_with (refine ⟨trivial, ?_⟩; gi_at_call 29; refine (callsIn_wide.2 (level_any A n c up A2 9 c2 (cs ++ [bound, lv]) w2 (hT.out.later (k.out.bw.trans (hb2.out.mono k.out.bw.size))) hn.out hn63 hM.out (((hr.out.below k.out.bw).more k.out.bw.size).below hb2.out |>.more hs2) (by rw [List.length_append, hc.out]; rfl) (by omega) (by have := hrd2.out; unfold ints at this ⊢; rw [List.map_append]; exact this))).mono ?_; rintro e0 w3 ⟨rfl, hb3'⟩; rw [hq.out]; have hb3 := Lib.hid (hb2.out.trans (hb3'.mono hs2)); have k3 := k.out.below hb3.out; have y0 := k3.b4.cell 0; have r0 := k3.b4.frozen 0; have y1 := k3.b4.cell 1; have r1 := k3.b4.frozen 1; have y2 := k3.b4.cell 2; have r2 := k3.b4.frozen 2; have y3 := k3.b4.cell 3; have r3 := k3.b4.frozen 3; have y4 := k3.b4.cell 4; have r4 := k3.b4.frozen 4; have y5 := k3.b4.cell 5; have r5 := k3.b4.frozen 5; have y6 := k3.b4.cell 6; have r6 := k3.b4.frozen 6; simp at y0 y1 y2 y3 y4 y5 y6; replace k3 := Lib.hid k3; clear hb3')
        refine wpAnyIn_take (i := 8) (v := ?_) rfl rfl (by kernel_rfl) (by kernel_rfl) (by kernel_rfl) (fun _ _ _ h => h) ⟨Or.inl ⟨by rfl, ?_⟩, fun _ => rfl⟩ ?_
        rotate_left
        · intro W1
          go_simp
          try with_reducible rfl
        simp only [Act.put, List.setIfInBounds_toArray, List.set_cons_zero, List.set_cons_succ]
        refine wpAnyIn_take (i := 9) (v := ?_) rfl rfl (by kernel_rfl) (by kernel_rfl) (by kernel_rfl) (fun _ _ _ h => h) ⟨Or.inl ⟨by rfl, ?_⟩, fun _ => rfl⟩ ?_
        rotate_left
        · intro W1
          go_simp
          try with_reducible rfl
        simp only [Act.put, List.setIfInBounds_toArray, List.set_cons_zero, List.set_cons_succ]
        refine wpAnyIn_take (i := 10) (v := undef) rfl rfl (by kernel_rfl) (by kernel_rfl) (by kernel_rfl) (fun _ _ _ h => h) ⟨Or.inr ⟨by rfl, rfl⟩, fun _ => rfl⟩ ?_
        simp only [Act.put, List.setIfInBounds_toArray, List.set_cons_zero, List.set_cons_succ]
        refine wpAnyIn_take (i := 11) (v := undef) rfl rfl (by kernel_rfl) (by kernel_rfl) (by kernel_rfl) (fun _ _ _ h => h) ⟨Or.inr ⟨by rfl, rfl⟩, fun _ => rfl⟩ ?_
        simp only [Act.put, List.setIfInBounds_toArray, List.set_cons_zero, List.set_cons_succ]
        refine wpAnyIn_one (i := 12) (by kernel_rfl) ?_
        refine wpOpIn_skip rfl (by rfl) (fun _ => trivial) ?_
        simp only [Act.put, List.setIfInBounds_toArray, List.set_cons_zero, List.set_cons_succ]
        refine wpAnyIn_take (i := 13) (v := undef) rfl rfl (by kernel_rfl) (by kernel_rfl) (by kernel_rfl) (fun _ _ _ h => h) ⟨Or.inr ⟨by rfl, rfl⟩, fun _ => rfl⟩ ?_
        simp only [Act.put, List.setIfInBounds_toArray, List.set_cons_zero, List.set_cons_succ]
        refine wpAnyIn_take (i := 14) (v := undef) rfl rfl (by kernel_rfl) (by kernel_rfl) (by kernel_rfl) (fun _ _ _ h => h) ⟨Or.inr ⟨by rfl, rfl⟩, fun _ => rfl⟩ ?_
        simp only [Act.put, List.setIfInBounds_toArray, List.set_cons_zero, List.set_cons_succ]
        refine wpAnyIn_one (i := 15) (by kernel_rfl) ?_
        refine wpOpIn_at rfl (by rfl) ?_
        intro K' hK'
        gi_wp2
        refine wpAnyIn_end (by kernel_rfl) ?_
        refine NoPanic.normal ?_
        gi_wp2
        (
          refine leaves_of_marks (Marks.nil w.heap.size w.heap.size _) ?_
          intro W' hW'
          have hbk := hW'.blk _ _ _ (set7 k3.out.b4 (.int .i64 0) (.int .i64 0) (.int .i64 0) (.int .i64 0) (.int .i64 0) (.int .i64 0) (.int .i64 0))
          have e0 := hbk.cell 0
          have e1 := hbk.cell 1
          have e2 := hbk.cell 2
          have e3 := hbk.cell 3
          have e4 := hbk.cell 4
          have e5 := hbk.cell 5
          have e6 := hbk.cell 6
          simp at e0 e1 e2 e3 e4 e5 e6
          refine ⟨.tuple #[.agg #[.int .i64 0, .int .i64 0, .int .i64 0, .int .i64 0, .int .i64 0, .int .i64 0, .int .i64 0], .bool false], ?_, rfl, (below7 k3.out.bw (by omega) _ _ _ _ _ _ _).trans hW'.below⟩
          simp [results, Tryd.f23, go_sem, e0, e1, e2, e3, e4, e5, e6])
    · refine wpOpIn_at rfl (by rfl) ?_
      intro K' hK'
      gi_wp2
      refine wpAnyIn_two (i := 0) (k := 4) (by kernel_rfl) ?_ ?_
      · refine wpOpIn_at rfl (by rfl) ?_
        intro K' hK'
        gi_wp2
        refine wpAnyIn_one (i := 4) (by kernel_rfl) ?_
        refine wpOpIn_at rfl (by rfl) ?_
        intro K' hK'
        gi_wp2
        refine wpAnyIn_one (i := 5) (by kernel_rfl) ?_
        refine wpOpIn_at rfl (by rfl) ?_
        intro K' hK'
        gi_wp2
        refine wpAnyIn_one (i := 6) (by kernel_rfl) ?_
        refine wpOpIn_at rfl (by rfl) ?_
        intro K' hK'
        refine opIn_append_grows _ _ _ rfl 3 j0 (.int .i64 0) 1 8 Tryd.underlying37 hj0 hjz0 hjz1 hjz2 rfl (by decide) ⟨w.heap.size + 1, 0, none⟩ 7 7 (ints cs) (by rfl) hints.out ?_ ⟨w.heap.size + 5, 0, none⟩ 2 2 [.int .i64 bound, .int .i64 lv] (by rfl) rfl ?_ (by omega) (by omega) (by omega) ?_
        · intro j u hu
          rw [add0]
          refine ((k.out.b1.alloc _).cell j).trans ?_
          simpa using hu
        · intro j u hu
          rw [add0]
          refine (Blk.cell (t := 3) (cs := #[.int .i64 bound, .int .i64 lv]) (Blk.new_at W0 _ _ _ hs0) j).trans ?_
          simpa using hu
        intro v2 w2 hown2 hg2
        obtain ⟨A2, c2, rfl⟩ := ownsRow_slice hown2
        have hb2 : RowKit.Hid (Below W0.heap.size W0 w2) := by
          refine Lib.hid (Below.grown (w := _) ?_ hg2 ?_ ?_)
          · exact ((Below.refl _ W0).drew).alloc (Nat.le_refl _) _
          · first | omega | (simp <;> omega)
          · intro j hj
            cases hj
        have hs2 := hb2.out.size
        have q02 := hcell0.out w2 ⟨w.heap.size, 0, none⟩ _ hb2.out (by simp <;> omega) q0
        have hrd2 := Lib.hid (Reads.of_own hown2)
        clear hown2 hg2
        refine hK' _ _ ?_
        simp only [Act.put, List.setIfInBounds_toArray, List.set_cons_zero, List.set_cons_succ]
        refine wpAnyIn_one (i := 7) (by kernel_rfl) ?_
        refine wpOpIn_at rfl (by rfl) ?_
        intro K' hK'
        gi_wp2_with (refine ⟨trivial, ?_⟩; gi_at_call 29; refine (callsIn_wide.2 (level_any A n c up A2 9 c2 (cs ++ [bound, lv]) w2 (hT.out.later (k.out.bw.trans (hb2.out.mono k.out.bw.size))) hn.out hn63 hM.out (((hr.out.below k.out.bw).more k.out.bw.size).below hb2.out |>.more hs2) (by rw [List.length_append, hc.out]; rfl) (by omega) (by have := hrd2.out; unfold ints at this ⊢; rw [List.map_append]; exact this))).mono ?_; rintro e0 w3 ⟨rfl, hb3'⟩; rw [hq.out]; have hb3 := Lib.hid (hb2.out.trans (hb3'.mono hs2)); have k3 := k.out.below hb3.out; have y0 := k3.b4.cell 0; have r0 := k3.b4.frozen 0; have y1 := k3.b4.cell 1; have r1 := k3.b4.frozen 1; have y2 := k3.b4.cell 2; have r2 := k3.b4.frozen 2; have y3 := k3.b4.cell 3; have r3 := k3.b4.frozen 3; have y4 := k3.b4.cell 4; have r4 := k3.b4.frozen 4; have y5 := k3.b4.cell 5; have r5 := k3.b4.frozen 5; have y6 := k3.b4.cell 6; have r6 := k3.b4.frozen 6; simp at y0 y1 y2 y3 y4 y5 y6; replace k3 := Lib.hid k3; clear hb3')
        refine wpAnyIn_take (i := 8) (v := ?_) rfl rfl (by kernel_rfl) (by kernel_rfl) (by kernel_rfl) (fun _ _ _ h => h) ⟨Or.inl ⟨by rfl, ?_⟩, fun _ => rfl⟩ ?_
        rotate_left
        · intro W1
          go_simp
          try with_reducible rfl
        simp only [Act.put, List.setIfInBounds_toArray, List.set_cons_zero, List.set_cons_succ]
        refine wpAnyIn_take (i := 9) (v := ?_) rfl rfl (by kernel_rfl) (by kernel_rfl) (by kernel_rfl) (fun _ _ _ h => h) ⟨Or.inl ⟨by rfl, ?_⟩, fun _ => rfl⟩ ?_
        rotate_left
        · intro W1
          go_simp
          try with_reducible rfl
        simp only [Act.put, List.setIfInBounds_toArray, List.set_cons_zero, List.set_cons_succ]
        refine wpAnyIn_take (i := 10) (v := undef) rfl rfl (by kernel_rfl) (by kernel_rfl) (by kernel_rfl) (fun _ _ _ h => h) ⟨Or.inr ⟨by rfl, rfl⟩, fun _ => rfl⟩ ?_
        simp only [Act.put, List.setIfInBounds_toArray, List.set_cons_zero, List.set_cons_succ]
        refine wpAnyIn_take (i := 11) (v := undef) rfl rfl (by kernel_rfl) (by kernel_rfl) (by kernel_rfl) (fun _ _ _ h => h) ⟨Or.inr ⟨by rfl, rfl⟩, fun _ => rfl⟩ ?_
        simp only [Act.put, List.setIfInBounds_toArray, List.set_cons_zero, List.set_cons_succ]
        refine wpAnyIn_one (i := 12) (by kernel_rfl) ?_
        refine wpOpIn_skip rfl (by rfl) (fun _ => trivial) ?_
        simp only [Act.put, List.setIfInBounds_toArray, List.set_cons_zero, List.set_cons_succ]
        refine wpAnyIn_take (i := 13) (v := undef) rfl rfl (by kernel_rfl) (by kernel_rfl) (by kernel_rfl) (fun _ _ _ h => h) ⟨Or.inr ⟨by rfl, rfl⟩, fun _ => rfl⟩ ?_
        simp only [Act.put, List.setIfInBounds_toArray, List.set_cons_zero, List.set_cons_succ]
        refine wpAnyIn_take (i := 14) (v := undef) rfl rfl (by kernel_rfl) (by kernel_rfl) (by kernel_rfl) (fun _ _ _ h => h) ⟨Or.inr ⟨by rfl, rfl⟩, fun _ => rfl⟩ ?_
        simp only [Act.put, List.setIfInBounds_toArray, List.set_cons_zero, List.set_cons_succ]
        refine wpAnyIn_one (i := 15) (by kernel_rfl) ?_
        refine wpOpIn_at rfl (by rfl) ?_
        intro K' hK'
        gi_wp2
        refine wpAnyIn_end (by kernel_rfl) ?_
        refine NoPanic.normal ?_
        gi_wp2
        (
          refine leaves_of_marks (Marks.nil w.heap.size w.heap.size _) ?_
          intro W' hW'
          have hbk := hW'.blk _ _ _ (set7 k3.out.b4 (.int .i64 0) (.int .i64 0) (.int .i64 0) (.int .i64 0) (.int .i64 0) (.int .i64 0) (.int .i64 0))
          have e0 := hbk.cell 0
          have e1 := hbk.cell 1
          have e2 := hbk.cell 2
          have e3 := hbk.cell 3
          have e4 := hbk.cell 4
          have e5 := hbk.cell 5
          have e6 := hbk.cell 6
          simp at e0 e1 e2 e3 e4 e5 e6
          refine ⟨.tuple #[.agg #[.int .i64 0, .int .i64 0, .int .i64 0, .int .i64 0, .int .i64 0, .int .i64 0, .int .i64 0], .bool false], ?_, rfl, (below7 k3.out.bw (by omega) _ _ _ _ _ _ _).trans hW'.below⟩
          simp [results, Tryd.f23, go_sem, e0, e1, e2, e3, e4, e5, e6])
      · refine wpOpIn_at rfl (by rfl) ?_
        intro K' hK'
        gi_wp2
        refine wpAnyIn_two (i := 0) (k := 5) (by kernel_rfl) ?_ ?_
        · refine wpOpIn_at rfl (by rfl) ?_
          intro K' hK'
          gi_wp2
          refine wpAnyIn_one (i := 5) (by kernel_rfl) ?_
          refine wpOpIn_at rfl (by rfl) ?_
          intro K' hK'
          gi_wp2
          refine wpAnyIn_one (i := 6) (by kernel_rfl) ?_
          refine wpOpIn_at rfl (by rfl) ?_
          intro K' hK'
          refine opIn_append_grows _ _ _ rfl 3 j0 (.int .i64 0) 1 8 Tryd.underlying37 hj0 hjz0 hjz1 hjz2 rfl (by decide) ⟨w.heap.size + 1, 0, none⟩ 7 7 (ints cs) (by rfl) hints.out ?_ ⟨w.heap.size + 5, 0, none⟩ 2 2 [.int .i64 bound, .int .i64 lv] (by rfl) rfl ?_ (by omega) (by omega) (by omega) ?_
          · intro j u hu
            rw [add0]
            refine ((k.out.b1.alloc _).cell j).trans ?_
            simpa using hu
          · intro j u hu
            rw [add0]
            refine (Blk.cell (t := 3) (cs := #[.int .i64 bound, .int .i64 lv]) (Blk.new_at W0 _ _ _ hs0) j).trans ?_
            simpa using hu
          intro v2 w2 hown2 hg2
          obtain ⟨A2, c2, rfl⟩ := ownsRow_slice hown2
          have hb2 : RowKit.Hid (Below W0.heap.size W0 w2) := by
            refine Lib.hid (Below.grown (w := _) ?_ hg2 ?_ ?_)
            · exact ((Below.refl _ W0).drew).alloc (Nat.le_refl _) _
            · first | omega | (simp <;> omega)
            · intro j hj
              cases hj
          have hs2 := hb2.out.size
          have q02 := hcell0.out w2 ⟨w.heap.size, 0, none⟩ _ hb2.out (by simp <;> omega) q0
          have hrd2 := Lib.hid (Reads.of_own hown2)
          clear hown2 hg2
          refine hK' _ _ ?_
          simp only [Act.put, List.setIfInBounds_toArray, List.set_cons_zero, List.set_cons_succ]
          refine wpAnyIn_one (i := 7) (by kernel_rfl) ?_
          refine wpOpIn_at rfl (by rfl) ?_
          intro K' hK'
          gi_wp2_with (refine ⟨trivial, ?_⟩; gi_at_call 29; refine (callsIn_wide.2 (level_any A n c up A2 9 c2 (cs ++ [bound, lv]) w2 (hT.out.later (k.out.bw.trans (hb2.out.mono k.out.bw.size))) hn.out hn63 hM.out (((hr.out.below k.out.bw).more k.out.bw.size).below hb2.out |>.more hs2) (by rw [List.length_append, hc.out]; rfl) (by omega) (by have := hrd2.out; unfold ints at this ⊢; rw [List.map_append]; exact this))).mono ?_; rintro e0 w3 ⟨rfl, hb3'⟩; rw [hq.out]; have hb3 := Lib.hid (hb2.out.trans (hb3'.mono hs2)); have k3 := k.out.below hb3.out; have y0 := k3.b4.cell 0; have r0 := k3.b4.frozen 0; have y1 := k3.b4.cell 1; have r1 := k3.b4.frozen 1; have y2 := k3.b4.cell 2; have r2 := k3.b4.frozen 2; have y3 := k3.b4.cell 3; have r3 := k3.b4.frozen 3; have y4 := k3.b4.cell 4; have r4 := k3.b4.frozen 4; have y5 := k3.b4.cell 5; have r5 := k3.b4.frozen 5; have y6 := k3.b4.cell 6; have r6 := k3.b4.frozen 6; simp at y0 y1 y2 y3 y4 y5 y6; replace k3 := Lib.hid k3; clear hb3')
          refine wpAnyIn_take (i := 8) (v := ?_) rfl rfl (by kernel_rfl) (by kernel_rfl) (by kernel_rfl) (fun _ _ _ h => h) ⟨Or.inl ⟨by rfl, ?_⟩, fun _ => rfl⟩ ?_
          rotate_left
          · intro W1
            go_simp
            try with_reducible rfl
          simp only [Act.put, List.setIfInBounds_toArray, List.set_cons_zero, List.set_cons_succ]
          refine wpAnyIn_take (i := 9) (v := ?_) rfl rfl (by kernel_rfl) (by kernel_rfl) (by kernel_rfl) (fun _ _ _ h => h) ⟨Or.inl ⟨by rfl, ?_⟩, fun _ => rfl⟩ ?_
          rotate_left
          · intro W1
            go_simp
            try with_reducible rfl
          simp only [Act.put, List.setIfInBounds_toArray, List.set_cons_zero, List.set_cons_succ]
          refine wpAnyIn_take (i := 10) (v := undef) rfl rfl (by kernel_rfl) (by kernel_rfl) (by kernel_rfl) (fun _ _ _ h => h) ⟨Or.inr ⟨by rfl, rfl⟩, fun _ => rfl⟩ ?_
          simp only [Act.put, List.setIfInBounds_toArray, List.set_cons_zero, List.set_cons_succ]
          refine wpAnyIn_take (i := 11) (v := undef) rfl rfl (by kernel_rfl) (by kernel_rfl) (by kernel_rfl) (fun _ _ _ h => h) ⟨Or.inr ⟨by rfl, rfl⟩, fun _ => rfl⟩ ?_
          simp only [Act.put, List.setIfInBounds_toArray, List.set_cons_zero, List.set_cons_succ]
          refine wpAnyIn_one (i := 12) (by kernel_rfl) ?_
          refine wpOpIn_skip rfl (by rfl) (fun _ => trivial) ?_
          simp only [Act.put, List.setIfInBounds_toArray, List.set_cons_zero, List.set_cons_succ]
          refine wpAnyIn_take (i := 13) (v := undef) rfl rfl (by kernel_rfl) (by kernel_rfl) (by kernel_rfl) (fun _ _ _ h => h) ⟨Or.inr ⟨by rfl, rfl⟩, fun _ => rfl⟩ ?_
          simp only [Act.put, List.setIfInBounds_toArray, List.set_cons_zero, List.set_cons_succ]
          refine wpAnyIn_take (i := 14) (v := undef) rfl rfl (by kernel_rfl) (by kernel_rfl) (by kernel_rfl) (fun _ _ _ h => h) ⟨Or.inr ⟨by rfl, rfl⟩, fun _ => rfl⟩ ?_
          simp only [Act.put, List.setIfInBounds_toArray, List.set_cons_zero, List.set_cons_succ]
          refine wpAnyIn_one (i := 15) (by kernel_rfl) ?_
          refine wpOpIn_at rfl (by rfl) ?_
          intro K' hK'
          gi_wp2
          refine wpAnyIn_end (by kernel_rfl) ?_
          refine NoPanic.normal ?_
          gi_wp2
          (
            refine leaves_of_marks (Marks.nil w.heap.size w.heap.size _) ?_
            intro W' hW'
            have hbk := hW'.blk _ _ _ (set7 k3.out.b4 (.int .i64 0) (.int .i64 0) (.int .i64 0) (.int .i64 0) (.int .i64 0) (.int .i64 0) (.int .i64 0))
            have e0 := hbk.cell 0
            have e1 := hbk.cell 1
            have e2 := hbk.cell 2
            have e3 := hbk.cell 3
            have e4 := hbk.cell 4
            have e5 := hbk.cell 5
            have e6 := hbk.cell 6
            simp at e0 e1 e2 e3 e4 e5 e6
            refine ⟨.tuple #[.agg #[.int .i64 0, .int .i64 0, .int .i64 0, .int .i64 0, .int .i64 0, .int .i64 0, .int .i64 0], .bool false], ?_, rfl, (below7 k3.out.bw (by omega) _ _ _ _ _ _ _).trans hW'.below⟩
            simp [results, Tryd.f23, go_sem, e0, e1, e2, e3, e4, e5, e6])
        · refine wpOpIn_at rfl (by rfl) ?_
          intro K' hK'
          gi_wp2
          refine wpAnyIn_two (i := 0) (k := 6) (by kernel_rfl) ?_ ?_
          · refine wpOpIn_at rfl (by rfl) ?_
            intro K' hK'
            gi_wp2
            refine wpAnyIn_one (i := 6) (by kernel_rfl) ?_
            refine wpOpIn_at rfl (by rfl) ?_
            intro K' hK'
            refine opIn_append_grows _ _ _ rfl 3 j0 (.int .i64 0) 1 8 Tryd.underlying37 hj0 hjz0 hjz1 hjz2 rfl (by decide) ⟨w.heap.size + 1, 0, none⟩ 7 7 (ints cs) (by rfl) hints.out ?_ ⟨w.heap.size + 5, 0, none⟩ 2 2 [.int .i64 bound, .int .i64 lv] (by rfl) rfl ?_ (by omega) (by omega) (by omega) ?_
            · intro j u hu
              rw [add0]
              refine ((k.out.b1.alloc _).cell j).trans ?_
              simpa using hu
            · intro j u hu
              rw [add0]
              refine (Blk.cell (t := 3) (cs := #[.int .i64 bound, .int .i64 lv]) (Blk.new_at W0 _ _ _ hs0) j).trans ?_
              simpa using hu
            intro v2 w2 hown2 hg2
            obtain ⟨A2, c2, rfl⟩ := ownsRow_slice hown2
            have hb2 : RowKit.Hid (Below W0.heap.size W0 w2) := by
              refine Lib.hid (Below.grown (w := _) ?_ hg2 ?_ ?_)
              · exact ((Below.refl _ W0).drew).alloc (Nat.le_refl _) _
              · first | omega | (simp <;> omega)
              · intro j hj
                cases hj
            have hs2 := hb2.out.size
            have q02 := hcell0.out w2 ⟨w.heap.size, 0, none⟩ _ hb2.out (by simp <;> omega) q0
            have hrd2 := Lib.hid (Reads.of_own hown2)
            clear hown2 hg2
            refine hK' _ _ ?_
            simp only [Act.put, List.setIfInBounds_toArray, List.set_cons_zero, List.set_cons_succ]
            refine wpAnyIn_one (i := 7) (by kernel_rfl) ?_
            refine wpOpIn_at rfl (by rfl) ?_
            intro K' hK'
            gi_wp2_with (refine ⟨trivial, ?_⟩; gi_at_call 29; refine (callsIn_wide.2 (level_any A n c up A2 9 c2 (cs ++ [bound, lv]) w2 (hT.out.later (k.out.bw.trans (hb2.out.mono k.out.bw.size))) hn.out hn63 hM.out (((hr.out.below k.out.bw).more k.out.bw.size).below hb2.out |>.more hs2) (by rw [List.length_append, hc.out]; rfl) (by omega) (by have := hrd2.out; unfold ints at this ⊢; rw [List.map_append]; exact this))).mono ?_; rintro e0 w3 ⟨rfl, hb3'⟩; rw [hq.out]; have hb3 := Lib.hid (hb2.out.trans (hb3'.mono hs2)); have k3 := k.out.below hb3.out; have y0 := k3.b4.cell 0; have r0 := k3.b4.frozen 0; have y1 := k3.b4.cell 1; have r1 := k3.b4.frozen 1; have y2 := k3.b4.cell 2; have r2 := k3.b4.frozen 2; have y3 := k3.b4.cell 3; have r3 := k3.b4.frozen 3; have y4 := k3.b4.cell 4; have r4 := k3.b4.frozen 4; have y5 := k3.b4.cell 5; have r5 := k3.b4.frozen 5; have y6 := k3.b4.cell 6; have r6 := k3.b4.frozen 6; simp at y0 y1 y2 y3 y4 y5 y6; replace k3 := Lib.hid k3; clear hb3')
            refine wpAnyIn_take (i := 8) (v := ?_) rfl rfl (by kernel_rfl) (by kernel_rfl) (by kernel_rfl) (fun _ _ _ h => h) ⟨Or.inl ⟨by rfl, ?_⟩, fun _ => rfl⟩ ?_
            rotate_left
            · intro W1
              go_simp
              try with_reducible rfl
            simp only [Act.put, List.setIfInBounds_toArray, List.set_cons_zero, List.set_cons_succ]
            refine wpAnyIn_take (i := 9) (v := ?_) rfl rfl (by kernel_rfl) (by kernel_rfl) (by kernel_rfl) (fun _ _ _ h => h) ⟨Or.inl ⟨by rfl, ?_⟩, fun _ => rfl⟩ ?_
            rotate_left
            · intro W1
              go_simp
              try with_reducible rfl
            simp only [Act.put, List.setIfInBounds_toArray, List.set_cons_zero, List.set_cons_succ]
            refine wpAnyIn_take (i := 10) (v := undef) rfl rfl (by kernel_rfl) (by kernel_rfl) (by kernel_rfl) (fun _ _ _ h => h) ⟨Or.inr ⟨by rfl, rfl⟩, fun _ => rfl⟩ ?_
            simp only [Act.put, List.setIfInBounds_toArray, List.set_cons_zero, List.set_cons_succ]
            refine wpAnyIn_take (i := 11) (v := undef) rfl rfl (by kernel_rfl) (by kernel_rfl) (by kernel_rfl) (fun _ _ _ h => h) ⟨Or.inr ⟨by rfl, rfl⟩, fun _ => rfl⟩ ?_
            simp only [Act.put, List.setIfInBounds_toArray, List.set_cons_zero, List.set_cons_succ]
            refine wpAnyIn_one (i := 12) (by kernel_rfl) ?_
            refine wpOpIn_skip rfl (by rfl) (fun _ => trivial) ?_
            simp only [Act.put, List.setIfInBounds_toArray, List.set_cons_zero, List.set_cons_succ]
            refine wpAnyIn_take (i := 13) (v := undef) rfl rfl (by kernel_rfl) (by kernel_rfl) (by kernel_rfl) (fun _ _ _ h => h) ⟨Or.inr ⟨by rfl, rfl⟩, fun _ => rfl⟩ ?_
            simp only [Act.put, List.setIfInBounds_toArray, List.set_cons_zero, List.set_cons_succ]
            refine wpAnyIn_take (i := 14) (v := undef) rfl rfl (by kernel_rfl) (by kernel_rfl) (by kernel_rfl) (fun _ _ _ h => h) ⟨Or.inr ⟨by rfl, rfl⟩, fun _ => rfl⟩ ?_
            simp only [Act.put, List.setIfInBounds_toArray, List.set_cons_zero, List.set_cons_succ]
            refine wpAnyIn_one (i := 15) (by kernel_rfl) ?_
            refine wpOpIn_at rfl (by rfl) ?_
            intro K' hK'
            gi_wp2
            refine wpAnyIn_end (by kernel_rfl) ?_
            refine NoPanic.normal ?_
            gi_wp2
            (
              refine leaves_of_marks (Marks.nil w.heap.size w.heap.size _) ?_
              intro W' hW'
              have hbk := hW'.blk _ _ _ (set7 k3.out.b4 (.int .i64 0) (.int .i64 0) (.int .i64 0) (.int .i64 0) (.int .i64 0) (.int .i64 0) (.int .i64 0))
              have e0 := hbk.cell 0
              have e1 := hbk.cell 1
              have e2 := hbk.cell 2
              have e3 := hbk.cell 3
              have e4 := hbk.cell 4
              have e5 := hbk.cell 5
              have e6 := hbk.cell 6
              simp at e0 e1 e2 e3 e4 e5 e6
              refine ⟨.tuple #[.agg #[.int .i64 0, .int .i64 0, .int .i64 0, .int .i64 0, .int .i64 0, .int .i64 0, .int .i64 0], .bool false], ?_, rfl, (below7 k3.out.bw (by omega) _ _ _ _ _ _ _).trans hW'.below⟩
              simp [results, Tryd.f23, go_sem, e0, e1, e2, e3, e4, e5, e6])
          · refine wpOpIn_at rfl (by rfl) ?_
            intro K' hK'
            refine opIn_append_grows _ _ _ rfl 3 j0 (.int .i64 0) 1 8 Tryd.underlying37 hj0 hjz0 hjz1 hjz2 rfl (by decide) ⟨w.heap.size + 1, 0, none⟩ 7 7 (ints cs) (by rfl) hints.out ?_ ⟨w.heap.size + 5, 0, none⟩ 2 2 [.int .i64 bound, .int .i64 lv] (by rfl) rfl ?_ (by omega) (by omega) (by omega) ?_
            · intro j u hu
              rw [add0]
              refine ((k.out.b1.alloc _).cell j).trans ?_
              simpa using hu
            · intro j u hu
              rw [add0]
              refine (Blk.cell (t := 3) (cs := #[.int .i64 bound, .int .i64 lv]) (Blk.new_at W0 _ _ _ hs0) j).trans ?_
              simpa using hu
            intro v2 w2 hown2 hg2
            obtain ⟨A2, c2, rfl⟩ := ownsRow_slice hown2
            have hb2 : RowKit.Hid (Below W0.heap.size W0 w2) := by
              refine Lib.hid (Below.grown (w := _) ?_ hg2 ?_ ?_)
              · exact ((Below.refl _ W0).drew).alloc (Nat.le_refl _) _
              · first | omega | (simp <;> omega)
              · intro j hj
                cases hj
            have hs2 := hb2.out.size
            have q02 := hcell0.out w2 ⟨w.heap.size, 0, none⟩ _ hb2.out (by simp <;> omega) q0
            have hrd2 := Lib.hid (Reads.of_own hown2)
            clear hown2 hg2
            refine hK' _ _ ?_
            simp only [Act.put, List.setIfInBounds_toArray, List.set_cons_zero, List.set_cons_succ]
            refine wpAnyIn_one (i := 0) (by kernel_rfl) ?_
            refine wpOpIn_at rfl (by rfl) ?_
            intro K' hK'
            gi_wp2
            refine wpAnyIn_one (i := 7) (by kernel_rfl) ?_
            refine wpOpIn_at rfl (by rfl) ?_
            intro K' hK'
            gi_wp2_with (refine ⟨trivial, ?_⟩; gi_at_call 29; refine (callsIn_wide.2 (level_any A n c up A2 9 c2 (cs ++ [bound, lv]) w2 (hT.out.later (k.out.bw.trans (hb2.out.mono k.out.bw.size))) hn.out hn63 hM.out (((hr.out.below k.out.bw).more k.out.bw.size).below hb2.out |>.more hs2) (by rw [List.length_append, hc.out]; rfl) (by omega) (by have := hrd2.out; unfold ints at this ⊢; rw [List.map_append]; exact this))).mono ?_; rintro e0 w3 ⟨rfl, hb3'⟩; rw [hq.out]; have hb3 := Lib.hid (hb2.out.trans (hb3'.mono hs2)); have k3 := k.out.below hb3.out; have y0 := k3.b4.cell 0; have r0 := k3.b4.frozen 0; have y1 := k3.b4.cell 1; have r1 := k3.b4.frozen 1; have y2 := k3.b4.cell 2; have r2 := k3.b4.frozen 2; have y3 := k3.b4.cell 3; have r3 := k3.b4.frozen 3; have y4 := k3.b4.cell 4; have r4 := k3.b4.frozen 4; have y5 := k3.b4.cell 5; have r5 := k3.b4.frozen 5; have y6 := k3.b4.cell 6; have r6 := k3.b4.frozen 6; simp at y0 y1 y2 y3 y4 y5 y6; replace k3 := Lib.hid k3; clear hb3')
            refine wpAnyIn_take (i := 8) (v := ?_) rfl rfl (by kernel_rfl) (by kernel_rfl) (by kernel_rfl) (fun _ _ _ h => h) ⟨Or.inl ⟨by rfl, ?_⟩, fun _ => rfl⟩ ?_
            rotate_left
            · intro W1
              go_simp
              try with_reducible rfl
            simp only [Act.put, List.setIfInBounds_toArray, List.set_cons_zero, List.set_cons_succ]
            refine wpAnyIn_take (i := 9) (v := ?_) rfl rfl (by kernel_rfl) (by kernel_rfl) (by kernel_rfl) (fun _ _ _ h => h) ⟨Or.inl ⟨by rfl, ?_⟩, fun _ => rfl⟩ ?_
            rotate_left
            · intro W1
              go_simp
              try with_reducible rfl
            simp only [Act.put, List.setIfInBounds_toArray, List.set_cons_zero, List.set_cons_succ]
            refine wpAnyIn_take (i := 10) (v := undef) rfl rfl (by kernel_rfl) (by kernel_rfl) (by kernel_rfl) (fun _ _ _ h => h) ⟨Or.inr ⟨by rfl, rfl⟩, fun _ => rfl⟩ ?_
            simp only [Act.put, List.setIfInBounds_toArray, List.set_cons_zero, List.set_cons_succ]
            refine wpAnyIn_take (i := 11) (v := undef) rfl rfl (by kernel_rfl) (by kernel_rfl) (by kernel_rfl) (fun _ _ _ h => h) ⟨Or.inr ⟨by rfl, rfl⟩, fun _ => rfl⟩ ?_
            simp only [Act.put, List.setIfInBounds_toArray, List.set_cons_zero, List.set_cons_succ]
            refine wpAnyIn_one (i := 12) (by kernel_rfl) ?_
            refine wpOpIn_skip rfl (by rfl) (fun _ => trivial) ?_
            simp only [Act.put, List.setIfInBounds_toArray, List.set_cons_zero, List.set_cons_succ]
            refine wpAnyIn_take (i := 13) (v := undef) rfl rfl (by kernel_rfl) (by kernel_rfl) (by kernel_rfl) (fun _ _ _ h => h) ⟨Or.inr ⟨by rfl, rfl⟩, fun _ => rfl⟩ ?_
            simp only [Act.put, List.setIfInBounds_toArray, List.set_cons_zero, List.set_cons_succ]
            refine wpAnyIn_take (i := 14) (v := undef) rfl rfl (by kernel_rfl) (by kernel_rfl) (by kernel_rfl) (fun _ _ _ h => h) ⟨Or.inr ⟨by rfl, rfl⟩, fun _ => rfl⟩ ?_
            simp only [Act.put, List.setIfInBounds_toArray, List.set_cons_zero, List.set_cons_succ]
            refine wpAnyIn_one (i := 15) (by kernel_rfl) ?_
            refine wpOpIn_at rfl (by rfl) ?_
            intro K' hK'
            gi_wp2
            refine wpAnyIn_end (by kernel_rfl) ?_
            refine NoPanic.normal ?_
            gi_wp2
            (
              refine leaves_of_marks (Marks.nil w.heap.size w.heap.size _) ?_
              intro W' hW'
              have hbk := hW'.blk _ _ _ (set7 k3.out.b4 (.int .i64 0) (.int .i64 0) (.int .i64 0) (.int .i64 0) (.int .i64 0) (.int .i64 0) (.int .i64 0))
              have e0 := hbk.cell 0
              have e1 := hbk.cell 1
              have e2 := hbk.cell 2
              have e3 := hbk.cell 3
              have e4 := hbk.cell 4
              have e5 := hbk.cell 5
              have e6 := hbk.cell 6
              simp at e0 e1 e2 e3 e4 e5 e6
              refine ⟨.tuple #[.agg #[.int .i64 0, .int .i64 0, .int .i64 0, .int .i64 0, .int .i64 0, .int .i64 0, .int .i64 0], .bool false], ?_, rfl, (below7 k3.out.bw (by omega) _ _ _ _ _ _ _).trans hW'.below⟩
              simp [results, Tryd.f23, go_sem, e0, e1, e2, e3, e4, e5, e6])
    · refine wpOpIn_at rfl (by rfl) ?_
      intro K' hK'
      gi_wp2
      refine wpAnyIn_two (i := 0) (k := 2) (by kernel_rfl) ?_ ?_
      · refine wpOpIn_at rfl (by rfl) ?_
        intro K' hK'
        gi_wp2
        refine wpAnyIn_one (i := 2) (by kernel_rfl) ?_
        refine wpOpIn_at rfl (by rfl) ?_
        intro K' hK'
        gi_wp2
        refine wpAnyIn_one (i := 5) (by kernel_rfl) ?_
        refine wpOpIn_at rfl (by rfl) ?_
        intro K' hK'
        gi_wp2
        refine wpAnyIn_one (i := 6) (by kernel_rfl) ?_
        refine wpOpIn_at rfl (by rfl) ?_
        intro K' hK'
        refine opIn_append_grows _ _ _ rfl 3 j0 (.int .i64 0) 1 8 Tryd.underlying37 hj0 hjz0 hjz1 hjz2 rfl (by decide) ⟨w.heap.size + 1, 0, none⟩ 7 7 (ints cs) (by rfl) hints.out ?_ ⟨w.heap.size + 5, 0, none⟩ 2 2 [.int .i64 bound, .int .i64 lv] (by rfl) rfl ?_ (by omega) (by omega) (by omega) ?_
        · intro j u hu
          rw [add0]
          refine ((k.out.b1.alloc _).cell j).trans ?_
          simpa using hu
        · intro j u hu
          rw [add0]
          refine (Blk.cell (t := 3) (cs := #[.int .i64 bound, .int .i64 lv]) (Blk.new_at W0 _ _ _ hs0) j).trans ?_
          simpa using hu
        intro v2 w2 hown2 hg2
        obtain ⟨A2, c2, rfl⟩ := ownsRow_slice hown2
        have hb2 : RowKit.Hid (Below W0.heap.size W0 w2) := by
          refine Lib.hid (Below.grown (w := _) ?_ hg2 ?_ ?_)
          · exact ((Below.refl _ W0).drew).alloc (Nat.le_refl _) _
          · first | omega | (simp <;> omega)
          · intro j hj
            cases hj
        have hs2 := hb2.out.size
        have q02 := hcell0.out w2 ⟨w.heap.size, 0, none⟩ _ hb2.out (by simp <;> omega) q0
        have hrd2 := Lib.hid (Reads.of_own hown2)
        clear hown2 hg2
        refine hK' _ _ ?_
        simp only [Act.put, List.setIfInBounds_toArray, List.set_cons_zero, List.set_cons_succ]
        refine wpAnyIn_one (i := 7) (by kernel_rfl) ?_
        refine wpOpIn_at rfl (by rfl) ?_
        intro K' hK'
        gi_wp2_with (refine ⟨trivial, ?_⟩; gi_at_call 29; refine (callsIn_wide.2 (level_any A n c up A2 9 c2 (cs ++ [bound, lv]) w2 (hT.out.later (k.out.bw.trans (hb2.out.mono k.out.bw.size))) hn.out hn63 hM.out (((hr.out.below k.out.bw).more k.out.bw.size).below hb2.out |>.more hs2) (by rw [List.length_append, hc.out]; rfl) (by omega) (by have := hrd2.out; unfold ints at this ⊢; rw [List.map_append]; exact this))).mono ?_; rintro e0 w3 ⟨rfl, hb3'⟩; rw [hq.out]; have hb3 := Lib.hid (hb2.out.trans (hb3'.mono hs2)); have k3 := k.out.below hb3.out; have y0 := k3.b4.cell 0; have r0 := k3.b4.frozen 0; have y1 := k3.b4.cell 1; have r1 := k3.b4.frozen 1; have y2 := k3.b4.cell 2; have r2 := k3.b4.frozen 2; have y3 := k3.b4.cell 3; have r3 := k3.b4.frozen 3; have y4 := k3.b4.cell 4; have r4 := k3.b4.frozen 4; have y5 := k3.b4.cell 5; have r5 := k3.b4.frozen 5; have y6 := k3.b4.cell 6; have r6 := k3.b4.frozen 6; simp at y0 y1 y2 y3 y4 y5 y6; replace k3 := Lib.hid k3; clear hb3')
        refine wpAnyIn_take (i := 8) (v := ?_) rfl rfl (by kernel_rfl) (by kernel_rfl) (by kernel_rfl) (fun _ _ _ h => h) ⟨Or.inl ⟨by rfl, ?_⟩, fun _ => rfl⟩ ?_
        rotate_left
        · intro W1
          go_simp
          try with_reducible rfl
        simp only [Act.put, List.setIfInBounds_toArray, List.set_cons_zero, List.set_cons_succ]
        refine wpAnyIn_take (i := 9) (v := ?_) rfl rfl (by kernel_rfl) (by kernel_rfl) (by kernel_rfl) (fun _ _ _ h => h) ⟨Or.inl ⟨by rfl, ?_⟩, fun _ => rfl⟩ ?_
        rotate_left
        · intro W1
          go_simp
          try with_reducible rfl
        simp only [Act.put, List.setIfInBounds_toArray, List.set_cons_zero, List.set_cons_succ]
        refine wpAnyIn_take (i := 10) (v := undef) rfl rfl (by kernel_rfl) (by kernel_rfl) (by kernel_rfl) (fun _ _ _ h => h) ⟨Or.inr ⟨by rfl, rfl⟩, fun _ => rfl⟩ ?_
        simp only [Act.put, List.setIfInBounds_toArray, List.set_cons_zero, List.set_cons_succ]
        refine wpAnyIn_take (i := 11) (v := undef) rfl rfl (by kernel_rfl) (by kernel_rfl) (by kernel_rfl) (fun _ _ _ h => h) ⟨Or.inr ⟨by rfl, rfl⟩, fun _ => rfl⟩ ?_
        simp only [Act.put, List.setIfInBounds_toArray, List.set_cons_zero, List.set_cons_succ]
        refine wpAnyIn_one (i := 12) (by kernel_rfl) ?_
        refine wpOpIn_skip rfl (by rfl) (fun _ => trivial) ?_
        simp only [Act.put, List.setIfInBounds_toArray, List.set_cons_zero, List.set_cons_succ]
        refine wpAnyIn_take (i := 13) (v := undef) rfl rfl (by kernel_rfl) (by kernel_rfl) (by kernel_rfl) (fun _ _ _ h => h) ⟨Or.inr ⟨by rfl, rfl⟩, fun _ => rfl⟩ ?_
        simp only [Act.put, List.setIfInBounds_toArray, List.set_cons_zero, List.set_cons_succ]
        refine wpAnyIn_take (i := 14) (v := undef) rfl rfl (by kernel_rfl) (by kernel_rfl) (by kernel_rfl) (fun _ _ _ h => h) ⟨Or.inr ⟨by rfl, rfl⟩, fun _ => rfl⟩ ?_
        simp only [Act.put, List.setIfInBounds_toArray, List.set_cons_zero, List.set_cons_succ]
        refine wpAnyIn_one (i := 15) (by kernel_rfl) ?_
        refine wpOpIn_at rfl (by rfl) ?_
        intro K' hK'
        gi_wp2
        refine wpAnyIn_end (by kernel_rfl) ?_
        refine NoPanic.normal ?_
        gi_wp2
        (
          refine leaves_of_marks (Marks.nil w.heap.size w.heap.size _) ?_
          intro W' hW'
          have hbk := hW'.blk _ _ _ (set7 k3.out.b4 (.int .i64 0) (.int .i64 0) (.int .i64 0) (.int .i64 0) (.int .i64 0) (.int .i64 0) (.int .i64 0))
          have e0 := hbk.cell 0
          have e1 := hbk.cell 1
          have e2 := hbk.cell 2
          have e3 := hbk.cell 3
          have e4 := hbk.cell 4
          have e5 := hbk.cell 5
          have e6 := hbk.cell 6
          simp at e0 e1 e2 e3 e4 e5 e6
          refine ⟨.tuple #[.agg #[.int .i64 0, .int .i64 0, .int .i64 0, .int .i64 0, .int .i64 0, .int .i64 0, .int .i64 0], .bool false], ?_, rfl, (below7 k3.out.bw (by omega) _ _ _ _ _ _ _).trans hW'.below⟩
          simp [results, Tryd.f23, go_sem, e0, e1, e2, e3, e4, e5, e6])
      · refine wpOpIn_at rfl (by rfl) ?_
        intro K' hK'
        gi_wp2
        refine wpAnyIn_two (i := 0) (k := 5) (by kernel_rfl) ?_ ?_
        · refine wpOpIn_at rfl (by rfl) ?_
          intro K' hK'
          gi_wp2
          refine wpAnyIn_one (i := 5) (by kernel_rfl) ?_
          refine wpOpIn_at rfl (by rfl) ?_
          intro K' hK'
          gi_wp2
          refine wpAnyIn_one (i := 6) (by kernel_rfl) ?_
          refine wpOpIn_at rfl (by rfl) ?_
          intro K' hK'
          refine opIn_append_grows _ _ _ rfl 3 j0 (.int .i64 0) 1 8 Tryd.underlying37 hj0 hjz0 hjz1 hjz2 rfl (by decide) ⟨w.heap.size + 1, 0, none⟩ 7 7 (ints cs) (by rfl) hints.out ?_ ⟨w.heap.size + 5, 0, none⟩ 2 2 [.int .i64 bound, .int .i64 lv] (by rfl) rfl ?_ (by omega) (by omega) (by omega) ?_
          · intro j u hu
            rw [add0]
            refine ((k.out.b1.alloc _).cell j).trans ?_
            simpa using hu
          · intro j u hu
            rw [add0]
            refine (Blk.cell (t := 3) (cs := #[.int .i64 bound, .int .i64 lv]) (Blk.new_at W0 _ _ _ hs0) j).trans ?_
            simpa using hu
          intro v2 w2 hown2 hg2
          obtain ⟨A2, c2, rfl⟩ := ownsRow_slice hown2
          have hb2 : RowKit.Hid (Below W0.heap.size W0 w2) := by
            refine Lib.hid (Below.grown (w := _) ?_ hg2 ?_ ?_)
            · exact ((Below.refl _ W0).drew).alloc (Nat.le_refl _) _
            · first | omega | (simp <;> omega)
            · intro j hj
              cases hj
          have hs2 := hb2.out.size
          have q02 := hcell0.out w2 ⟨w.heap.size, 0, none⟩ _ hb2.out (by simp <;> omega) q0
          have hrd2 := Lib.hid (Reads.of_own hown2)
          clear hown2 hg2
          refine hK' _ _ ?_
          simp only [Act.put, List.setIfInBounds_toArray, List.set_cons_zero, List.set_cons_succ]
          refine wpAnyIn_one (i := 7) (by kernel_rfl) ?_
          refine wpOpIn_at rfl (by rfl) ?_
          intro K' hK'
          gi_wp2_with (refine ⟨trivial, ?_⟩; gi_at_call 29; refine (callsIn_wide.2 (level_any A n c up A2 9 c2 (cs ++ [bound, lv]) w2 (hT.out.later (k.out.bw.trans (hb2.out.mono k.out.bw.size))) hn.out hn63 hM.out (((hr.out.below k.out.bw).more k.out.bw.size).below hb2.out |>.more hs2) (by rw [List.length_append, hc.out]; rfl) (by omega) (by have := hrd2.out; unfold ints at this ⊢; rw [List.map_append]; exact this))).mono ?_; rintro e0 w3 ⟨rfl, hb3'⟩; rw [hq.out]; have hb3 := Lib.hid (hb2.out.trans (hb3'.mono hs2)); have k3 := k.out.below hb3.out; have y0 := k3.b4.cell 0; have r0 := k3.b4.frozen 0; have y1 := k3.b4.cell 1; have r1 := k3.b4.frozen 1; have y2 := k3.b4.cell 2; have r2 := k3.b4.frozen 2; have y3 := k3.b4.cell 3; have r3 := k3.b4.frozen 3; have y4 := k3.b4.cell 4; have r4 := k3.b4.frozen 4; have y5 := k3.b4.cell 5; have r5 := k3.b4.frozen 5; have y6 := k3.b4.cell 6; have r6 := k3.b4.frozen 6; simp at y0 y1 y2 y3 y4 y5 y6; replace k3 := Lib.hid k3; clear hb3')
          refine wpAnyIn_take (i := 8) (v := ?_) rfl rfl (by kernel_rfl) (by kernel_rfl) (by kernel_rfl) (fun _ _ _ h => h) ⟨Or.inl ⟨by rfl, ?_⟩, fun _ => rfl⟩ ?_
          rotate_left
          · intro W1
            go_simp
            try with_reducible rfl
          simp only [Act.put, List.setIfInBounds_toArray, List.set_cons_zero, List.set_cons_succ]
          refine wpAnyIn_take (i := 9) (v := ?_) rfl rfl (by kernel_rfl) (by kernel_rfl) (by kernel_rfl) (fun _ _ _ h => h) ⟨Or.inl ⟨by rfl, ?_⟩, fun _ => rfl⟩ ?_
          rotate_left
          · intro W1
            go_simp
            try with_reducible rfl
          simp only [Act.put, List.setIfInBounds_toArray, List.set_cons_zero, List.set_cons_succ]
          refine wpAnyIn_take (i := 10) (v := undef) rfl rfl (by kernel_rfl) (by kernel_rfl) (by kernel_rfl) (fun _ _ _ h => h) ⟨Or.inr ⟨by rfl, rfl⟩, fun _ => rfl⟩ ?_
          simp only [Act.put, List.setIfInBounds_toArray, List.set_cons_zero, List.set_cons_succ]
          refine wpAnyIn_take (i := 11) (v := undef) rfl rfl (by kernel_rfl) (by kernel_rfl) (by kernel_rfl) (fun _ _ _ h => h) ⟨Or.inr ⟨by rfl, rfl⟩, fun _ => rfl⟩ ?_
          simp only [Act.put, List.setIfInBounds_toArray, List.set_cons_zero, List.set_cons_succ]
          refine wpAnyIn_one (i := 12) (by kernel_rfl) ?_
          refine wpOpIn_skip rfl (by rfl) (fun _ => trivial) ?_
          simp only [Act.put, List.setIfInBounds_toArray, List.set_cons_zero, List.set_cons_succ]
          refine wpAnyIn_take (i := 13) (v := undef) rfl rfl (by kernel_rfl) (by kernel_rfl) (by kernel_rfl) (fun _ _ _ h => h) ⟨Or.inr ⟨by rfl, rfl⟩, fun _ => rfl⟩ ?_
          simp only [Act.put, List.setIfInBounds_toArray, List.set_cons_zero, List.set_cons_succ]
          refine wpAnyIn_take (i := 14) (v := undef) rfl rfl (by kernel_rfl) (by kernel_rfl) (by kernel_rfl) (fun _ _ _ h => h) ⟨Or.inr ⟨by rfl, rfl⟩, fun _ => rfl⟩ ?_
          simp only [Act.put, List.setIfInBounds_toArray, List.set_cons_zero, List.set_cons_succ]
          refine wpAnyIn_one (i := 15) (by kernel_rfl) ?_
          refine wpOpIn_at rfl (by rfl) ?_
          intro K' hK'
          gi_wp2
          refine wpAnyIn_end (by kernel_rfl) ?_
          refine NoPanic.normal ?_
          gi_wp2
          (
            refine leaves_of_marks (Marks.nil w.heap.size w.heap.size _) ?_
            intro W' hW'
            have hbk := hW'.blk _ _ _ (set7 k3.out.b4 (.int .i64 0) (.int .i64 0) (.int .i64 0) (.int .i64 0) (.int .i64 0) (.int .i64 0) (.int .i64 0))
            have e0 := hbk.cell 0
            have e1 := hbk.cell 1
            have e2 := hbk.cell 2
            have e3 := hbk.cell 3
            have e4 := hbk.cell 4
            have e5 := hbk.cell 5
            have e6 := hbk.cell 6
            simp at e0 e1 e2 e3 e4 e5 e6
            refine ⟨.tuple #[.agg #[.int .i64 0, .int .i64 0, .int .i64 0, .int .i64 0, .int .i64 0, .int .i64 0, .int .i64 0], .bool false], ?_, rfl, (below7 k3.out.bw (by omega) _ _ _ _ _ _ _).trans hW'.below⟩
            simp [results, Tryd.f23, go_sem, e0, e1, e2, e3, e4, e5, e6])
        · refine wpOpIn_at rfl (by rfl) ?_
          intro K' hK'
          gi_wp2
          refine wpAnyIn_two (i := 0) (k := 6) (by kernel_rfl) ?_ ?_
          · refine wpOpIn_at rfl (by rfl) ?_
            intro K' hK'
            gi_wp2
            refine wpAnyIn_one (i := 6) (by kernel_rfl) ?_
            refine wpOpIn_at rfl (by rfl) ?_
            intro K' hK'
            refine opIn_append_grows _ _ _ rfl 3 j0 (.int .i64 0) 1 8 Tryd.underlying37 hj0 hjz0 hjz1 hjz2 rfl (by decide) ⟨w.heap.size + 1, 0, none⟩ 7 7 (ints cs) (by rfl) hints.out ?_ ⟨w.heap.size + 5, 0, none⟩ 2 2 [.int .i64 bound, .int .i64 lv] (by rfl) rfl ?_ (by omega) (by omega) (by omega) ?_
            · intro j u hu
              rw [add0]
              refine ((k.out.b1.alloc _).cell j).trans ?_
              simpa using hu
            · intro j u hu
              rw [add0]
              refine (Blk.cell (t := 3) (cs := #[.int .i64 bound, .int .i64 lv]) (Blk.new_at W0 _ _ _ hs0) j).trans ?_
              simpa using hu
            intro v2 w2 hown2 hg2
            obtain ⟨A2, c2, rfl⟩ := ownsRow_slice hown2
            have hb2 : RowKit.Hid (Below W0.heap.size W0 w2) := by
              refine Lib.hid (Below.grown (w := _) ?_ hg2 ?_ ?_)
              · exact ((Below.refl _ W0).drew).alloc (Nat.le_refl _) _
              · first | omega | (simp <;> omega)
              · intro j hj
                cases hj
            have hs2 := hb2.out.size
            have q02 := hcell0.out w2 ⟨w.heap.size, 0, none⟩ _ hb2.out (by simp <;> omega) q0
            have hrd2 := Lib.hid (Reads.of_own hown2)
            clear hown2 hg2
            refine hK' _ _ ?_
            simp only [Act.put, List.setIfInBounds_toArray, List.set_cons_zero, List.set_cons_succ]
            refine wpAnyIn_one (i := 7) (by kernel_rfl) ?_
            refine wpOpIn_at rfl (by rfl) ?_
            intro K' hK'
            gi_wp2_with (refine ⟨trivial, ?_⟩; gi_at_call 29; refine (callsIn_wide.2 (level_any A n c up A2 9 c2 (cs ++ [bound, lv]) w2 (hT.out.later (k.out.bw.trans (hb2.out.mono k.out.bw.size))) hn.out hn63 hM.out (((hr.out.below k.out.bw).more k.out.bw.size).below hb2.out |>.more hs2) (by rw [List.length_append, hc.out]; rfl) (by omega) (by have := hrd2.out; unfold ints at this ⊢; rw [List.map_append]; exact this))).mono ?_; rintro e0 w3 ⟨rfl, hb3'⟩; rw [hq.out]; have hb3 := Lib.hid (hb2.out.trans (hb3'.mono hs2)); have k3 := k.out.below hb3.out; have y0 := k3.b4.cell 0; have r0 := k3.b4.frozen 0; have y1 := k3.b4.cell 1; have r1 := k3.b4.frozen 1; have y2 := k3.b4.cell 2; have r2 := k3.b4.frozen 2; have y3 := k3.b4.cell 3; have r3 := k3.b4.frozen 3; have y4 := k3.b4.cell 4; have r4 := k3.b4.frozen 4; have y5 := k3.b4.cell 5; have r5 := k3.b4.frozen 5; have y6 := k3.b4.cell 6; have r6 := k3.b4.frozen 6; simp at y0 y1 y2 y3 y4 y5 y6; replace k3 := Lib.hid k3; clear hb3')
            refine wpAnyIn_take (i := 8) (v := ?_) rfl rfl (by kernel_rfl) (by kernel_rfl) (by kernel_rfl) (fun _ _ _ h => h) ⟨Or.inl ⟨by rfl, ?_⟩, fun _ => rfl⟩ ?_
            rotate_left
            · intro W1
              go_simp
              try with_reducible rfl
            simp only [Act.put, List.setIfInBounds_toArray, List.set_cons_zero, List.set_cons_succ]
            refine wpAnyIn_take (i := 9) (v := ?_) rfl rfl (by kernel_rfl) (by kernel_rfl) (by kernel_rfl) (fun _ _ _ h => h) ⟨Or.inl ⟨by rfl, ?_⟩, fun _ => rfl⟩ ?_
            rotate_left
            · intro W1
              go_simp
              try with_reducible rfl
            simp only [Act.put, List.setIfInBounds_toArray, List.set_cons_zero, List.set_cons_succ]
            refine wpAnyIn_take (i := 10) (v := undef) rfl rfl (by kernel_rfl) (by kernel_rfl) (by kernel_rfl) (fun _ _ _ h => h) ⟨Or.inr ⟨by rfl, rfl⟩, fun _ => rfl⟩ ?_
            simp only [Act.put, List.setIfInBounds_toArray, List.set_cons_zero, List.set_cons_succ]
            refine wpAnyIn_take (i := 11) (v := undef) rfl rfl (by kernel_rfl) (by kernel_rfl) (by kernel_rfl) (fun _ _ _ h => h) ⟨Or.inr ⟨by rfl, rfl⟩, fun _ => rfl⟩ ?_
            simp only [Act.put, List.setIfInBounds_toArray, List.set_cons_zero, List.set_cons_succ]
            refine wpAnyIn_one (i := 12) (by kernel_rfl) ?_
            refine wpOpIn_skip rfl (by rfl) (fun _ => trivial) ?_
            simp only [Act.put, List.setIfInBounds_toArray, List.set_cons_zero, List.set_cons_succ]
            refine wpAnyIn_take (i := 13) (v := undef) rfl rfl (by kernel_rfl) (by kernel_rfl) (by kernel_rfl) (fun _ _ _ h => h) ⟨Or.inr ⟨by rfl, rfl⟩, fun _ => rfl⟩ ?_
            simp only [Act.put, List.setIfInBounds_toArray, List.set_cons_zero, List.set_cons_succ]
            refine wpAnyIn_take (i := 14) (v := undef) rfl rfl (by kernel_rfl) (by kernel_rfl) (by kernel_rfl) (fun _ _ _ h => h) ⟨Or.inr ⟨by rfl, rfl⟩, fun _ => rfl⟩ ?_
            simp only [Act.put, List.setIfInBounds_toArray, List.set_cons_zero, List.set_cons_succ]
            refine wpAnyIn_one (i := 15) (by kernel_rfl) ?_
            refine wpOpIn_at rfl (by rfl) ?_
            intro K' hK'
            gi_wp2
            refine wpAnyIn_end (by kernel_rfl) ?_
            refine NoPanic.normal ?_
            gi_wp2
            (
              refine leaves_of_marks (Marks.nil w.heap.size w.heap.size _) ?_
              intro W' hW'
              have hbk := hW'.blk _ _ _ (set7 k3.out.b4 (.int .i64 0) (.int .i64 0) (.int .i64 0) (.int .i64 0) (.int .i64 0) (.int .i64 0) (.int .i64 0))
              have e0 := hbk.cell 0
              have e1 := hbk.cell 1
              have e2 := hbk.cell 2
              have e3 := hbk.cell 3
              have e4 := hbk.cell 4
              have e5 := hbk.cell 5
              have e6 := hbk.cell 6
              simp at e0 e1 e2 e3 e4 e5 e6
              refine ⟨.tuple #[.agg #[.int .i64 0, .int .i64 0, .int .i64 0, .int .i64 0, .int .i64 0, .int .i64 0, .int .i64 0], .bool false], ?_, rfl, (below7 k3.out.bw (by omega) _ _ _ _ _ _ _).trans hW'.below⟩
              simp [results, Tryd.f23, go_sem, e0, e1, e2, e3, e4, e5, e6])
          · refine wpOpIn_at rfl (by rfl) ?_
            intro K' hK'
            refine opIn_append_grows _ _ _ rfl 3 j0 (.int .i64 0) 1 8 Tryd.underlying37 hj0 hjz0 hjz1 hjz2 rfl (by decide) ⟨w.heap.size + 1, 0, none⟩ 7 7 (ints cs) (by rfl) hints.out ?_ ⟨w.heap.size + 5, 0, none⟩ 2 2 [.int .i64 bound, .int .i64 lv] (by rfl) rfl ?_ (by omega) (by omega) (by omega) ?_
            · intro j u hu
              rw [add0]
              refine ((k.out.b1.alloc _).cell j).trans ?_
              simpa using hu
            · intro j u hu
              rw [add0]
              refine (Blk.cell (t := 3) (cs := #[.int .i64 bound, .int .i64 lv]) (Blk.new_at W0 _ _ _ hs0) j).trans ?_
              simpa using hu
            intro v2 w2 hown2 hg2
            obtain ⟨A2, c2, rfl⟩ := ownsRow_slice hown2
            have hb2 : RowKit.Hid (Below W0.heap.size W0 w2) := by
              refine Lib.hid (Below.grown (w := _) ?_ hg2 ?_ ?_)
              · exact ((Below.refl _ W0).drew).alloc (Nat.le_refl _) _
              · first | omega | (simp <;> omega)
              · intro j hj
                cases hj
            have hs2 := hb2.out.size
            have q02 := hcell0.out w2 ⟨w.heap.size, 0, none⟩ _ hb2.out (by simp <;> omega) q0
            have hrd2 := Lib.hid (Reads.of_own hown2)
            clear hown2 hg2
            refine hK' _ _ ?_
            simp only [Act.put, List.setIfInBounds_toArray, List.set_cons_zero, List.set_cons_succ]
            refine wpAnyIn_one (i := 0) (by kernel_rfl) ?_
            refine wpOpIn_at rfl (by rfl) ?_
            intro K' hK'
            gi_wp2
            refine wpAnyIn_one (i := 7) (by kernel_rfl) ?_
            refine wpOpIn_at rfl (by rfl) ?_
            intro K' hK'
            gi_wp2_with (refine ⟨trivial, ?_⟩; gi_at_call 29; refine (callsIn_wide.2 (level_any A n c up A2 9 c2 (cs ++ [bound, lv]) w2 (hT.out.later (k.out.bw.trans (hb2.out.mono k.out.bw.size))) hn.out hn63 hM.out (((hr.out.below k.out.bw).more k.out.bw.size).below hb2.out |>.more hs2) (by rw [List.length_append, hc.out]; rfl) (by omega) (by have := hrd2.out; unfold ints at this ⊢; rw [List.map_append]; exact this))).mono ?_; rintro e0 w3 ⟨rfl, hb3'⟩; rw [hq.out]; have hb3 := Lib.hid (hb2.out.trans (hb3'.mono hs2)); have k3 := k.out.below hb3.out; have y0 := k3.b4.cell 0; have r0 := k3.b4.frozen 0; have y1 := k3.b4.cell 1; have r1 := k3.b4.frozen 1; have y2 := k3.b4.cell 2; have r2 := k3.b4.frozen 2; have y3 := k3.b4.cell 3; have r3 := k3.b4.frozen 3; have y4 := k3.b4.cell 4; have r4 := k3.b4.frozen 4; have y5 := k3.b4.cell 5; have r5 := k3.b4.frozen 5; have y6 := k3.b4.cell 6; have r6 := k3.b4.frozen 6; simp at y0 y1 y2 y3 y4 y5 y6; replace k3 := Lib.hid k3; clear hb3')
            refine wpAnyIn_take (i := 8) (v := ?_) rfl rfl (by kernel_rfl) (by kernel_rfl) (by kernel_rfl) (fun _ _ _ h => h) ⟨Or.inl ⟨by rfl, ?_⟩, fun _ => rfl⟩ ?_
            rotate_left
            · intro W1
              go_simp
              try with_reducible rfl
            simp only [Act.put, List.setIfInBounds_toArray, List.set_cons_zero, List.set_cons_succ]
            refine wpAnyIn_take (i := 9) (v := ?_) rfl rfl (by kernel_rfl) (by kernel_rfl) (by kernel_rfl) (fun _ _ _ h => h) ⟨Or.inl ⟨by rfl, ?_⟩, fun _ => rfl⟩ ?_
            rotate_left
            · intro W1
              go_simp
              try with_reducible rfl
            simp only [Act.put, List.setIfInBounds_toArray, List.set_cons_zero, List.set_cons_succ]
            refine wpAnyIn_take (i := 10) (v := undef) rfl rfl (by kernel_rfl) (by kernel_rfl) (by kernel_rfl) (fun _ _ _ h => h) ⟨Or.inr ⟨by rfl, rfl⟩, fun _ => rfl⟩ ?_
            simp only [Act.put, List.setIfInBounds_toArray, List.set_cons_zero, List.set_cons_succ]
            refine wpAnyIn_take (i := 11) (v := undef) rfl rfl (by kernel_rfl) (by kernel_rfl) (by kernel_rfl) (fun _ _ _ h => h) ⟨Or.inr ⟨by rfl, rfl⟩, fun _ => rfl⟩ ?_
            simp only [Act.put, List.setIfInBounds_toArray, List.set_cons_zero, List.set_cons_succ]
            refine wpAnyIn_one (i := 12) (by kernel_rfl) ?_
            refine wpOpIn_skip rfl (by rfl) (fun _ => trivial) ?_
            simp only [Act.put, List.setIfInBounds_toArray, List.set_cons_zero, List.set_cons_succ]
            refine wpAnyIn_take (i := 13) (v := undef) rfl rfl (by kernel_rfl) (by kernel_rfl) (by kernel_rfl) (fun _ _ _ h => h) ⟨Or.inr ⟨by rfl, rfl⟩, fun _ => rfl⟩ ?_
            simp only [Act.put, List.setIfInBounds_toArray, List.set_cons_zero, List.set_cons_succ]
            refine wpAnyIn_take (i := 14) (v := undef) rfl rfl (by kernel_rfl) (by kernel_rfl) (by kernel_rfl) (fun _ _ _ h => h) ⟨Or.inr ⟨by rfl, rfl⟩, fun _ => rfl⟩ ?_
            simp only [Act.put, List.setIfInBounds_toArray, List.set_cons_zero, List.set_cons_succ]
            refine wpAnyIn_one (i := 15) (by kernel_rfl) ?_
            refine wpOpIn_at rfl (by rfl) ?_
            intro K' hK'
            gi_wp2
            refine wpAnyIn_end (by kernel_rfl) ?_
            refine NoPanic.normal ?_
            gi_wp2
            (
              refine leaves_of_marks (Marks.nil w.heap.size w.heap.size _) ?_
              intro W' hW'
              have hbk := hW'.blk _ _ _ (set7 k3.out.b4 (.int .i64 0) (.int .i64 0) (.int .i64 0) (.int .i64 0) (.int .i64 0) (.int .i64 0) (.int .i64 0))
              have e0 := hbk.cell 0
              have e1 := hbk.cell 1
              have e2 := hbk.cell 2
              have e3 := hbk.cell 3
              have e4 := hbk.cell 4
              have e5 := hbk.cell 5
              have e6 := hbk.cell 6
              simp at e0 e1 e2 e3 e4 e5 e6
              refine ⟨.tuple #[.agg #[.int .i64 0, .int .i64 0, .int .i64 0, .int .i64 0, .int .i64 0, .int .i64 0, .int .i64 0], .bool false], ?_, rfl, (below7 k3.out.bw (by omega) _ _ _ _ _ _ _).trans hW'.below⟩
              simp [results, Tryd.f23, go_sem, e0, e1, e2, e3, e4, e5, e6])
  | true =>
    cases hqf : fitsB lm 7 with
    | false =>
      have hok : capOk up cs ⟨lv, lm⟩ bound = false := by
        cases h : capOk up cs ⟨lv, lm⟩ bound with
        | false => rfl
        | true =>
          have h1 := (capOk_iff.1 h).2.2.2.2
          rw [hqf] at h1
          cases h1
      rw [hno'.out hok, hok]
      rw [hqf] at hfit hfit2
      replace hok := Lib.hid hok
      replace hlev := Lib.hid hlev
      replace hq := Lib.hid hq
      replace hqf := Lib.hid hqf
      refine callsIn_of_wp_marks Tryd.func23 rfl trivial ?_ rfl
      simp only [Tryd.ntmps23, List.size_toArray, List.length_cons, List.length_nil, Nat.reduceAdd, Nat.reduceSub, Array.replicate_succ, Array.replicate_zero, List.push_toArray, List.append_toArray, List.nil_append, List.cons_append]
      gi_wp2
      refine (wpIn_wide (n := 20)).2 ?_
      first
      | go_region_held3 (fun w' => w'.cell? ⟨w.heap.size, 0, none⟩ = some (.slice A n c) ∧ w'.cell? ⟨w.heap.size + 2, 0, none⟩ = some (.int .i64 lv) ∧ w'.cell? ⟨w.heap.size + 2, 1, none⟩ = some (.int .u64 (lm : Nat)) ∧ w'.cell? ⟨w.heap.size + 3, 0, none⟩ = some (.int .i64 bound))
        (first
          | go_keep
          | (refine hcell0.out _ _ _ ?_ (by simp <;> omega) (by assumption); (repeat (first | with_reducible exact hb3.out | with_reducible exact hb2.out | with_reducible exact Below.refl _ _ | with_reducible refine Below.drew ?_ | (with_reducible refine Below.alloc ?_ ?_ _; rotate_left; · first | omega | (simp <;> omega)) | (with_reducible refine Below.setCell ?_ ?_ _; rotate_left; · first | omega | (simp <;> omega)))))
          | (refine ⟨?_, ?_, ?_, ?_⟩ <;> (refine hcell0.out _ _ _ ?_ (by simp <;> omega) (by assumption); (repeat (first | with_reducible exact hb3.out | with_reducible exact hb2.out | with_reducible exact Below.refl _ _ | with_reducible refine Below.drew ?_ | (with_reducible refine Below.alloc ?_ ?_ _; rotate_left; · first | omega | (simp <;> omega)) | (with_reducible refine Below.setCell ?_ ?_ _; rotate_left; · first | omega | (simp <;> omega)))))))
        (first
          | (refine step_append_grows rfl _ _ _ rfl 3 j0 (.int .i64 0) 1 8 Tryd.underlying37 hj0 hjz0 hjz1 hjz2 rfl (by decide) (some ⟨w.heap.size + 1, 0, none⟩) 7 7 (ints cs) (by rfl) (by intro h; cases h) hints.out ?_ ⟨w.heap.size + 5, 0, none⟩ 2 2 [.int .i64 bound, .int .i64 lv] (by rfl) rfl ?_ (by simp [Value.oneCell']) (by omega) (by omega) (by omega) ?_
             · rintro b0 hb0 j u hu
               cases hb0
               rw [add0]
               refine ((k.out.b1.alloc _).cell j).trans ?_
               simpa using hu
             · intro j u hu
               rw [add0]
               refine (Blk.cell (t := 3) (cs := #[.int .i64 bound, .int .i64 lv]) (Blk.new_at W0 _ _ _ hs0) j).trans ?_
               simpa using hu
             intro v2 w2 hown2 hg2
             obtain ⟨A2, c2, rfl⟩ := ownsRow_slice hown2
             have hb2 : RowKit.Hid (Below W0.heap.size W0 w2) := by
               refine Lib.hid (Below.grown (w := _) ?_ hg2 ?_ ?_)
               · exact ((Below.refl _ W0).alloc (Nat.le_refl _) _).drew
               · first | omega | (simp <;> omega)
               · intro j hj
                 cases hj
             have hs2 := hb2.out.size
             have hrd2 := Lib.hid (Reads.of_own hown2)
             clear hown2 hg2)
          | (go_at_call 29
             refine (level_any A n c up A2 9 c2 (cs ++ [bound, lv]) w2 ?_ hn.out hn63 hM.out ?_ (by rw [List.length_append, hc.out]; rfl) (by omega) ?_).mono ?_
             · exact hT.out.later (k.out.bw.trans (hb2.out.mono k.out.bw.size))
             · exact ((hr.out.below k.out.bw).more k.out.bw.size).below hb2.out |>.more hs2
             · have := hrd2.out
               unfold ints at this ⊢
               rw [List.map_append]
               exact this
             rintro e0 w3 ⟨rfl, hb3'⟩
             have hb3 := Lib.hid (hb2.out.trans (hb3'.mono hs2))
             have hs3 := hb3.out.size
             rw [hq.out]
             have k3 := k.out.below hb3.out
             have y0 := k3.b4.cell 0
             have r0 := k3.b4.frozen 0
             have y1 := k3.b4.cell 1
             have r1 := k3.b4.frozen 1
             have y2 := k3.b4.cell 2
             have r2 := k3.b4.frozen 2
             have y3 := k3.b4.cell 3
             have r3 := k3.b4.frozen 3
             have y4 := k3.b4.cell 4
             have r4 := k3.b4.frozen 4
             have y5 := k3.b4.cell 5
             have r5 := k3.b4.frozen 5
             have y6 := k3.b4.cell 6
             have r6 := k3.b4.frozen 6
             simp at y0 y1 y2 y3 y4 y5 y6
             obtain ⟨y11, y12⟩ := pair_cells k3.b2
             have y10 := k3.b0.cell0
             have y13 := k3.b3.cell0
             replace k3 := Lib.hid k3
             clear hb3')
          | (go_at_call 28
             refine (below_any 7 _ (by omega)).mono ?_
             rintro e0 w4 ⟨rfl, rfl⟩))
      | fail
      all_goals gi_wp2
      all_goals (
        refine leaves_of_marks (Marks.nil w.heap.size w.heap.size _) ?_
        intro W' hW'
        have hbk := hW'.blk _ _ _ (set7 k3.out.b4 (.int .i64 0) (.int .i64 0) (.int .i64 0) (.int .i64 0) (.int .i64 0) (.int .i64 0) (.int .i64 0))
        have e0 := hbk.cell 0
        have e1 := hbk.cell 1
        have e2 := hbk.cell 2
        have e3 := hbk.cell 3
        have e4 := hbk.cell 4
        have e5 := hbk.cell 5
        have e6 := hbk.cell 6
        simp at e0 e1 e2 e3 e4 e5 e6
        refine ⟨.tuple #[.agg #[.int .i64 0, .int .i64 0, .int .i64 0, .int .i64 0, .int .i64 0, .int .i64 0, .int .i64 0], .bool false], ?_, rfl, (below7 k3.out.bw (by omega) _ _ _ _ _ _ _).trans hW'.below⟩
        simp [results, Tryd.f23, go_sem, e0, e1, e2, e3, e4, e5, e6])
    | true =>
      have hok : capOk up cs ⟨lv, lm⟩ bound = true := by unfold capOk; rw [hq, hqf]; rfl
      have hcl : capL up cs ⟨lv, lm⟩ bound = capF up cs lm bound := by unfold capL; rw [if_pos hok]
      rw [hcl, hok]
      rw [hqf] at hfit hfit2
      replace hok := Lib.hid hok
      replace hcl := Lib.hid hcl
      replace hlev := Lib.hid hlev
      replace hq := Lib.hid hq
      replace hqf := Lib.hid hqf
      refine callsIn_of_wp_marks Tryd.func23 rfl trivial ?_ rfl
      simp only [Tryd.ntmps23, List.size_toArray, List.length_cons, List.length_nil, Nat.reduceAdd, Nat.reduceSub, Array.replicate_succ, Array.replicate_zero, List.push_toArray, List.append_toArray, List.nil_append, List.cons_append]
      gi_wp2
      refine (wpIn_wide (n := 20)).2 ?_
      first
      | go_region_held3 (fun w' => w'.cell? ⟨w.heap.size, 0, none⟩ = some (.slice A n c) ∧ w'.cell? ⟨w.heap.size + 2, 0, none⟩ = some (.int .i64 lv) ∧ w'.cell? ⟨w.heap.size + 2, 1, none⟩ = some (.int .u64 (lm : Nat)) ∧ w'.cell? ⟨w.heap.size + 3, 0, none⟩ = some (.int .i64 bound))
        (first
          | go_keep
          | (refine hcell0.out _ _ _ ?_ (by simp <;> omega) (by assumption); (repeat (first | with_reducible exact hb3.out | with_reducible exact hb2.out | with_reducible exact Below.refl _ _ | with_reducible refine Below.drew ?_ | (with_reducible refine Below.alloc ?_ ?_ _; rotate_left; · first | omega | (simp <;> omega)) | (with_reducible refine Below.setCell ?_ ?_ _; rotate_left; · first | omega | (simp <;> omega)))))
          | (refine ⟨?_, ?_, ?_, ?_⟩ <;> (refine hcell0.out _ _ _ ?_ (by simp <;> omega) (by assumption); (repeat (first | with_reducible exact hb3.out | with_reducible exact hb2.out | with_reducible exact Below.refl _ _ | with_reducible refine Below.drew ?_ | (with_reducible refine Below.alloc ?_ ?_ _; rotate_left; · first | omega | (simp <;> omega)) | (with_reducible refine Below.setCell ?_ ?_ _; rotate_left; · first | omega | (simp <;> omega)))))))
        (first
          | (refine step_append_grows rfl _ _ _ rfl 3 j0 (.int .i64 0) 1 8 Tryd.underlying37 hj0 hjz0 hjz1 hjz2 rfl (by decide) (some ⟨w.heap.size + 1, 0, none⟩) 7 7 (ints cs) (by rfl) (by intro h; cases h) hints.out ?_ ⟨w.heap.size + 5, 0, none⟩ 2 2 [.int .i64 bound, .int .i64 lv] (by rfl) rfl ?_ (by simp [Value.oneCell']) (by omega) (by omega) (by omega) ?_
             · rintro b0 hb0 j u hu
               cases hb0
               rw [add0]
               refine ((k.out.b1.alloc _).cell j).trans ?_
               simpa using hu
             · intro j u hu
               rw [add0]
               refine (Blk.cell (t := 3) (cs := #[.int .i64 bound, .int .i64 lv]) (Blk.new_at W0 _ _ _ hs0) j).trans ?_
               simpa using hu
             intro v2 w2 hown2 hg2
             obtain ⟨A2, c2, rfl⟩ := ownsRow_slice hown2
             have hb2 : RowKit.Hid (Below W0.heap.size W0 w2) := by
               refine Lib.hid (Below.grown (w := _) ?_ hg2 ?_ ?_)
               · exact ((Below.refl _ W0).alloc (Nat.le_refl _) _).drew
               · first | omega | (simp <;> omega)
               · intro j hj
                 cases hj
             have hs2 := hb2.out.size
             have hrd2 := Lib.hid (Reads.of_own hown2)
             clear hown2 hg2)
          | (go_at_call 29
             refine (level_any A n c up A2 9 c2 (cs ++ [bound, lv]) w2 ?_ hn.out hn63 hM.out ?_ (by rw [List.length_append, hc.out]; rfl) (by omega) ?_).mono ?_
             · exact hT.out.later (k.out.bw.trans (hb2.out.mono k.out.bw.size))
             · exact ((hr.out.below k.out.bw).more k.out.bw.size).below hb2.out |>.more hs2
             · have := hrd2.out
               unfold ints at this ⊢
               rw [List.map_append]
               exact this
             rintro e0 w3 ⟨rfl, hb3'⟩
             have hb3 := Lib.hid (hb2.out.trans (hb3'.mono hs2))
             have hs3 := hb3.out.size
             rw [hq.out]
             have k3 := k.out.below hb3.out
             have y0 := k3.b4.cell 0
             have r0 := k3.b4.frozen 0
             have y1 := k3.b4.cell 1
             have r1 := k3.b4.frozen 1
             have y2 := k3.b4.cell 2
             have r2 := k3.b4.frozen 2
             have y3 := k3.b4.cell 3
             have r3 := k3.b4.frozen 3
             have y4 := k3.b4.cell 4
             have r4 := k3.b4.frozen 4
             have y5 := k3.b4.cell 5
             have r5 := k3.b4.frozen 5
             have y6 := k3.b4.cell 6
             have r6 := k3.b4.frozen 6
             simp at y0 y1 y2 y3 y4 y5 y6
             obtain ⟨y11, y12⟩ := pair_cells k3.b2
             have y10 := k3.b0.cell0
             have y13 := k3.b3.cell0
             replace k3 := Lib.hid k3
             clear hb3')
          | (go_at_call 28
             refine (below_any 7 _ (by omega)).mono ?_
             rintro e0 w4 ⟨rfl, rfl⟩))
      | fail
      gi_wp2_with (refine ⟨trivial, ?_⟩; gi_at_call 31; refine (callsIn_wide.2 (all_makes _ _)).mono ?_; rintro e w' ⟨rfl, rfl⟩)
      obtain ⟨H, hH⟩ : ∃ H, w3.heap.size = H := ⟨_, rfl⟩
      obtain ⟨W5, hW5⟩ : ∃ W5, w3.alloc (.cells #[.int .u64 (lm : Nat)] 23) = W5 := ⟨_, rfl⟩
      rw [hW5, hH]
      have k5 : CapB w A n c cs ⟨lv, lm⟩ bound W5 := by rw [← hW5]; exact k3.out.below ((Below.refl _ _).alloc (Nat.le_refl _) _)
      have v3 : Blk W5 H 23 #[.int .u64 (lm : Nat)] := by rw [← hW5]; exact Blk.new_at _ _ _ _ hH
      have hs5 : W5.heap.size = H + 1 := by rw [← hW5]; simp; omega
      have hHs := k3.out.sz
      rw [hH] at hHs
      clear hW5 y0 y1 y2 y3 y4 y5 y6 r0 r1 r2 r3 r4 r5 r6 y10 y11 y12 y13 q0 q1 q2 q3
      refine wpIn_rangeFunc_ownG rfl (by omega) (gf := 45) (lb := #[.pointer (some ⟨H, 0, none⟩)]) rfl trivial (enters_of Tryd.func45 (by kernel_rfl) rfl)
        (all_stops 19 (by omega) lm hl H w.heap.size _ hw0 (by omega) (hT.out.later k5.bw) v3.cell0) belowK_t (belowK_b (by omega)) (Below.refl _ _) (fun _ => rfl)
        (fun pre X => CapB w A n c (capTo up bound (pre.map (·.1)) cs) ⟨lv, lm⟩ bound X)
        (fun c pre X => False)
        ?hI ?hIx k5
        (fun x => { tmps := #[.slice A n c, .agg (ints cs).toArray, .agg #[.int .i64 lv, .int .u64 (lm : Nat)], .int .i64 bound, .pointer (some ⟨w.heap.size, 0, none⟩), .pointer (some ⟨w.heap.size + 1, 0, none⟩), .pointer (some ⟨w.heap.size + 1 + 1, 0, none⟩), .pointer (some ⟨w.heap.size + 1 + 1 + 1, 0, none⟩), .pointer (some ⟨w.heap.size + 1 + 1 + 1 + 1, 0, none⟩), .bool false, .int .i64 (x.1 : Nat), .slice A n c, .slice (some ⟨w.heap.size + 1, 0, none⟩) 7 7, .int .i64 bound, .pointer (some ⟨w.heap.size + 1 + 1, 0, none⟩), .int .i64 lv, .slice (some ⟨w.heap.size + 5, 0, none⟩) 2 2, .slice A2 9 c2, .bool true, .bool false, .bool false, .pointer (some ⟨w.heap.size + 1 + 1, 1, none⟩), .int .u64 (lm : Nat), .int .u64 (belowN 7 : Nat), .int .u64 (bits BinOp.andNot IntKind.u64 (lm : Nat) (belowN 7 : Nat)), .bool false, .bool false, undef, .pointer (some ⟨w.heap.size + 1 + 1, 1, none⟩), .int .u64 (lm : Nat), .func (.func 45) #[] #[.pointer (some ⟨H, 0, none⟩)], .int .i64 (x.1 : Nat), undef, undef, undef, undef, undef, undef, undef, undef, undef, undef, undef, undef], defers := [] }) ?assign ?body ?done ?stop
      case hI =>
        rintro s A' B' row ⟨h1, h2, h3, h4, h5, h6, h7⟩ hg hr'
        have hc := fun r e => (hr' r e).2
        exact ⟨h1.own hg hc, h2.own hg hc, h3.own hg hc, h4.own hg hc, h5.own hg hc, ownFrom_below (β := Unit) (Nat.le_refl _) (by omega) () A' B' row h6 hg hr', Nat.le_trans h7 hg.size⟩
      case hIx => exact fun _ _ _ _ _ h => h.elim
      case assign =>
        intro l x X K hK
        gi_wp2
        simpa using hK
      case body =>
        rintro lr pre x X hX hlen
        obtain ⟨La, hcg, hbg, _, _⟩ := capOk_iff.1 hok.out
        have La := Lat.of hM.out La
        have hpre : ∀ b ∈ pre.map (·.1), b < 7 := by
          intro b hb
          obtain ⟨y, _, rfl⟩ := List.mem_map.1 hb
          exact bits7 hqf.out y.2
        have hcg := capTo_good La hbg (pre.map (·.1)) cs (fun b hb => by rw [hc.out]; exact hpre b hb) hcg
        have hlenc : (capTo up bound (pre.map (·.1)) cs).length = 7 := by rw [capTo_len]; exact hc.out
        have hsn := capTo_snoc up bound (pre.map (·.1)) x.1 cs
        have hb7 : x.1 < 7 := bits7 hqf.out x.2
        have hmp : ((pre ++ [x]).map (·.1)) = pre.map (·.1) ++ [x.1] := by rw [List.map_append]; rfl
        generalize capTo up bound (pre.map (·.1)) cs = cc at *
        have hgx := getD_good hcg (show x.1 < cc.length by omega)
        have hboth : bothL up (cc.getD x.1 0) bound = true := by
          obtain ⟨i, hi, hil⟩ := goodB_iff.1 hgx
          obtain ⟨j, hj, hjl⟩ := goodB_iff.1 hbg
          exact bothL_iff.2 ⟨by omega, by omega, by omega, by omega, (capOk_iff.1 hok.out).1⟩
        have hME := meet_any A n c up (cc.getD x.1 0) bound
        rw [if_pos hboth, hboth] at hME
        have hat : (ints cc)[x.1]? = some (.int .i64 (cc.getD x.1 0)) := by
          rw [ints_at (show x.1 < cc.length by omega), List.getD_eq_getElem?_getD, List.getElem?_eq_getElem (show x.1 < cc.length by omega)]
          rfl
        generalize cc.getD x.1 0 = v at *
        generalize meetI up v.toNat bound.toNat = u at *
        generalize hbe : x.1 = b at *
        have d0 := hX.b0.cell0
        have d1 : X.cell? ⟨w.heap.size + 1, b, none⟩ = some (.int .i64 v) := by
          rw [hX.b1.cell b]
          simpa using hat
        have d2 := hX.b3.cell0
        replace hX := Lib.hid hX
        replace hME := Lib.hid hME
        replace hsn := Lib.hid hsn
        replace hat := Lib.hid hat
        replace hgx := Lib.hid hgx
        replace hcg := Lib.hid hcg
        replace hpre := Lib.hid hpre
        replace hmp := Lib.hid hmp
        replace La := Lib.hid La
        replace hboth := Lib.hid hboth
        replace hbe := Lib.hid hbe
        replace hlenc := Lib.hid hlenc
        have hb0 : ((0 : Int) ≤ (b : Int)) := by omega
        have hb7i : ((b : Int) < 7) := by omega
        gi_wp2
        refine wpIn_region_round (by kernel_rfl) rfl (by kernel_rfl) ?_
        refine wpAnyIn_take (i := 0) (v := ?_) rfl rfl (by kernel_rfl) (by kernel_rfl) (by kernel_rfl) (fun _ _ _ h => h) ⟨Or.inl ⟨by rfl, ?_⟩, fun _ => rfl⟩ ?_
        rotate_left
        · intro W1
          go_simp
          try with_reducible rfl
        simp only [Act.put, List.setIfInBounds_toArray, List.set_cons_zero, List.set_cons_succ]
        refine wpAnyIn_take (i := 2) (v := ?_) rfl rfl (by kernel_rfl) (by kernel_rfl) (by kernel_rfl) (fun _ _ _ h => h) ⟨Or.inl ⟨by rfl, ?_⟩, fun _ => rfl⟩ ?_
        rotate_left
        · intro W1
          go_simp
          try with_reducible rfl
        simp only [Act.put, List.setIfInBounds_toArray, List.set_cons_zero, List.set_cons_succ]
        refine wpAnyIn_take (i := 3) (v := ?_) rfl rfl (by kernel_rfl) (by kernel_rfl) (by kernel_rfl) (fun _ _ _ h => h) ⟨Or.inl ⟨by rfl, ?_⟩, fun _ => rfl⟩ ?_
        rotate_left
        · intro W1
          go_simp
          try with_reducible rfl
        simp only [Act.put, List.setIfInBounds_toArray, List.set_cons_zero, List.set_cons_succ]
        refine wpAnyIn_three (i := 1) (k := 4) (r := 5) (by kernel_rfl) ?_ ?_ ?_
        · refine wpOpIn_at rfl (by rfl) ?_
          intro K' hK'
          gi_wp2
          refine wpAnyIn_two (i := 4) (k := 5) (by kernel_rfl) ?_ ?_
          · refine wpOpIn_at rfl (by rfl) ?_
            intro K' hK'
            gi_wp2
            refine wpAnyIn_one (i := 5) (by kernel_rfl) ?_
            refine wpOpIn_at rfl (by rfl) ?_
            intro K' hK'
            gi_wp2
            refine wpAnyIn_one (i := 6) (by kernel_rfl) ?_
            refine wpOpIn_at rfl (by rfl) ?_
            intro K' hK'
            gi_wp2_with (refine ⟨trivial, ?_⟩; gi_at_call 38; refine (callsIn_wide.2 (hME.out X.drew (hT.out.later hX.out.bw.drew) hn.out hn63 hM.out ((hr.out.below hX.out.bw).more hX.out.bw.size))).mono ?_; rintro e w6 ⟨rfl, hb6'⟩; have hb6 : Below X.heap.size X w6 := Below.trans (Below.refl _ _).drew hb6'; have k6 := hX.out.below hb6; have f6 := k6.b1.frozen b; have d6 : w6.cell? ⟨w.heap.size + 1, b, none⟩ = some (.int .i64 v) := hb6.cell (by have := hX.out.sz; simp; omega) |>.trans d1; replace hb6 := Lib.hid hb6; replace k6 := Lib.hid k6; clear hb6')
            refine wpAnyIn_one (i := 7) (by kernel_rfl) ?_
            refine wpOpIn_at rfl (by rfl) ?_
            intro K' hK'
            gi_wp2
            refine wpAnyIn_take (i := 9) (v := ?_) rfl rfl (by kernel_rfl) (by kernel_rfl) (by kernel_rfl) (fun _ _ _ h => h) ⟨Or.inl ⟨by rfl, ?_⟩, fun _ => rfl⟩ ?_
            rotate_left
            · intro W1
              go_simp
              try with_reducible rfl
            simp only [Act.put, List.setIfInBounds_toArray, List.set_cons_zero, List.set_cons_succ]
            refine wpAnyIn_one (i := 8) (by kernel_rfl) ?_
            refine wpOpIn_at rfl (by rfl) ?_
            intro K' hK'
            gi_wp2
            refine wpAnyIn_one (i := 10) (by kernel_rfl) ?_
            refine wpOpIn_at rfl (by rfl) ?_
            intro K' hK'
            gi_wp2
            refine wpAnyIn_one (i := 11) (by kernel_rfl) ?_
            refine wpOpIn_at rfl (by rfl) ?_
            intro K' hK'
            gi_wp2
            refine wpAnyIn_end (by kernel_rfl) ?_
            gi_wp2
            exact ⟨((keeps_below hb6.out).trans (KeepsOthers.setCell _ _ _)).from _, (hb6.out.mono hX.out.bw.size).setCell (by simp) _, by show CapB w A n c (capTo up bound ((pre ++ [x]).map (·.1)) cs) _ _ _; rw [hmp.out, hsn.out]; exact cap_set k6.out b u⟩
          · refine wpOpIn_at rfl (by rfl) ?_
            intro K' hK'
            gi_wp2
            refine wpAnyIn_one (i := 4) (by kernel_rfl) ?_
            refine wpOpIn_at rfl (by rfl) ?_
            intro K' hK'
            gi_wp2
            refine wpAnyIn_one (i := 6) (by kernel_rfl) ?_
            refine wpOpIn_at rfl (by rfl) ?_
            intro K' hK'
            gi_wp2_with (refine ⟨trivial, ?_⟩; gi_at_call 38; refine (callsIn_wide.2 (hME.out X.drew (hT.out.later hX.out.bw.drew) hn.out hn63 hM.out ((hr.out.below hX.out.bw).more hX.out.bw.size))).mono ?_; rintro e w6 ⟨rfl, hb6'⟩; have hb6 : Below X.heap.size X w6 := Below.trans (Below.refl _ _).drew hb6'; have k6 := hX.out.below hb6; have f6 := k6.b1.frozen b; have d6 : w6.cell? ⟨w.heap.size + 1, b, none⟩ = some (.int .i64 v) := hb6.cell (by have := hX.out.sz; simp; omega) |>.trans d1; replace hb6 := Lib.hid hb6; replace k6 := Lib.hid k6; clear hb6')
            refine wpAnyIn_one (i := 7) (by kernel_rfl) ?_
            refine wpOpIn_at rfl (by rfl) ?_
            intro K' hK'
            gi_wp2
            refine wpAnyIn_take (i := 9) (v := ?_) rfl rfl (by kernel_rfl) (by kernel_rfl) (by kernel_rfl) (fun _ _ _ h => h) ⟨Or.inl ⟨by rfl, ?_⟩, fun _ => rfl⟩ ?_
            rotate_left
            · intro W1
              go_simp
              try with_reducible rfl
            simp only [Act.put, List.setIfInBounds_toArray, List.set_cons_zero, List.set_cons_succ]
            refine wpAnyIn_one (i := 8) (by kernel_rfl) ?_
            refine wpOpIn_at rfl (by rfl) ?_
            intro K' hK'
            gi_wp2
            refine wpAnyIn_one (i := 10) (by kernel_rfl) ?_
            refine wpOpIn_at rfl (by rfl) ?_
            intro K' hK'
            gi_wp2
            refine wpAnyIn_one (i := 11) (by kernel_rfl) ?_
            refine wpOpIn_at rfl (by rfl) ?_
            intro K' hK'
            gi_wp2
            refine wpAnyIn_end (by kernel_rfl) ?_
            gi_wp2
            exact ⟨((keeps_below hb6.out).trans (KeepsOthers.setCell _ _ _)).from _, (hb6.out.mono hX.out.bw.size).setCell (by simp) _, by show CapB w A n c (capTo up bound ((pre ++ [x]).map (·.1)) cs) _ _ _; rw [hmp.out, hsn.out]; exact cap_set k6.out b u⟩
        · refine wpOpIn_at rfl (by rfl) ?_
          intro K' hK'
          gi_wp2
          refine wpAnyIn_two (i := 1) (k := 5) (by kernel_rfl) ?_ ?_
          · refine wpOpIn_at rfl (by rfl) ?_
            intro K' hK'
            gi_wp2
            refine wpAnyIn_one (i := 5) (by kernel_rfl) ?_
            refine wpOpIn_at rfl (by rfl) ?_
            intro K' hK'
            gi_wp2
            refine wpAnyIn_one (i := 6) (by kernel_rfl) ?_
            refine wpOpIn_at rfl (by rfl) ?_
            intro K' hK'
            gi_wp2_with (refine ⟨trivial, ?_⟩; gi_at_call 38; refine (callsIn_wide.2 (hME.out X.drew (hT.out.later hX.out.bw.drew) hn.out hn63 hM.out ((hr.out.below hX.out.bw).more hX.out.bw.size))).mono ?_; rintro e w6 ⟨rfl, hb6'⟩; have hb6 : Below X.heap.size X w6 := Below.trans (Below.refl _ _).drew hb6'; have k6 := hX.out.below hb6; have f6 := k6.b1.frozen b; have d6 : w6.cell? ⟨w.heap.size + 1, b, none⟩ = some (.int .i64 v) := hb6.cell (by have := hX.out.sz; simp; omega) |>.trans d1; replace hb6 := Lib.hid hb6; replace k6 := Lib.hid k6; clear hb6')
            refine wpAnyIn_one (i := 7) (by kernel_rfl) ?_
            refine wpOpIn_at rfl (by rfl) ?_
            intro K' hK'
            gi_wp2
            refine wpAnyIn_take (i := 9) (v := ?_) rfl rfl (by kernel_rfl) (by kernel_rfl) (by kernel_rfl) (fun _ _ _ h => h) ⟨Or.inl ⟨by rfl, ?_⟩, fun _ => rfl⟩ ?_
            rotate_left
            · intro W1
              go_simp
              try with_reducible rfl
            simp only [Act.put, List.setIfInBounds_toArray, List.set_cons_zero, List.set_cons_succ]
            refine wpAnyIn_one (i := 8) (by kernel_rfl) ?_
            refine wpOpIn_at rfl (by rfl) ?_
            intro K' hK'
            gi_wp2
            refine wpAnyIn_one (i := 10) (by kernel_rfl) ?_
            refine wpOpIn_at rfl (by rfl) ?_
            intro K' hK'
            gi_wp2
            refine wpAnyIn_one (i := 11) (by kernel_rfl) ?_
            refine wpOpIn_at rfl (by rfl) ?_
            intro K' hK'
            gi_wp2
            refine wpAnyIn_end (by kernel_rfl) ?_
            gi_wp2
            exact ⟨((keeps_below hb6.out).trans (KeepsOthers.setCell _ _ _)).from _, (hb6.out.mono hX.out.bw.size).setCell (by simp) _, by show CapB w A n c (capTo up bound ((pre ++ [x]).map (·.1)) cs) _ _ _; rw [hmp.out, hsn.out]; exact cap_set k6.out b u⟩
          · refine wpOpIn_at rfl (by rfl) ?_
            intro K' hK'
            gi_wp2
            refine wpAnyIn_one (i := 1) (by kernel_rfl) ?_
            refine wpOpIn_at rfl (by rfl) ?_
            intro K' hK'
            gi_wp2
            refine wpAnyIn_one (i := 6) (by kernel_rfl) ?_
            refine wpOpIn_at rfl (by rfl) ?_
            intro K' hK'
            gi_wp2_with (refine ⟨trivial, ?_⟩; gi_at_call 38; refine (callsIn_wide.2 (hME.out X.drew (hT.out.later hX.out.bw.drew) hn.out hn63 hM.out ((hr.out.below hX.out.bw).more hX.out.bw.size))).mono ?_; rintro e w6 ⟨rfl, hb6'⟩; have hb6 : Below X.heap.size X w6 := Below.trans (Below.refl _ _).drew hb6'; have k6 := hX.out.below hb6; have f6 := k6.b1.frozen b; have d6 : w6.cell? ⟨w.heap.size + 1, b, none⟩ = some (.int .i64 v) := hb6.cell (by have := hX.out.sz; simp; omega) |>.trans d1; replace hb6 := Lib.hid hb6; replace k6 := Lib.hid k6; clear hb6')
            refine wpAnyIn_one (i := 7) (by kernel_rfl) ?_
            refine wpOpIn_at rfl (by rfl) ?_
            intro K' hK'
            gi_wp2
            refine wpAnyIn_take (i := 9) (v := ?_) rfl rfl (by kernel_rfl) (by kernel_rfl) (by kernel_rfl) (fun _ _ _ h => h) ⟨Or.inl ⟨by rfl, ?_⟩, fun _ => rfl⟩ ?_
            rotate_left
            · intro W1
              go_simp
              try with_reducible rfl
            simp only [Act.put, List.setIfInBounds_toArray, List.set_cons_zero, List.set_cons_succ]
            refine wpAnyIn_one (i := 8) (by kernel_rfl) ?_
            refine wpOpIn_at rfl (by rfl) ?_
            intro K' hK'
            gi_wp2
            refine wpAnyIn_one (i := 10) (by kernel_rfl) ?_
            refine wpOpIn_at rfl (by rfl) ?_
            intro K' hK'
            gi_wp2
            refine wpAnyIn_one (i := 11) (by kernel_rfl) ?_
            refine wpOpIn_at rfl (by rfl) ?_
            intro K' hK'
            gi_wp2
            refine wpAnyIn_end (by kernel_rfl) ?_
            gi_wp2
            exact ⟨((keeps_below hb6.out).trans (KeepsOthers.setCell _ _ _)).from _, (hb6.out.mono hX.out.bw.size).setCell (by simp) _, by show CapB w A n c (capTo up bound ((pre ++ [x]).map (·.1)) cs) _ _ _; rw [hmp.out, hsn.out]; exact cap_set k6.out b u⟩
        · refine wpOpIn_at rfl (by rfl) ?_
          intro K' hK'
          gi_wp2
          refine wpAnyIn_two (i := 1) (k := 4) (by kernel_rfl) ?_ ?_
          · refine wpOpIn_at rfl (by rfl) ?_
            intro K' hK'
            gi_wp2
            refine wpAnyIn_one (i := 4) (by kernel_rfl) ?_
            refine wpOpIn_at rfl (by rfl) ?_
            intro K' hK'
            gi_wp2
            refine wpAnyIn_one (i := 6) (by kernel_rfl) ?_
            refine wpOpIn_at rfl (by rfl) ?_
            intro K' hK'
            gi_wp2_with (refine ⟨trivial, ?_⟩; gi_at_call 38; refine (callsIn_wide.2 (hME.out X.drew (hT.out.later hX.out.bw.drew) hn.out hn63 hM.out ((hr.out.below hX.out.bw).more hX.out.bw.size))).mono ?_; rintro e w6 ⟨rfl, hb6'⟩; have hb6 : Below X.heap.size X w6 := Below.trans (Below.refl _ _).drew hb6'; have k6 := hX.out.below hb6; have f6 := k6.b1.frozen b; have d6 : w6.cell? ⟨w.heap.size + 1, b, none⟩ = some (.int .i64 v) := hb6.cell (by have := hX.out.sz; simp; omega) |>.trans d1; replace hb6 := Lib.hid hb6; replace k6 := Lib.hid k6; clear hb6')
            refine wpAnyIn_one (i := 7) (by kernel_rfl) ?_
            refine wpOpIn_at rfl (by rfl) ?_
            intro K' hK'
            gi_wp2
            refine wpAnyIn_take (i := 9) (v := ?_) rfl rfl (by kernel_rfl) (by kernel_rfl) (by kernel_rfl) (fun _ _ _ h => h) ⟨Or.inl ⟨by rfl, ?_⟩, fun _ => rfl⟩ ?_
            rotate_left
            · intro W1
              go_simp
              try with_reducible rfl
            simp only [Act.put, List.setIfInBounds_toArray, List.set_cons_zero, List.set_cons_succ]
            refine wpAnyIn_one (i := 8) (by kernel_rfl) ?_
            refine wpOpIn_at rfl (by rfl) ?_
            intro K' hK'
            gi_wp2
            refine wpAnyIn_one (i := 10) (by kernel_rfl) ?_
            refine wpOpIn_at rfl (by rfl) ?_
            intro K' hK'
            gi_wp2
            refine wpAnyIn_one (i := 11) (by kernel_rfl) ?_
            refine wpOpIn_at rfl (by rfl) ?_
            intro K' hK'
            gi_wp2
            refine wpAnyIn_end (by kernel_rfl) ?_
            gi_wp2
            exact ⟨((keeps_below hb6.out).trans (KeepsOthers.setCell _ _ _)).from _, (hb6.out.mono hX.out.bw.size).setCell (by simp) _, by show CapB w A n c (capTo up bound ((pre ++ [x]).map (·.1)) cs) _ _ _; rw [hmp.out, hsn.out]; exact cap_set k6.out b u⟩
          · refine wpOpIn_at rfl (by rfl) ?_
            intro K' hK'
            gi_wp2
            refine wpAnyIn_one (i := 1) (by kernel_rfl) ?_
            refine wpOpIn_at rfl (by rfl) ?_
            intro K' hK'
            gi_wp2
            refine wpAnyIn_one (i := 6) (by kernel_rfl) ?_
            refine wpOpIn_at rfl (by rfl) ?_
            intro K' hK'
            gi_wp2_with (refine ⟨trivial, ?_⟩; gi_at_call 38; refine (callsIn_wide.2 (hME.out X.drew (hT.out.later hX.out.bw.drew) hn.out hn63 hM.out ((hr.out.below hX.out.bw).more hX.out.bw.size))).mono ?_; rintro e w6 ⟨rfl, hb6'⟩; have hb6 : Below X.heap.size X w6 := Below.trans (Below.refl _ _).drew hb6'; have k6 := hX.out.below hb6; have f6 := k6.b1.frozen b; have d6 : w6.cell? ⟨w.heap.size + 1, b, none⟩ = some (.int .i64 v) := hb6.cell (by have := hX.out.sz; simp; omega) |>.trans d1; replace hb6 := Lib.hid hb6; replace k6 := Lib.hid k6; clear hb6')
            refine wpAnyIn_one (i := 7) (by kernel_rfl) ?_
            refine wpOpIn_at rfl (by rfl) ?_
            intro K' hK'
            gi_wp2
            refine wpAnyIn_take (i := 9) (v := ?_) rfl rfl (by kernel_rfl) (by kernel_rfl) (by kernel_rfl) (fun _ _ _ h => h) ⟨Or.inl ⟨by rfl, ?_⟩, fun _ => rfl⟩ ?_
            rotate_left
            · intro W1
              go_simp
              try with_reducible rfl
            simp only [Act.put, List.setIfInBounds_toArray, List.set_cons_zero, List.set_cons_succ]
            refine wpAnyIn_one (i := 8) (by kernel_rfl) ?_
            refine wpOpIn_at rfl (by rfl) ?_
            intro K' hK'
            gi_wp2
            refine wpAnyIn_one (i := 10) (by kernel_rfl) ?_
            refine wpOpIn_at rfl (by rfl) ?_
            intro K' hK'
            gi_wp2
            refine wpAnyIn_one (i := 11) (by kernel_rfl) ?_
            refine wpOpIn_at rfl (by rfl) ?_
            intro K' hK'
            gi_wp2
            refine wpAnyIn_end (by kernel_rfl) ?_
            gi_wp2
            exact ⟨((keeps_below hb6.out).trans (KeepsOthers.setCell _ _ _)).from _, (hb6.out.mono hX.out.bw.size).setCell (by simp) _, by show CapB w A n c (capTo up bound ((pre ++ [x]).map (·.1)) cs) _ _ _; rw [hmp.out, hsn.out]; exact cap_set k6.out b u⟩
      case done =>
        rintro D ys X hD hys hX hK
        have hmk' := Lib.hid ((Marks.nil w.heap.size w.heap.size X).cons (by omega) (by omega) hK)
        rw [hys] at hX
        have hlen7 : (capTo up bound (bitsOf lm) cs).length = 7 := by rw [capTo_len]; exact hc.out
        have hcf : capF up cs lm bound = capTo up bound (bitsOf lm) cs := rfl
        generalize capTo up bound (bitsOf lm) cs = cf at *
        obtain ⟨c0, c1, c2, c3, c4, c5, c6, rfl⟩ := list7 hlen7
        have k1 : Blk X (w.heap.size + 1) 50 #[.int .i64 c0, .int .i64 c1, .int .i64 c2, .int .i64 c3, .int .i64 c4, .int .i64 c5, .int .i64 c6] := hX.b1
        have p0 := k1.cell 0
        have y0 := hX.b4.cell 0
        have r0 := hX.b4.frozen 0
        have p1 := k1.cell 1
        have y1 := hX.b4.cell 1
        have r1 := hX.b4.frozen 1
        have p2 := k1.cell 2
        have y2 := hX.b4.cell 2
        have r2 := hX.b4.frozen 2
        have p3 := k1.cell 3
        have y3 := hX.b4.cell 3
        have r3 := hX.b4.frozen 3
        have p4 := k1.cell 4
        have y4 := hX.b4.cell 4
        have r4 := hX.b4.frozen 4
        have p5 := k1.cell 5
        have y5 := hX.b4.cell 5
        have r5 := hX.b4.frozen 5
        have p6 := k1.cell 6
        have y6 := hX.b4.cell 6
        have r6 := hX.b4.frozen 6
        simp at p0 p1 p2 p3 p4 p5 p6 y0 y1 y2 y3 y4 y5 y6
        replace hX := Lib.hid hX
        replace k1 := Lib.hid k1
        replace hcf := Lib.hid hcf
        clear hK hys hlen7
        gi_wp2
        refine leaves_of_marks (hmk'.out.keeps (keeps7 _ _ _ _ _ _ _ _ _)) ?_
        intro W' hW'
        have hbk := hW'.blk _ _ _ (set7 hX.out.b4 (.int .i64 c0) (.int .i64 c1) (.int .i64 c2) (.int .i64 c3) (.int .i64 c4) (.int .i64 c5) (.int .i64 c6))
        have e0 := hbk.cell 0
        have e1 := hbk.cell 1
        have e2 := hbk.cell 2
        have e3 := hbk.cell 3
        have e4 := hbk.cell 4
        have e5 := hbk.cell 5
        have e6 := hbk.cell 6
        simp at e0 e1 e2 e3 e4 e5 e6
        refine ⟨.tuple #[.agg #[.int .i64 c0, .int .i64 c1, .int .i64 c2, .int .i64 c3, .int .i64 c4, .int .i64 c5, .int .i64 c6], .bool true], ?_, (by rw [hcf.out]; rfl), (below7 hX.out.bw (by omega) _ _ _ _ _ _ _).trans hW'.below⟩
        simp [results, Tryd.f23, go_sem, e0, e1, e2, e3, e4, e5, e6]
      case stop => exact fun _ _ _ _ _ _ h => h.elim
end Go.Proofs.YtfloonpchjbmnaaDoor
