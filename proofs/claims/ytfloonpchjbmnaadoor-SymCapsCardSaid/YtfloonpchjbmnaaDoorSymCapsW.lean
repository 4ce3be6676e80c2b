/- The walk of SymCaps. -/
import Derived.Deep.RegionHeld3
import Derived.Deep.DeepCutAuto
import Derived.Test.YtfloonpchjbmnaaDoorSymPutsW
import Derived.Test.YtfloonpchjbmnaaDoorSd
import Derived.Test.YtfloonpchjbmnaaDoorLe7
namespace Go.Proofs.YtfloonpchjbmnaaDoor
open Go.RowKit Go.Shelf Go.Idl
attribute [local go_sem] arr7_equalIn
set_option linter.unusedSimpArgs false
set_option linter.unusedVariables false

theorem step_append_gd {P : Program} {w : World} {ops : Array Oper} {o : Oper} {a : Act} {K : Act → World → Prop} {Q : Exit → Act → World → Prop} {E : Prop} (hw : Region.wanted o (yielded ops a.tmps) = true) (s x : Operand) (t : TypeId)
    (ho : o.op = .call { callee := .builtin .append, args := #[s, x], argTypes := #[t, t] })
    (base : Nat) (e : TypeId) (i : TypeInfo) (z : Value) (size bytes : Nat) (ht : P.underlying t = some (.slice e)) (hi : P.info? e = some i) (hz : i.zero = some z)
    (hsize : i.size = size) (hby : i.bytes = bytes) (hzs : z.cells.size = size) (hsz : 0 < size)
    (v : Value) (n : Nat) (xs : List Value) (hs : a.eval s = v) (hown : w.ownsRow base e size v n xs)
    (B : Nat) (A : Option Addr) (m c : Nat) (news : List Value) (hx : a.eval x = .slice A m c) (hr : Reads w B size A m news) (h1 : ∀ u ∈ news, u.oneCell' = true)
    (h63 : n + m ≤ maxLen) (hbytes : (n + m) * bytes ≤ 140737488355328) (hbase : base ≤ w.heap.size)
    (h : ∀ v' w', w'.ownsRow base e size v' (n + m) (xs ++ news) → w.grownBy w' v.ownBlock → (v'.ownBlock = v.ownBlock ∨ v'.ownBlock = some w.heap.size) → K (a.put o.dst v') w') :
    if Region.wanted o (yielded ops a.tmps) = true then Oper.wp P o a w K Q else E := by
  rw [if_pos hw]
  exact wp_append_any w s x t ho base e i z size bytes ht hi hz hsize hby hzs hsz v n xs hs hown B A m c news hx hr h1 h63 hbytes hbase h
theorem reads_one {W : World} {g : Nat} {t : TypeId} {v : Value} (k : Blk W g t #[v]) : Reads W W.heap.size 1 (some ⟨g, 0, none⟩) 1 [v] := by
  refine ⟨rfl, fun _ => ⟨_, rfl, k.lt, fun j u hu => ?_⟩⟩
  rw [add0, k.cell]
  simpa using hu
theorem step_append_blk {P : Program} {w : World} {ops : Array Oper} {o : Oper} {a : Act} {K : Act → World → Prop} {Q : Exit → Act → World → Prop} {E : Prop} (hw : Region.wanted o (yielded ops a.tmps) = true) (s x : Operand) (t : TypeId)
    (ho : o.op = .call { callee := .builtin .append, args := #[s, x], argTypes := #[t, t] })
    (base : Nat) (e : TypeId) (i : TypeInfo) (z : Value) (bytes : Nat) (ht : P.underlying t = some (.slice e)) (hi : P.info? e = some i) (hz : i.zero = some z)
    (hsize : i.size = 1) (hby : i.bytes = bytes) (hzs : z.cells.size = 1)
    (v : Value) (n : Nat) (xs : List Value) (hs : a.eval s = v) (hown : w.ownsRow base e 1 v n xs)
    (g : Nat) (u : Value) (hx : a.eval x = .slice (some ⟨g, 0, none⟩) 1 1) (k : Blk w g e #[u]) (h1 : u.oneCell' = true)
    (h63 : n + 1 ≤ maxLen) (hbytes : (n + 1) * bytes ≤ 140737488355328) (hbase : base ≤ w.heap.size)
    (h : ∀ v' w', w'.ownsRow base e 1 v' (n + 1) (xs ++ [u]) → w.grownBy w' v.ownBlock → (v'.ownBlock = v.ownBlock ∨ v'.ownBlock = some w.heap.size) → K (a.put o.dst v') w') :
    if Region.wanted o (yielded ops a.tmps) = true then Oper.wp P o a w K Q else E :=
  step_append_gd hw s x t ho base e i z 1 bytes ht hi hz hsize hby hzs (by decide) v n xs hs hown _ _ 1 1 [u] hx (reads_one k) (by intro y hy; rw [List.mem_singleton] at hy; subst hy; exact h1) h63 hbytes hbase h
theorem reads_at {W : World} {g o : Nat} {cs : List Value} (n : Nat) (hn : cs.length = n) (hg : g < W.heap.size) (h : ∀ j u, cs[j]? = some u → W.cell? ⟨g, o + j, none⟩ = some u) : Reads W W.heap.size 1 (some ⟨g, o, none⟩) n cs := by
  refine ⟨by rw [hn, Nat.mul_one], fun _ => ⟨_, rfl, hg, fun j u hu => ?_⟩⟩
  have e : (⟨g, o, none⟩ : Addr).add j = ⟨g, o + j, none⟩ := by
    unfold Addr.add
    split
    · rename_i h0; subst h0; rfl
    · rfl
  rw [e]
  exact h j u hu

set_option maxHeartbeats 8000000 in
set_option maxRecDepth 100000 in
theorem walkSymCaps (A : Option Addr) (n c : Nat) (up : List Nat) (c0 c1 c2 c3 c4 c5 c6 : Int) (l : Lb) (bo : Int) (w : World) (hT : Tab w) (hn : up.length = n) (hn63 : n ≤ maxLen) (hM : Masks up) (hr : Reads w w.heap.size 1 A n (u64s up)) (hl : l.ms < 2 ^ 64) :
    Calls Tryd.prog 8 #[.agg #[.slice A n c, .int .i64 c0, .int .i64 c1, .int .i64 c2, .int .i64 c3, .int .i64 c4, .int .i64 c5, .int .i64 c6, .int .i64 l.lv, .int .u64 (l.ms : Nat), .int .i64 bo]] w fun e w' => e = .returned (.bool true) ∧ Below w.heap.size w w' := by
  have hml : maxLen = 9223372036854775807 := rfl
  obtain ⟨lv, lm⟩ := l
  dsimp only at hl ⊢
  obtain ⟨X, hX⟩ : ∃ X, w.alloc (.cells #[.slice A n c, .int .i64 c0, .int .i64 c1, .int .i64 c2, .int .i64 c3, .int .i64 c4, .int .i64 c5, .int .i64 c6, .int .i64 lv, .int .u64 (lm : Nat), .int .i64 bo] 52) = X := ⟨_, rfl⟩
  have k0 : Blk X w.heap.size 52 #[.slice A n c, .int .i64 c0, .int .i64 c1, .int .i64 c2, .int .i64 c3, .int .i64 c4, .int .i64 c5, .int .i64 c6, .int .i64 lv, .int .u64 (lm : Nat), .int .i64 bo] := by rw [← hX]; exact Blk.new w _ _
  have hsz : X.heap.size = w.heap.size + 1 := by rw [← hX]; simp
  have hB0 : Below w.heap.size w X := by rw [← hX]; exact (Below.refl _ w).alloc (Nat.le_refl _) _
  have p0 := k0.cell 0
  have p1 := k0.cell 1
  have p2 := k0.cell 2
  have p3 := k0.cell 3
  have p4 := k0.cell 4
  have p5 := k0.cell 5
  have p6 := k0.cell 6
  have p7 := k0.cell 7
  have p8 := k0.cell 8
  have p9 := k0.cell 9
  have p10 := k0.cell 10
  simp at p0 p1 p2 p3 p4 p5 p6 p7 p8 p9 p10
  obtain ⟨i0, hi0, hz0, hz1, hz2⟩ := info_parts u64_info
  obtain ⟨j0, hj0, hjz0, hjz1, hjz2⟩ := info_parts intA_info
  have h1 := Lib.hid (u64s_one up)
  have h1z := Lib.hid (ints_one [c0, c1, c2, c3, c4, c5, c6])
  have hrX := Lib.hid (show Reads X (w.heap.size + 1) 1 A n (u64s up) from (hr.below hB0).more (by omega))
  have hTX := Lib.hid (hT.later hB0)
  have hcell := Lib.hid (fun (W : World) (p : Addr) (v : Value) (h : Below (w.heap.size + 1) X W) (hp : p.block < w.heap.size + 1) (hv : X.cell? p = some v) => (h.cell hp).trans hv)
  have hcok := @capOk_iff up [c0, c1, c2, c3, c4, c5, c6] ⟨lv, lm⟩ bo
  have hCap := fun (B : Option Addr) (d : Nat) => cap_any B n d up [c0, c1, c2, c3, c4, c5, c6] ⟨lv, lm⟩ bo
  have hc1 : capOk up [c0, c1, c2, c3, c4, c5, c6] ⟨lv, lm⟩ bo = false → capL up [c0, c1, c2, c3, c4, c5, c6] ⟨lv, lm⟩ bo = [0, 0, 0, 0, 0, 0, 0] := fun h => by unfold capL; rw [h]; rfl
  have hc2 : capOk up [c0, c1, c2, c3, c4, c5, c6] ⟨lv, lm⟩ bo = true → capL up [c0, c1, c2, c3, c4, c5, c6] ⟨lv, lm⟩ bo = capF up [c0, c1, c2, c3, c4, c5, c6] lm bo := fun h => by unfold capL; rw [if_pos h]
  have hlen := capL_len up [c0, c1, c2, c3, c4, c5, c6] ⟨lv, lm⟩ bo rfl
  have hRC := fun (W : World) (hr : Reads W W.heap.size 1 A n (u64s up)) (h : capOk up [c0, c1, c2, c3, c4, c5, c6] ⟨lv, lm⟩ bo = true) => rcap_any A n c up [c0, c1, c2, c3, c4, c5, c6] ⟨lv, lm⟩ bo W hn hM hr hl rfl h
  generalize capOk up [c0, c1, c2, c3, c4, c5, c6] ⟨lv, lm⟩ bo = ok at *
  generalize capF up [c0, c1, c2, c3, c4, c5, c6] lm bo = cf at *
  generalize capL up [c0, c1, c2, c3, c4, c5, c6] ⟨lv, lm⟩ bo = cl at *
  obtain ⟨x0, x1, x2, x3, x4, x5, x6, rfl⟩ := list7 hlen
  simp only [lbV, ints, List.map_cons, List.map_nil] at hCap
  replace hr := Lib.hid hr
  replace hT := Lib.hid hT
  replace hn := Lib.hid hn
  replace hM := Lib.hid hM
  replace k0 := Lib.hid k0
  replace hB0 := Lib.hid hB0
  replace hcok := Lib.hid hcok
  replace hCap := Lib.hid hCap
  replace hc1 := Lib.hid hc1
  replace hc2 := Lib.hid hc2
  replace hRC := Lib.hid hRC
  replace hlen := Lib.hid hlen
  by_cases hbig : 20 < n
  · have h2 : ((20 : Int) < (n : Int)) := by omega
    go_enter Tryd.func8, Tryd.ntmps8
    go_wp2
    go_ret
    exact ⟨rfl, hB0.out⟩
  have h2 : ¬ ((20 : Int) < (n : Int)) := by omega
  go_enter Tryd.func8, Tryd.ntmps8
  go_upto_region 3 with fail
  go_cut [3, 4] (fun s3 s4 wx => ∃ g : Nat, s3 = .pointer (some ⟨g, 0, none⟩) ∧ s4 = .bool ok ∧ Blk wx g 50 #[.int .i64 x0, .int .i64 x1, .int .i64 x2, .int .i64 x3, .int .i64 x4, .int .i64 x5, .int .i64 x6] ∧ w.heap.size + 1 ≤ g ∧ Below (w.heap.size + 1) X wx)
  case first =>
    go_region_held3 (fun w' => w'.cell? ⟨w.heap.size, 0, none⟩ = some (.slice A n c) ∧ w'.cell? ⟨w.heap.size, 1, none⟩ = some (.int .i64 c0) ∧ w'.cell? ⟨w.heap.size, 2, none⟩ = some (.int .i64 c1) ∧ w'.cell? ⟨w.heap.size, 3, none⟩ = some (.int .i64 c2) ∧ w'.cell? ⟨w.heap.size, 4, none⟩ = some (.int .i64 c3) ∧ w'.cell? ⟨w.heap.size, 5, none⟩ = some (.int .i64 c4) ∧ w'.cell? ⟨w.heap.size, 6, none⟩ = some (.int .i64 c5) ∧ w'.cell? ⟨w.heap.size, 7, none⟩ = some (.int .i64 c6) ∧ w'.cell? ⟨w.heap.size, 8, none⟩ = some (.int .i64 lv) ∧ w'.cell? ⟨w.heap.size, 9, none⟩ = some (.int .u64 (lm : Nat)) ∧ w'.cell? ⟨w.heap.size, 10, none⟩ = some (.int .i64 bo))
      (first
          | (refine ⟨?_, ?_, ?_, ?_, ?_, ?_, ?_, ?_, ?_, ?_, ?_⟩ <;> (refine hcell.out _ _ _ ?_ (by simp <;> omega) (by assumption); (repeat (first | with_reducible exact hb3.out | with_reducible exact hb1.out | with_reducible exact Below.refl _ _ | with_reducible refine Below.drew ?_ | (with_reducible refine Below.alloc ?_ ?_ _; rotate_left; · first | omega | (simp <;> omega)) | (with_reducible refine Below.setCell ?_ ?_ _; rotate_left; · first | omega | (simp <;> omega))))))
          | (refine hcell.out _ _ _ ?_ (by simp <;> omega) (by assumption); (repeat (first | with_reducible exact hb3.out | with_reducible exact hb1.out | with_reducible exact Below.refl _ _ | with_reducible refine Below.drew ?_ | (with_reducible refine Below.alloc ?_ ?_ _; rotate_left; · first | omega | (simp <;> omega)) | (with_reducible refine Below.setCell ?_ ?_ _; rotate_left; · first | omega | (simp <;> omega)))))
          | go_keep)
      (first
          | (refine step_append_any _ (by rfl) _ _ _ (by rfl) (w.heap.size + 1) 23 i0 _ 1 8 Tryd.underlying22 hi0 hz0 hz1 hz2 rfl (by decide) (.slice (some ⟨_, 0, none⟩) 0 0) 0 [] (by rfl) ?_ (w.heap.size + 1) A n c (u64s up) (by rfl) ?_ h1.out (by omega) (by omega) ?_ ?_
             · refine own_empty (base := w.heap.size + 1) ?_ ?_
               · (repeat (first  | exact Blk.new_at _ _ _ _ (by first | rfl | (simp <;> omega) | (simp [hsz] <;> omega)) | with_reducible refine Blk.drew ?_ | with_reducible refine Blk.alloc ?_ _))
               · first | omega | (simp <;> omega)
             · exact hrX.out.below (by (repeat (first | with_reducible exact hb3.out | with_reducible exact hb1.out | with_reducible exact Below.refl _ _ | with_reducible refine Below.drew ?_ | (with_reducible refine Below.alloc ?_ ?_ _; rotate_left; · first | omega | (simp <;> omega)) | (with_reducible refine Below.setCell ?_ ?_ _; rotate_left; · first | omega | (simp <;> omega)))))
             · first | omega | (simp <;> omega)
             intro v1 w1 hown1 hg1 hat1
             rw [Nat.zero_add, List.nil_append] at hown1
             obtain ⟨A1, k1, rfl⟩ := ownsRow_slice hown1
             have hb1 : RowKit.Hid (Below (w.heap.size + 1) X w1) := by
               refine Lib.hid (Below.grown (w := _) ?_ hg1 ?_ ?_)
               · (repeat (first | with_reducible exact hb3.out | with_reducible exact hb1.out | with_reducible exact Below.refl _ _ | with_reducible refine Below.drew ?_ | (with_reducible refine Below.alloc ?_ ?_ _; rotate_left; · first | omega | (simp <;> omega)) | (with_reducible refine Below.setCell ?_ ?_ _; rotate_left; · first | omega | (simp <;> omega))))
               · first | omega | (simp <;> omega)
               · intro j hj
                 simp [Value.ownBlock] at hj
                 omega
             have hs1 := hb1.out.size
             have hgr := hg1.size
             have hrA := Lib.hid (Reads.of_own hown1)
             first
               | (refine grown_then (g := ?_) (t := 50) (cs := #[.int .i64 0, .int .i64 0, .int .i64 0, .int .i64 0, .int .i64 0, .int .i64 0, .int .i64 0]) (e := 23) (cs' := #[]) ?_ ?_ hg1 ?_ ?_
                  rotate_left
                  · (repeat (first  | with_reducible exact Blk.new _ _ _ | with_reducible refine Blk.drew ?_ | with_reducible refine Blk.alloc ?_ _))
                  · (repeat (first  | exact Blk.new_at _ _ _ _ (by first | rfl | (simp <;> omega) | (simp [hsz] <;> omega)) | with_reducible refine Blk.drew ?_ | with_reducible refine Blk.alloc ?_ _))
                  · first | (refine .inl ?_; decide) | (refine .inr ?_; decide)
                  intro gL hgL kL
                  try simp [hsz] at hgL
                  subst hgL)
               | skip
             replace hown1 := Lib.hid hown1
             clear hg1 hat1)
          | (go_at_call 23
             refine (hCap.out A1 k1 _ ?_ hn.out hn63 hM.out ?_ hl rfl).mono ?_
             · exact hTX.out.later (by rw [hsz]; (repeat (first | with_reducible exact hb3.out | with_reducible exact hb1.out | with_reducible exact Below.refl _ _ | with_reducible refine Below.drew ?_ | (with_reducible refine Below.alloc ?_ ?_ _; rotate_left; · first | omega | (simp <;> omega)) | (with_reducible refine Below.setCell ?_ ?_ _; rotate_left; · first | omega | (simp <;> omega)))))
             · first | exact hrA.out | exact (hrA.out.alloc (Nat.le_refl _) _).more (by simp)
             rintro e w3 ⟨rfl, hb3'⟩
             have hb3 : RowKit.Hid (Below (w.heap.size + 1) X w3) := by
               refine Lib.hid (Below.trans ?_ (hb3'.mono ?_))
               · (repeat (first | with_reducible exact hb3.out | with_reducible exact hb1.out | with_reducible exact Below.refl _ _ | with_reducible refine Below.drew ?_ | (with_reducible refine Below.alloc ?_ ?_ _; rotate_left; · first | omega | (simp <;> omega)) | (with_reducible refine Below.setCell ?_ ?_ _; rotate_left; · first | omega | (simp <;> omega))))
               · first | omega | (simp <;> omega)
             first
               | (refine below_then (g := ?_) (t := 50) (cs := #[.int .i64 0, .int .i64 0, .int .i64 0, .int .i64 0, .int .i64 0, .int .i64 0, .int .i64 0]) ?_ hb3' ?_
                  rotate_left
                  · (repeat (first | with_reducible exact kL | with_reducible exact Blk.new _ _ _ | with_reducible refine Blk.drew ?_ | with_reducible refine Blk.alloc ?_ _))
                  intro gM hgM kM
                  try simp at hgM
                  subst hgM
                  have kf0 := kM.frozen 0
                  have kc0 := kM.cell 0
                  have kf1 := kM.frozen 1
                  have kc1 := kM.cell 1
                  have kf2 := kM.frozen 2
                  have kc2 := kM.cell 2
                  have kf3 := kM.frozen 3
                  have kc3 := kM.cell 3
                  have kf4 := kM.frozen 4
                  have kc4 := kM.cell 4
                  have kf5 := kM.frozen 5
                  have kc5 := kM.cell 5
                  have kf6 := kM.frozen 6
                  have kc6 := kM.cell 6
                  simp at kc0 kc1 kc2 kc3 kc4 kc5 kc6
                  replace kM := Lib.hid kM)
               | skip
             have hs3 := hb3.out.size
             clear hb3'))
    all_goals (go_wp2_with fail; go_meet)
    all_goals (first | exact ⟨_, rfl, rfl, set7 kM.out _ _ _ _ _ _ _, (by first | omega | (simp <;> omega)), by (repeat (first | with_reducible exact hb3.out | with_reducible exact hb1.out | with_reducible exact Below.refl _ _ | with_reducible refine Below.drew ?_ | (with_reducible refine Below.alloc ?_ ?_ _; rotate_left; · first | omega | (simp <;> omega)) | (with_reducible refine Below.setCell ?_ ?_ _; rotate_left; · first | omega | (simp <;> omega))))⟩ | exact ⟨_, rfl, rfl, Blk.new _ _ _, (by first | omega | (simp <;> omega)), by (repeat (first | with_reducible exact hb3.out | with_reducible exact hb1.out | with_reducible exact Below.refl _ _ | with_reducible refine Below.drew ?_ | (with_reducible refine Below.alloc ?_ ?_ _; rotate_left; · first | omega | (simp <;> omega)) | (with_reducible refine Below.setCell ?_ ?_ _; rotate_left; · first | omega | (simp <;> omega))))⟩)
  case rest =>
    obtain ⟨g, rfl, rfl, kg, hgs, hV⟩ := hcut
    obtain ⟨w4, hV0, rfl⟩ : ∃ V, Below (w.heap.size + 1) X V ∧ V = _ := ⟨_, hV, rfl⟩
    clear hV0
    have hVs := hV.size
    have hVs' : w.heap.size + 1 ≤ w4.heap.size := by omega
    have kgl := kg.lt
    have hrV := Lib.hid (show Reads w4 w4.heap.size 1 A n (u64s up) from (hrX.out.below hV).more (by omega))
    have hTV := Lib.hid (hTX.out.later (hsz.symm ▸ hV))
    have hb4 := Lib.hid (Below.refl w4.heap.size w4)
    have hcellV := Lib.hid (fun (W : World) (p : Addr) (v : Value) (h : Below w4.heap.size w4 W) (hp : p.block < w4.heap.size) (hv : w4.cell? p = some v) => (h.cell hp).trans hv)
    have z0 := hcell.out _ _ _ hV (by simp) p0
    have z1 := hcell.out _ _ _ hV (by simp) p1
    have z2 := hcell.out _ _ _ hV (by simp) p2
    have z3 := hcell.out _ _ _ hV (by simp) p3
    have z4 := hcell.out _ _ _ hV (by simp) p4
    have z5 := hcell.out _ _ _ hV (by simp) p5
    have z6 := hcell.out _ _ _ hV (by simp) p6
    have z7 := hcell.out _ _ _ hV (by simp) p7
    have z8 := hcell.out _ _ _ hV (by simp) p8
    have z9 := hcell.out _ _ _ hV (by simp) p9
    have z10 := hcell.out _ _ _ hV (by simp) p10
    have z11 := kg.cell 0
    have z12 := kg.cell 1
    have z13 := kg.cell 2
    have z14 := kg.cell 3
    have z15 := kg.cell 4
    have z16 := kg.cell 5
    have z17 := kg.cell 6
    simp at z11 z12 z13 z14 z15 z16 z17
    have hcsV := Lib.hid (reads_at (W := w4) (g := w.heap.size) (o := 1) (cs := ints [c0, c1, c2, c3, c4, c5, c6]) 7 rfl (by omega) (by
      intro j u hu
      match j, hu with
      | 0, h => cases h; exact z1
      | 1, h => cases h; exact z2
      | 2, h => cases h; exact z3
      | 3, h => cases h; exact z4
      | 4, h => cases h; exact z5
      | 5, h => cases h; exact z6
      | 6, h => cases h; exact z7
      | j + 7, h => cases h))
    have hone : RowKit.Hid (∀ u ∈ [Value.int .i64 bo], u.oneCell' = true) := Lib.hid (by intro u hu; rw [List.mem_singleton] at hu; subst hu; rfl)
    replace hV := Lib.hid hV
    replace kg := Lib.hid kg
    have hRI := fun (W : World) (hr : Reads W W.heap.size 1 A n (u64s up)) => rright_any A n c up W hn.out hn63 hM.out hr
    have hFI := fun (W : World) => rfits_any A n c up ⟨lv, lm⟩ 7 W hn.out hl
    simp only [lbV] at hFI
    have hal : ([c0, c1, c2, c3, c4, c5, c6] ++ [bo]).all (goodB up) = true ↔ (∀ k ∈ [c0, c1, c2, c3, c4, c5, c6], goodB up k = true) ∧ goodB up bo = true := by
      rw [List.all_append, Bool.and_eq_true, List.all_eq_true]
      simp
    clear hcell p0 p1 p2 p3 p4 p5 p6 p7 p8 p9 p10
    go_upto_region 4 with fail
    go_cut [48] (fun s48 wx => s48 = .bool (!ok) ∧ Below w4.heap.size w4 wx)
    case first =>
      cases hla : latB up with
      | false =>
        have hok : ok = false := by
          cases h : ok with
          | false => rfl
          | true => have := (hcok.out.1 h).1; rw [hla] at this; cases this
        rw [hla] at hRI
        replace hRI := Lib.hid hRI
        replace hFI := Lib.hid hFI
        replace hal := Lib.hid hal
        replace hla := Lib.hid hla
        replace hok := Lib.hid hok
        obtain ⟨XT, f, hfb, hfall⟩ := class_below w4.heap.size w4
        have hx0 : ∃ y, f y = w4.drew := hfall _ (by
          have := below_drewNs (Below.refl w4.heap.size w4) 1
          exact this)
        have hne : Nonempty XT := hx0.elim fun y _ => ⟨y⟩
        have hsW := hb4.out.size
        have d0 := fun y => ((hfb y).cell (by simp <;> omega)).trans z0
        have d1 := fun y => ((hfb y).cell (by simp <;> omega)).trans z1
        have d2 := fun y => ((hfb y).cell (by simp <;> omega)).trans z2
        have d3 := fun y => ((hfb y).cell (by simp <;> omega)).trans z3
        have d4 := fun y => ((hfb y).cell (by simp <;> omega)).trans z4
        have d5 := fun y => ((hfb y).cell (by simp <;> omega)).trans z5
        have d6 := fun y => ((hfb y).cell (by simp <;> omega)).trans z6
        have d7 := fun y => ((hfb y).cell (by simp <;> omega)).trans z7
        have d8 := fun y => ((hfb y).cell (by simp <;> omega)).trans z8
        have d9 := fun y => ((hfb y).cell (by simp <;> omega)).trans z9
        have d10 := fun y => ((hfb y).cell (by simp <;> omega)).trans z10
        have hB7 := Lib.hid (fun y => hb4.out.trans ((hfb y).mono hsW))
        have hR7 := Lib.hid (fun y => (hrV.out.below (hB7.out y)).more (hB7.out y).size)
        have hT7 := Lib.hid (fun y => hTV.out.later (hB7.out y))
        replace hfb := Lib.hid hfb
        replace hfall := Lib.hid hfall
        refine (wpIn_wide (n := 20)).1 ?_
        refine wpIn_region_class f 26 [true, true, true, true, true, true, true, true, true, true, true, true, true, true, true, true, true, true, true, true, true, true, true, true, true, true] hx0 (by kernel_rfl) (by kernel_rfl) ?_
        (simp only [List.take_succ_cons, List.take_zero]; (repeat (first | gi_big_quiet_step (fail) | (refine wpQuietIn_pass (fun _ _ _ _ => trivial) (by rfl) rfl ?_; simp only [List.setIfInBounds_toArray, List.set_cons_succ, List.set_cons_zero]) | (refine wpQuietIn_step (fun _ _ _ _ => trivial) ?_; intro K hK; refine Eq.mpr (if_pos (by rfl)) ?_; gi_big_quiet_op; gi_big_quiet_call ((first | (gi_at_call 11; with_reducible exact class_law hfall.out (hfb.out _) (hfb.out _).size (callsIn_wide.2 (hRI.out _ (hR7.out _))))))))); refine wpQuietIn_nil ?_)
        rintro W' ⟨y, rfl⟩
        have hb8 := Lib.hid (hB7.out y)
        clear d0 d1 d2 d3 d4 d5 d6 d7 d8 d9 d10 hR7 hT7 hB7
        generalize f y = w8 at *
        refine wpAnyIn_end (by kernel_rfl) ?_
        go_wp2
        go_meet
        exact ⟨by rw [hok.out]; rfl, hb8.out⟩
      | true =>
        rw [hla] at hRI
        cases hfi : (goodB up lv && fitsB lm 7) with
        | false =>
          have hok : ok = false := by
            cases h : ok with
            | false => rfl
            | true =>
              have h5 := hcok.out.1 h
              rw [h5.2.2.2.1, h5.2.2.2.2] at hfi
              cases hfi
          rw [hfi] at hFI
          replace hRI := Lib.hid hRI
          replace hFI := Lib.hid hFI
          replace hal := Lib.hid hal
          replace hla := Lib.hid hla
          replace hfi := Lib.hid hfi
          replace hok := Lib.hid hok
          obtain ⟨XT, f, hfb, hfall⟩ := class_below w4.heap.size w4
          have hx0 : ∃ y, f y = w4.drew := hfall _ (by
            have := below_drewNs (Below.refl w4.heap.size w4) 1
            exact this)
          have hne : Nonempty XT := hx0.elim fun y _ => ⟨y⟩
          have hsW := hb4.out.size
          have d0 := fun y => ((hfb y).cell (by simp <;> omega)).trans z0
          have d1 := fun y => ((hfb y).cell (by simp <;> omega)).trans z1
          have d2 := fun y => ((hfb y).cell (by simp <;> omega)).trans z2
          have d3 := fun y => ((hfb y).cell (by simp <;> omega)).trans z3
          have d4 := fun y => ((hfb y).cell (by simp <;> omega)).trans z4
          have d5 := fun y => ((hfb y).cell (by simp <;> omega)).trans z5
          have d6 := fun y => ((hfb y).cell (by simp <;> omega)).trans z6
          have d7 := fun y => ((hfb y).cell (by simp <;> omega)).trans z7
          have d8 := fun y => ((hfb y).cell (by simp <;> omega)).trans z8
          have d9 := fun y => ((hfb y).cell (by simp <;> omega)).trans z9
          have d10 := fun y => ((hfb y).cell (by simp <;> omega)).trans z10
          have hB7 := Lib.hid (fun y => hb4.out.trans ((hfb y).mono hsW))
          have hR7 := Lib.hid (fun y => (hrV.out.below (hB7.out y)).more (hB7.out y).size)
          have hT7 := Lib.hid (fun y => hTV.out.later (hB7.out y))
          replace hfb := Lib.hid hfb
          replace hfall := Lib.hid hfall
          refine (wpIn_wide (n := 20)).1 ?_
          refine wpIn_region_class f 26 [true, true, true, true, true, true, true, true, true, true, true, true, true, true, true, true, true, true, true, true, true, true, true, true, true, true] hx0 (by kernel_rfl) (by kernel_rfl) ?_
          (simp only [List.take_succ_cons, List.take_zero]; (repeat (first | gi_big_quiet_step (fail) | (refine wpQuietIn_pass (fun _ _ _ _ => trivial) (by rfl) rfl ?_; simp only [List.setIfInBounds_toArray, List.set_cons_succ, List.set_cons_zero]) | (refine wpQuietIn_step (fun _ _ _ _ => trivial) ?_; intro K hK; refine Eq.mpr (if_pos (by rfl)) ?_; gi_big_quiet_op; gi_big_quiet_call ((first | (gi_at_call 11; with_reducible exact class_law hfall.out (hfb.out _) (hfb.out _).size (callsIn_wide.2 (hRI.out _ (hR7.out _)))) | (gi_at_call 12; with_reducible exact class_law hfall.out (hfb.out _) (hfb.out _).size (callsIn_wide.2 (hFI.out _)))))))); refine wpQuietIn_nil ?_)
          rintro W' ⟨y, rfl⟩
          have hb8 := Lib.hid (hB7.out y)
          clear d0 d1 d2 d3 d4 d5 d6 d7 d8 d9 d10 hR7 hT7 hB7
          generalize f y = w8 at *
          refine wpAnyIn_end (by kernel_rfl) ?_
          go_wp2
          go_meet
          exact ⟨by rw [hok.out]; rfl, hb8.out⟩
        | true =>
          have hok : ok = ([c0, c1, c2, c3, c4, c5, c6] ++ [bo]).all (goodB up) := by
            rw [Bool.eq_iff_iff, hal, hcok.out]
            rw [Bool.and_eq_true] at hfi
            exact ⟨fun h => ⟨h.2.1, h.2.2.1⟩, fun h => ⟨hla, h.1, h.2, hfi.1, hfi.2⟩⟩
          rw [hfi] at hFI
          have hLE := fun (B : Option Addr) (d : Nat) (W : World) (hr : Reads W W.heap.size 1 B 8 (ints ([c0, c1, c2, c3, c4, c5, c6] ++ [bo]))) => levels_any A n c up B 8 d ([c0, c1, c2, c3, c4, c5, c6] ++ [bo]) W hn.out (by omega) rfl hr
          generalize ([c0, c1, c2, c3, c4, c5, c6] ++ [bo]).all (goodB up) = lev at *
          replace hLE := Lib.hid hLE
          replace hok := Lib.hid hok
          replace hRI := Lib.hid hRI
          replace hFI := Lib.hid hFI
          replace hal := Lib.hid hal
          replace hla := Lib.hid hla
          replace hfi := Lib.hid hfi
          go_region_held3 (fun w' => w'.cell? ⟨w.heap.size, 0, none⟩ = some (.slice A n c) ∧ w'.cell? ⟨w.heap.size, 8, none⟩ = some (.int .i64 lv) ∧ w'.cell? ⟨w.heap.size, 9, none⟩ = some (.int .u64 (lm : Nat)) ∧ w'.cell? ⟨w.heap.size, 10, none⟩ = some (.int .i64 bo))
              (first
                | (refine hcellV.out _ _ _ ?_ (by simp <;> omega) (by assumption); (repeat (first | with_reducible exact hb8.out | with_reducible exact hb7.out | with_reducible exact hb6.out | with_reducible exact hb5.out | with_reducible exact Below.refl _ _ | with_reducible refine Below.drew ?_ | (with_reducible refine Below.alloc ?_ ?_ _; rotate_left; · first | omega | (simp <;> omega)) | (with_reducible refine Below.setCell ?_ ?_ _; rotate_left; · first | omega | (simp <;> omega)))))
                | (refine ⟨?_, ?_, ?_, ?_⟩ <;> (refine hcellV.out _ _ _ ?_ (by simp <;> omega) (by assumption); (repeat (first | with_reducible exact hb8.out | with_reducible exact hb7.out | with_reducible exact hb6.out | with_reducible exact hb5.out | with_reducible exact Below.refl _ _ | with_reducible refine Below.drew ?_ | (with_reducible refine Below.alloc ?_ ?_ _; rotate_left; · first | omega | (simp <;> omega)) | (with_reducible refine Below.setCell ?_ ?_ _; rotate_left; · first | omega | (simp <;> omega))))))
                | go_keep)
              (first
                | (go_at_call 11
                   refine (hRI.out w4.drew ?_).mono ?_
                   · exact hrV.out
                   rintro e w5 ⟨rfl, hb5'⟩
                   have hb5 : RowKit.Hid (Below w4.heap.size w4 w5) := Lib.hid (Below.trans (Below.refl _ _).drew hb5')
                   have hs5 := hb5.out.size
                   clear hb5')
                | (go_at_call 12
                   refine (hFI.out w5).mono ?_
                   rintro e w6 ⟨rfl, hb6'⟩
                   have hb6 : RowKit.Hid (Below w4.heap.size w4 w6) := Lib.hid (hb5.out.trans (hb6'.mono hs5))
                   have hs6 := hb6.out.size
                   clear hb6')
                | (refine step_append_gd (by rfl) _ _ _ (by rfl) w4.heap.size 3 j0 _ 1 8 Tryd.underlying37 hj0 hjz0 hjz1 hjz2 rfl (by decide) (.slice (some ⟨_, 0, none⟩) 0 0) 0 [] (by rfl) ?_ w4.heap.size (some ⟨w.heap.size, 1, none⟩) 7 7 (ints [c0, c1, c2, c3, c4, c5, c6]) (by rfl) ?_ h1z.out (by omega) (by omega) ?_ ?_
                   · refine own_empty (base := w4.heap.size) ?_ ?_
                     · (repeat (first  | exact Blk.new_at _ _ _ _ (by first | rfl | (simp <;> omega)) | with_reducible refine Blk.drew ?_ | with_reducible refine Blk.alloc ?_ _))
                     · first | omega | (simp <;> omega)
                   · exact hcsV.out.below (by (repeat (first | with_reducible exact hb8.out | with_reducible exact hb7.out | with_reducible exact hb6.out | with_reducible exact hb5.out | with_reducible exact Below.refl _ _ | with_reducible refine Below.drew ?_ | (with_reducible refine Below.alloc ?_ ?_ _; rotate_left; · first | omega | (simp <;> omega)) | (with_reducible refine Below.setCell ?_ ?_ _; rotate_left; · first | omega | (simp <;> omega)))))
                   · first | omega | (simp <;> omega)
                   intro v7 w7 hown7 hg7 hat7
                   rw [Nat.zero_add, List.nil_append] at hown7
                   obtain ⟨A7, k7, rfl⟩ := ownsRow_slice hown7
                   have hb7 : RowKit.Hid (Below w4.heap.size w4 w7) := by
                     refine Lib.hid (Below.grown (w := _) ?_ hg7 ?_ ?_)
                     · (repeat (first | with_reducible exact hb8.out | with_reducible exact hb7.out | with_reducible exact hb6.out | with_reducible exact hb5.out | with_reducible exact Below.refl _ _ | with_reducible refine Below.drew ?_ | (with_reducible refine Below.alloc ?_ ?_ _; rotate_left; · first | omega | (simp <;> omega)) | (with_reducible refine Below.setCell ?_ ?_ _; rotate_left; · first | omega | (simp <;> omega))))
                     · first | omega | (simp <;> omega)
                     · intro j hj
                       simp [Value.ownBlock] at hj
                       omega
                   have hs7 := hb7.out.size
                   first
                     | (refine grown_then (g := ?_) (t := 3) (cs := #[.int .i64 bo]) (e := 3) (cs' := #[]) ?_ ?_ hg7 ?_ ?_
                        rotate_left
                        · (repeat (first  | with_reducible exact Blk.new _ _ _ | with_reducible refine Blk.drew ?_ | with_reducible refine Blk.alloc ?_ _))
                        · (repeat (first  | exact Blk.new_at _ _ _ _ (by first | rfl | (simp <;> omega)) | with_reducible refine Blk.drew ?_ | with_reducible refine Blk.alloc ?_ _))
                        · (refine .inr ?_; simp)
                        intro gL hgL kB
                        try simp at hgL
                        subst hgL)
                     | skip
                   replace hown7 := Lib.hid hown7
                   clear hg7 hat7)
                | (refine step_append_blk (by rfl) _ _ _ (by rfl) w4.heap.size 3 j0 _ 8 Tryd.underlying37 hj0 hjz0 hjz1 hjz2 rfl (.slice A7 7 k7) 7 (ints [c0, c1, c2, c3, c4, c5, c6]) (by rfl) ?_ _ (.int .i64 bo) (by rfl) ?_ rfl (by omega) (by omega) ?_ ?_
                   · (repeat (first | with_reducible exact hown7.out | with_reducible refine World.ownsRow.alloc ?_ _ | with_reducible refine World.ownsRow.drew ?_))
                   · (repeat (first | exact kB | exact Blk.new_at _ _ _ _ (by first | rfl | (simp <;> omega)) | with_reducible refine Blk.drew ?_ | with_reducible refine Blk.alloc ?_ _))
                   · first | omega | (simp <;> omega)
                   intro v8 w8 hown8 hg8 hat8
                   obtain ⟨A8, k8, rfl⟩ := ownsRow_slice hown8
                   have hb8 : RowKit.Hid (Below w4.heap.size w4 w8) := by
                     refine Lib.hid (Below.grown (w := _) ?_ hg8 ?_ ?_)
                     · (repeat (first | with_reducible exact hb8.out | with_reducible exact hb7.out | with_reducible exact hb6.out | with_reducible exact hb5.out | with_reducible exact Below.refl _ _ | with_reducible refine Below.drew ?_ | (with_reducible refine Below.alloc ?_ ?_ _; rotate_left; · first | omega | (simp <;> omega)) | (with_reducible refine Below.setCell ?_ ?_ _; rotate_left; · first | omega | (simp <;> omega))))
                     · first | omega | (simp <;> omega)
                     · exact ownsRow_base hown7.out
                   have hs8 := hb8.out.size
                   have hrd8 := Lib.hid (Reads.of_own hown8)
                   clear hg8 hat8 hown8)
                | (go_at_call 17
                   refine (hLE.out A8 k8 w8 hrd8.out).mono ?_
                   rintro e w9 ⟨rfl, rfl⟩))
          all_goals (go_wp2_with fail; go_meet)
          all_goals exact ⟨by rw [hok.out], hb8.out⟩
    case rest =>
      obtain ⟨rfl, hb5⟩ := hcut
      obtain ⟨w5, hV0, rfl⟩ : ∃ V, Below w4.heap.size w4 V ∧ V = _ := ⟨_, hb5, rfl⟩
      clear hV0
      replace hb5 := Lib.hid hb5
      have z0_5 := hcellV.out _ _ _ hb5.out (by simp <;> omega) z0
      have z1_5 := hcellV.out _ _ _ hb5.out (by simp <;> omega) z1
      have z2_5 := hcellV.out _ _ _ hb5.out (by simp <;> omega) z2
      have z3_5 := hcellV.out _ _ _ hb5.out (by simp <;> omega) z3
      have z4_5 := hcellV.out _ _ _ hb5.out (by simp <;> omega) z4
      have z5_5 := hcellV.out _ _ _ hb5.out (by simp <;> omega) z5
      have z6_5 := hcellV.out _ _ _ hb5.out (by simp <;> omega) z6
      have z7_5 := hcellV.out _ _ _ hb5.out (by simp <;> omega) z7
      have z8_5 := hcellV.out _ _ _ hb5.out (by simp <;> omega) z8
      have z9_5 := hcellV.out _ _ _ hb5.out (by simp <;> omega) z9
      have z10_5 := hcellV.out _ _ _ hb5.out (by simp <;> omega) z10
      have z11_5 := hcellV.out _ _ _ hb5.out (by simp <;> omega) z11
      have z12_5 := hcellV.out _ _ _ hb5.out (by simp <;> omega) z12
      have z13_5 := hcellV.out _ _ _ hb5.out (by simp <;> omega) z13
      have z14_5 := hcellV.out _ _ _ hb5.out (by simp <;> omega) z14
      have z15_5 := hcellV.out _ _ _ hb5.out (by simp <;> omega) z15
      have z16_5 := hcellV.out _ _ _ hb5.out (by simp <;> omega) z16
      have z17_5 := hcellV.out _ _ _ hb5.out (by simp <;> omega) z17
      clear z0 z1 z2 z3 z4 z5 z6 z7 z8 z9 z10 z11 z12 z13 z14 z15 z16 z17
      cases hk : ok with
      | false =>
        have hxe := hc1.out hk
        simp only [List.cons.injEq, and_true] at hxe
        obtain ⟨rfl, rfl, rfl, rfl, rfl, rfl, rfl⟩ := hxe
        replace hk := Lib.hid hk
        go_wp2_with fail
        refine (awake_any w5 (hTV.out.later hb5.out)).mono ?_
        rintro e w6 ⟨rfl, hb⟩
        have hb6 := Lib.hid (hb5.out.trans (hb.mono hb5.out.size))
        clear hb
        go_wp2_with fail
        go_ret
        exact ⟨rfl, hB0.out.trans ((hV.out.mono (by omega)).trans (hb6.out.mono (by omega)))⟩
      | true =>
        have hxe := hc2.out hk
        have hRP := fun (W : World) (hr : Reads W W.heap.size 1 A n (u64s up)) => hRC.out W hr hk
        rw [← hxe] at hRP
        simp only [lbV, ints, List.map_cons, List.map_nil] at hRP
        replace hRP := Lib.hid hRP
        replace hxe := Lib.hid hxe
        replace hk := Lib.hid hk
        go_wp2_with fail
        obtain ⟨XT, f, hfb, hfall⟩ := class_below w5.heap.size w5
        have hx0 : ∃ y, f y = w5.drew := hfall _ (by
          have := below_drewNs (Below.refl w5.heap.size w5) 1
          exact this)
        have hne : Nonempty XT := hx0.elim fun y _ => ⟨y⟩
        have hsW := hb5.out.size
        have d0 := fun y => ((hfb y).cell (by simp <;> omega)).trans z0_5
        have d1 := fun y => ((hfb y).cell (by simp <;> omega)).trans z1_5
        have d2 := fun y => ((hfb y).cell (by simp <;> omega)).trans z2_5
        have d3 := fun y => ((hfb y).cell (by simp <;> omega)).trans z3_5
        have d4 := fun y => ((hfb y).cell (by simp <;> omega)).trans z4_5
        have d5 := fun y => ((hfb y).cell (by simp <;> omega)).trans z5_5
        have d6 := fun y => ((hfb y).cell (by simp <;> omega)).trans z6_5
        have d7 := fun y => ((hfb y).cell (by simp <;> omega)).trans z7_5
        have d8 := fun y => ((hfb y).cell (by simp <;> omega)).trans z8_5
        have d9 := fun y => ((hfb y).cell (by simp <;> omega)).trans z9_5
        have d10 := fun y => ((hfb y).cell (by simp <;> omega)).trans z10_5
        have d11 := fun y => ((hfb y).cell (by simp <;> omega)).trans z11_5
        have d12 := fun y => ((hfb y).cell (by simp <;> omega)).trans z12_5
        have d13 := fun y => ((hfb y).cell (by simp <;> omega)).trans z13_5
        have d14 := fun y => ((hfb y).cell (by simp <;> omega)).trans z14_5
        have d15 := fun y => ((hfb y).cell (by simp <;> omega)).trans z15_5
        have d16 := fun y => ((hfb y).cell (by simp <;> omega)).trans z16_5
        have d17 := fun y => ((hfb y).cell (by simp <;> omega)).trans z17_5
        have hB7 := Lib.hid (fun y => hb5.out.trans ((hfb y).mono hsW))
        have hR7 := Lib.hid (fun y => (hrV.out.below (hB7.out y)).more (hB7.out y).size)
        have hT7 := Lib.hid (fun y => hTV.out.later (hB7.out y))
        replace hfb := Lib.hid hfb
        replace hfall := Lib.hid hfall
        refine (wpIn_wide (n := 20)).1 ?_
        refine wpIn_region_class f 18 [true, true, true, true, true, true, true, true, true, true, true, true, true, true, true, true, true, true] hx0 (by kernel_rfl) (by kernel_rfl) ?_
        (simp only [List.take_succ_cons, List.take_zero]; (repeat (first | gi_big_quiet_step (fail) | (refine wpQuietIn_pass (fun _ _ _ _ => trivial) (by rfl) rfl ?_; simp only [List.setIfInBounds_toArray, List.set_cons_succ, List.set_cons_zero]) | (refine wpQuietIn_step (fun _ _ _ _ => trivial) ?_; intro K hK; refine Eq.mpr (if_pos (by rfl)) ?_; gi_big_quiet_op; gi_big_quiet_call ((first | (gi_at_call 24; with_reducible exact class_law hfall.out (hfb.out _) (hfb.out _).size (callsIn_wide.2 (hRP.out _ (hR7.out _)))) | (gi_at_call 14; with_reducible exact class_law hfall.out (hfb.out _) (hfb.out _).size (callsIn_wide.2 (awake_any _ (hT7.out _))))))))); refine wpQuietIn_nil ?_)
        rintro W' ⟨y, rfl⟩
        have hb8 := Lib.hid (hB7.out y)
        clear d0 d1 d2 d3 d4 d5 d6 d7 d8 d9 d10 d11 d12 d13 d14 d15 d16 d17 hR7 hT7 hB7
        generalize f y = w8 at *
        refine wpAnyIn_end (by kernel_rfl) ?_
        go_wp2
        go_ret
        exact ⟨rfl, hB0.out.trans ((hV.out.mono (by omega)).trans (hb8.out.mono (by omega)))⟩

end Go.Proofs.YtfloonpchjbmnaaDoor
