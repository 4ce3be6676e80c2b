/- The walk of SymPuts. -/
import Derived.Deep.RegionHeld3
import Derived.Deep.DeepCutAuto
import Derived.Test.YtfloonpchjbmnaaDoorSymLowsW
import Derived.Test.YtfloonpchjbmnaaDoorSq
namespace Go.Proofs.YtfloonpchjbmnaaDoor
open Go.RowKit Go.Shelf Go.Idl
attribute [local go_sem] label_equalIn

theorem grown_ne {W w' : World} {g g' : Nat} {t e : TypeId} {cs cs' : Array Value} (k : Blk W g t cs) (k2 : Blk W g' e cs') (hg : W.grownBy w' (Value.slice (some ⟨g', 0, none⟩) 0 0).ownBlock) (hne : t ≠ e ∨ cs.size ≠ cs'.size) : Blk w' g t cs := by
  refine k.grown hg ?_
  intro he
  have he : g = g' := by simpa [Value.ownBlock] using he
  subst he
  unfold Blk at k k2
  rw [k] at k2
  injection k2 with k2
  injection k2 with h1 h2
  rcases hne with h | h
  · exact h h2
  · exact h (by rw [h1])
theorem grown_then {P : Prop} {W w' : World} {g g' : Nat} {t e : TypeId} {cs cs' : Array Value} (k : Blk W g t cs) (k2 : Blk W g' e cs') (hg : W.grownBy w' (Value.slice (some ⟨g', 0, none⟩) 0 0).ownBlock) (hne : t ≠ e ∨ cs.size ≠ cs'.size) (h : ∀ i, i = g → Blk w' i t cs → P) : P := h g rfl (grown_ne k k2 hg hne)
theorem below_then {P : Prop} {W w' : World} {g : Nat} {t : TypeId} {cs : Array Value} (k : Blk W g t cs) (hb : Below W.heap.size W w') (h : ∀ i, i = g → Blk w' i t cs → P) : P := h g rfl (k.below hb k.lt)
theorem row_keep {W w2 : World} {b g : Nat} {e e' : TypeId} {A1 : Option Addr} {n c1 s : Nat} {cs : Array Value} {xs : List Value} (h : W.ownsRow b e s (.slice A1 n c1) n xs) (k : Blk W g e' cs) (hg : W.grownBy w2 (Value.slice (some ⟨g, 0, none⟩) 0 0).ownBlock) (hne : e ≠ e') : w2.ownsRow b e s (.slice A1 n c1) n xs :=
  World.ownsRow.kept h hg (.inr (own_blk_ne h k hne))

theorem lbVals_one (l : List Lb) : ∀ u ∈ lbVals l, u.oneCell' = true := by
  induction l with
  | nil => intro u hu; cases hu
  | cons q r ih =>
    intro u hu
    have e : lbVals (q :: r) = .int .i64 q.lv :: .int .u64 (q.ms : Nat) :: lbVals r := rfl
    rw [e] at hu
    rcases List.mem_cons.1 hu with rfl | hu
    · rfl
    · rcases List.mem_cons.1 hu with rfl | hu
      · rfl
      · exact ih u hu

set_option maxHeartbeats 8000000 in
set_option maxRecDepth 100000 in
theorem walkSymPuts (A : Option Addr) (n c : Nat) (up : List Nat) (l : Lb) (Z : Option Addr) (m d : Nat) (args : List Lb) (pc : Lb) (w : World) (hT : Tab w) (hn : up.length = n) (hn63 : n ≤ maxLen) (hM : Masks up) (hr : Reads w w.heap.size 1 A n (u64s up)) (hl : l.ms < 2 ^ 64) (hpc : pc.ms < 2 ^ 64)
    (ham : args.length = m) (hm63 : m ≤ maxLen) (hz : Reads w w.heap.size 2 Z m (lbVals args)) (hlm : Lms args) :
    Calls Tryd.prog 3 #[.agg #[.slice A n c, .int .i64 l.lv, .int .u64 (l.ms : Nat), .slice Z m d, .int .i64 pc.lv, .int .u64 (pc.ms : Nat)]] w fun e w' => e = .returned (.bool true) ∧ Below w.heap.size w w' := by
  have hml : maxLen = 9223372036854775807 := rfl
  obtain ⟨lv, lm⟩ := l
  obtain ⟨pv, pm⟩ := pc
  dsimp only at hl hpc ⊢

  obtain ⟨X, hX⟩ : ∃ X, w.alloc (.cells #[.slice A n c, .int .i64 lv, .int .u64 (lm : Nat), .slice Z m d, .int .i64 pv, .int .u64 (pm : Nat)] 28) = X := ⟨_, rfl⟩
  have k0 : Blk X w.heap.size 28 #[.slice A n c, .int .i64 lv, .int .u64 (lm : Nat), .slice Z m d, .int .i64 pv, .int .u64 (pm : Nat)] := by rw [← hX]; exact Blk.new w _ _
  have hsz : X.heap.size = w.heap.size + 1 := by rw [← hX]; simp
  have hB0 : Below w.heap.size w X := by rw [← hX]; exact (Below.refl _ w).alloc (Nat.le_refl _) _
  have p0 := k0.cell 0
  have p1 := k0.cell 1
  have p2 := k0.cell 2
  have p3 := k0.cell 3
  have p4 := k0.cell 4
  have p5 := k0.cell 5
  simp at p0 p1 p2 p3 p4 p5
  obtain ⟨i0, hi0, hz0, hz1, hz2⟩ := info_parts u64_info
  obtain ⟨j0, hj0, hjz0, hjz1, hjz2⟩ := info_parts label_info
  have h1 := Lib.hid (u64s_one up)
  have h1z := Lib.hid (lbVals_one args)
  have hrX := Lib.hid (show Reads X (w.heap.size + 1) 1 A n (u64s up) from (hr.below hB0).more (by omega))
  have hzX := Lib.hid (show Reads X (w.heap.size + 1) 2 Z m (lbVals args) from (hz.below hB0).more (by omega))
  have hTX := Lib.hid (hT.later hB0)
  have hcell := Lib.hid (fun (W : World) (p : Addr) (v : Value) (h : Below (w.heap.size + 1) X W) (hp : p.block < w.heap.size + 1) (hv : X.cell? p = some v) => (h.cell hp).trans hv)
  replace hr := Lib.hid hr
  replace hz := Lib.hid hz
  replace hT := Lib.hid hT
  replace hn := Lib.hid hn
  replace hM := Lib.hid hM
  replace k0 := Lib.hid k0
  replace hB0 := Lib.hid hB0
  replace ham := Lib.hid ham
  replace hlm := Lib.hid hlm
  by_cases hbig : 20 < n
  · have h2 : ((20 : Int) < (n : Int)) := by omega
    go_enter Tryd.func3, Tryd.ntmps3
    go_wp2
    go_ret
    exact ⟨rfl, hB0.out⟩
  have h2 : ¬ ((20 : Int) < (n : Int)) := by omega
  by_cases hbig2 : 10 < m
  · have h3 : ((10 : Int) < (m : Int)) := by omega
    go_enter Tryd.func3, Tryd.ntmps3
    go_wp2
    go_ret
    exact ⟨rfl, hB0.out⟩
  have h3 : ¬ ((10 : Int) < (m : Int)) := by omega
  go_enter Tryd.func3, Tryd.ntmps3
  go_upto_region 3 with fail
  go_cut [3, 4] (fun s3 s4 wx => ∃ g : Nat, s3 = .pointer (some ⟨g, 0, none⟩) ∧ s4 = .bool (putOk up ⟨lv, lm⟩ args ⟨pv, pm⟩) ∧ Blk wx g 25 #[.int .i64 (putL up ⟨lv, lm⟩ args ⟨pv, pm⟩).lv, .int .u64 ((putL up ⟨lv, lm⟩ args ⟨pv, pm⟩).ms : Nat)] ∧ w.heap.size + 1 ≤ g ∧ Below (w.heap.size + 1) X wx)
  case first =>
    go_region_held3 (fun w' => w'.cell? ⟨w.heap.size, 0, none⟩ = some (.slice A n c) ∧ w'.cell? ⟨w.heap.size, 1, none⟩ = some (.int .i64 lv) ∧ w'.cell? ⟨w.heap.size, 2, none⟩ = some (.int .u64 (lm : Nat)) ∧ w'.cell? ⟨w.heap.size, 3, none⟩ = some (.slice Z m d) ∧ w'.cell? ⟨w.heap.size, 4, none⟩ = some (.int .i64 pv) ∧ w'.cell? ⟨w.heap.size, 5, none⟩ = some (.int .u64 (pm : Nat)))
      (first
          | (refine ⟨?_, ?_, ?_, ?_, ?_, ?_⟩ <;> (refine hcell.out _ _ _ ?_ (by simp <;> omega) (by assumption); (repeat (first | with_reducible exact hb3.out | with_reducible exact hb2.out | with_reducible exact hb1.out | with_reducible exact Below.refl _ _ | with_reducible refine Below.drew ?_ | (with_reducible refine Below.alloc ?_ ?_ _; rotate_left; · first | omega | (simp <;> omega)) | (with_reducible refine Below.setCell ?_ ?_ _; rotate_left; · first | omega | (simp <;> omega))))))
          | (refine ⟨?_, ?_⟩ <;> (refine hcell.out _ _ _ ?_ (by simp <;> omega) (by assumption); (repeat (first | with_reducible exact hb3.out | with_reducible exact hb2.out | with_reducible exact hb1.out | with_reducible exact Below.refl _ _ | with_reducible refine Below.drew ?_ | (with_reducible refine Below.alloc ?_ ?_ _; rotate_left; · first | omega | (simp <;> omega)) | (with_reducible refine Below.setCell ?_ ?_ _; rotate_left; · first | omega | (simp <;> omega))))))
          | (refine hcell.out _ _ _ ?_ (by simp <;> omega) (by assumption); (repeat (first | with_reducible exact hb3.out | with_reducible exact hb2.out | with_reducible exact hb1.out | with_reducible exact Below.refl _ _ | with_reducible refine Below.drew ?_ | (with_reducible refine Below.alloc ?_ ?_ _; rotate_left; · first | omega | (simp <;> omega)) | (with_reducible refine Below.setCell ?_ ?_ _; rotate_left; · first | omega | (simp <;> omega)))))
          | go_keep)
      (first
          | (refine step_append_any _ (by rfl) _ _ _ (by rfl) (w.heap.size + 1) 23 i0 _ 1 8 Tryd.underlying22 hi0 hz0 hz1 hz2 rfl (by decide) (.slice (some ⟨_, 0, none⟩) 0 0) 0 [] (by rfl) ?_ (w.heap.size + 1) A n c (u64s up) (by rfl) ?_ h1.out (by omega) (by omega) ?_ ?_
             · refine own_empty (base := w.heap.size + 1) ?_ ?_
               · (repeat (first  | exact Blk.new_at _ _ _ _ (by first | rfl | (simp <;> omega) | (simp [hsz] <;> omega)) | with_reducible refine Blk.drew ?_ | with_reducible refine Blk.alloc ?_ _))
               · first | omega | (simp <;> omega)
             · exact hrX.out.below (by (repeat (first | with_reducible exact hb3.out | with_reducible exact hb2.out | with_reducible exact hb1.out | with_reducible exact Below.refl _ _ | with_reducible refine Below.drew ?_ | (with_reducible refine Below.alloc ?_ ?_ _; rotate_left; · first | omega | (simp <;> omega)) | (with_reducible refine Below.setCell ?_ ?_ _; rotate_left; · first | omega | (simp <;> omega)))))
             · first | omega | (simp <;> omega)
             intro v1 w1 hown1 hg1 hat1
             rw [Nat.zero_add, List.nil_append] at hown1
             obtain ⟨A1, c1, rfl⟩ := ownsRow_slice hown1
             have hb1 : RowKit.Hid (Below (w.heap.size + 1) X w1) := by
               refine Lib.hid (Below.grown (w := _) ?_ hg1 ?_ ?_)
               · (repeat (first | with_reducible exact hb3.out | with_reducible exact hb2.out | with_reducible exact hb1.out | with_reducible exact Below.refl _ _ | with_reducible refine Below.drew ?_ | (with_reducible refine Below.alloc ?_ ?_ _; rotate_left; · first | omega | (simp <;> omega)) | (with_reducible refine Below.setCell ?_ ?_ _; rotate_left; · first | omega | (simp <;> omega))))
               · first | omega | (simp <;> omega)
               · intro j hj
                 simp [Value.ownBlock] at hj
                 omega
             have hs1 := hb1.out.size
             have hgr := hg1.size
             first
               | (refine grown_then (g := ?_) (t := 25) (cs := #[.int .i64 0, .int .u64 0]) (e := 23) (cs' := #[]) ?_ ?_ hg1 ?_ ?_
                  rotate_left
                  · (repeat (first  | with_reducible exact Blk.new _ _ _ | with_reducible refine Blk.drew ?_ | with_reducible refine Blk.alloc ?_ _))
                  · (repeat (first  | exact Blk.new_at _ _ _ _ (by first | rfl | (simp <;> omega) | (simp [hsz] <;> omega)) | with_reducible refine Blk.drew ?_ | with_reducible refine Blk.alloc ?_ _))
                  · first | (refine .inl ?_; decide) | (refine .inr ?_; decide)
                  intro gL hgL kL
                  try simp [hsz] at hgL
                  subst hgL)
               | skip
             first
               | (refine grown_then (g := ?_) (t := 25) (cs := #[]) (e := 23) (cs' := #[]) ?_ ?_ hg1 ?_ ?_
                  rotate_left
                  · (repeat (first  | with_reducible exact Blk.new _ _ _ | with_reducible refine Blk.drew ?_ | with_reducible refine Blk.alloc ?_ _))
                  · (repeat (first  | exact Blk.new_at _ _ _ _ (by first | rfl | (simp <;> omega) | (simp [hsz] <;> omega)) | with_reducible refine Blk.drew ?_ | with_reducible refine Blk.alloc ?_ _))
                  · first | (refine .inl ?_; decide) | (refine .inr ?_; decide)
                  intro gE hgE kE
                  try simp [hsz] at hgE
                  subst hgE)
               | skip
             replace hown1 := Lib.hid hown1
             clear hg1 hat1)
          | (refine step_append_any _ (by rfl) _ _ _ (by rfl) (w.heap.size + 1) 25 j0 _ 2 16 Tryd.underlying26 hj0 hjz0 hjz1 hjz2 rfl (by decide) (.slice (some ⟨_, 0, none⟩) 0 0) 0 [] (by rfl) ?_ (w.heap.size + 1) Z m d (lbVals args) (by rfl) ?_ h1z.out (by omega) (by omega) ?_ ?_
             · refine own_empty (base := w.heap.size + 1) ?_ ?_
               · (repeat (first | exact kE | exact Blk.new_at _ _ _ _ (by first | rfl | (simp <;> omega)) | with_reducible refine Blk.drew ?_ | with_reducible refine Blk.alloc ?_ _))
               · first | omega | (simp <;> omega)
             · exact hzX.out.below (by (repeat (first | with_reducible exact hb3.out | with_reducible exact hb2.out | with_reducible exact hb1.out | with_reducible exact Below.refl _ _ | with_reducible refine Below.drew ?_ | (with_reducible refine Below.alloc ?_ ?_ _; rotate_left; · first | omega | (simp <;> omega)) | (with_reducible refine Below.setCell ?_ ?_ _; rotate_left; · first | omega | (simp <;> omega)))))
             · first | omega | (simp <;> omega)
             intro v2 w2 hown2 hg2 hat2
             rw [Nat.zero_add, List.nil_append] at hown2
             obtain ⟨A2, c2, rfl⟩ := ownsRow_slice hown2
             have hb2 : RowKit.Hid (Below (w.heap.size + 1) X w2) := by
               refine Lib.hid (Below.grown (w := _) ?_ hg2 ?_ ?_)
               · (repeat (first | with_reducible exact hb3.out | with_reducible exact hb2.out | with_reducible exact hb1.out | with_reducible exact Below.refl _ _ | with_reducible refine Below.drew ?_ | (with_reducible refine Below.alloc ?_ ?_ _; rotate_left; · first | omega | (simp <;> omega)) | (with_reducible refine Below.setCell ?_ ?_ _; rotate_left; · first | omega | (simp <;> omega))))
               · first | omega | (simp <;> omega)
               · intro j hj
                 simp [Value.ownBlock] at hj
                 omega
             have hrA : RowKit.Hid (Reads w2 w2.heap.size 1 A1 n (u64s up)) := by
               refine Lib.hid (Reads.of_own (base := w.heap.size + 1) (e := 23) (c := c1) (row_keep (b := w.heap.size + 1) (e := 23) (c1 := c1) (e' := 25) (cs := #[]) ?_ ?_ hg2 ?_))
               · (repeat (first | with_reducible exact hown1.out | with_reducible refine World.ownsRow.alloc ?_ _ | with_reducible refine World.ownsRow.drew ?_))
               · (repeat (first | exact kE | exact Blk.new_at _ _ _ _ (by first | rfl | (simp <;> omega)) | with_reducible refine Blk.drew ?_ | with_reducible refine Blk.alloc ?_ _))
               · decide
             have hrZ := Lib.hid (Reads.of_own hown2)
             have hs2 := hb2.out.size
             first
               | (refine grown_then (g := ?_) (t := 25) (cs := #[.int .i64 0, .int .u64 0]) (e := 25) (cs' := #[]) ?_ ?_ hg2 ?_ ?_
                  rotate_left
                  · (repeat (first | with_reducible exact kL | with_reducible exact Blk.new _ _ _ | with_reducible refine Blk.drew ?_ | with_reducible refine Blk.alloc ?_ _))
                  · (repeat (first | exact kE | exact Blk.new_at _ _ _ _ (by first | rfl | (simp <;> omega)) | with_reducible refine Blk.drew ?_ | with_reducible refine Blk.alloc ?_ _))
                  · first | (refine .inl ?_; decide) | (refine .inr ?_; decide)
                  intro gL2 hgL2 kL2
                  try simp at hgL2
                  subst hgL2)
               | skip
             replace hown2 := Lib.hid hown2
             clear hg2 hat2)
          | (go_at_call 10
             refine (put_any A1 n c1 up ⟨lv, lm⟩ A2 m c2 args ⟨pv, pm⟩ _ ?_ hn.out hn63 hM.out ?_ hl hpc ham.out hm63 ?_ hlm.out).mono ?_
             · exact hTX.out.later (by rw [hsz]; (repeat (first | with_reducible exact hb3.out | with_reducible exact hb2.out | with_reducible exact hb1.out | with_reducible exact Below.refl _ _ | with_reducible refine Below.drew ?_ | (with_reducible refine Below.alloc ?_ ?_ _; rotate_left; · first | omega | (simp <;> omega)) | (with_reducible refine Below.setCell ?_ ?_ _; rotate_left; · first | omega | (simp <;> omega)))))
             · first | exact hrA.out | exact (hrA.out.alloc (Nat.le_refl _) _).more (by simp)
             · first | exact hrZ.out | exact (hrZ.out.alloc (Nat.le_refl _) _).more (by simp)
             rintro e w3 ⟨rfl, hb3'⟩
             have hb3 : RowKit.Hid (Below (w.heap.size + 1) X w3) := by
               refine Lib.hid (Below.trans ?_ (hb3'.mono ?_))
               · (repeat (first | with_reducible exact hb3.out | with_reducible exact hb2.out | with_reducible exact hb1.out | with_reducible exact Below.refl _ _ | with_reducible refine Below.drew ?_ | (with_reducible refine Below.alloc ?_ ?_ _; rotate_left; · first | omega | (simp <;> omega)) | (with_reducible refine Below.setCell ?_ ?_ _; rotate_left; · first | omega | (simp <;> omega))))
               · first | omega | (simp <;> omega)
             first
               | (refine below_then (g := ?_) (t := 25) (cs := #[.int .i64 0, .int .u64 0]) ?_ hb3' ?_
                  rotate_left
                  · (repeat (first | with_reducible exact kL2 | with_reducible exact Blk.new _ _ _ | with_reducible refine Blk.drew ?_ | with_reducible refine Blk.alloc ?_ _))
                  intro gM hgM kM
                  try simp at hgM
                  subst hgM
                  have kf0 := kM.frozen 0
                  have kf1 := kM.frozen 1
                  obtain ⟨q0, q1⟩ := pair_cells kM
                  replace kM := Lib.hid kM)
               | skip
             have hs3 := hb3.out.size
             clear hb3'))
    all_goals (go_wp2_with fail; go_meet)
    all_goals (first | exact ⟨_, rfl, rfl, Blk.new _ _ _, (by first | omega | (simp <;> omega)), by (repeat (first | with_reducible exact hb3.out | with_reducible exact hb2.out | with_reducible exact hb1.out | with_reducible exact Below.refl _ _ | with_reducible refine Below.drew ?_ | (with_reducible refine Below.alloc ?_ ?_ _; rotate_left; · first | omega | (simp <;> omega)) | (with_reducible refine Below.setCell ?_ ?_ _; rotate_left; · first | omega | (simp <;> omega))))⟩ | exact ⟨_, rfl, rfl, pair_set kM.out _ _, (by first | omega | (simp <;> omega)), by (repeat (first | with_reducible exact hb3.out | with_reducible exact hb2.out | with_reducible exact hb1.out | with_reducible exact Below.refl _ _ | with_reducible refine Below.drew ?_ | (with_reducible refine Below.alloc ?_ ?_ _; rotate_left; · first | omega | (simp <;> omega)) | (with_reducible refine Below.setCell ?_ ?_ _; rotate_left; · first | omega | (simp <;> omega))))⟩)
  case rest =>
    obtain ⟨g, rfl, rfl, kg, hgs, hV⟩ := hcut
    obtain ⟨w4, hV0, rfl⟩ : ∃ V, Below (w.heap.size + 1) X V ∧ V = _ := ⟨_, hV, rfl⟩
    clear hV0
    have hVs := hV.size
    have hVs' : w.heap.size + 1 ≤ w4.heap.size := by omega
    have kgl := kg.lt
    have hrV := Lib.hid (show Reads w4 w4.heap.size 1 A n (u64s up) from (hrX.out.below hV).more (by omega))
    have hzV := Lib.hid (show Reads w4 w4.heap.size 2 Z m (lbVals args) from (hzX.out.below hV).more (by omega))
    have hTV := Lib.hid (hTX.out.later (hsz.symm ▸ hV))
    have z0 := hcell.out _ _ _ hV (by simp) p0
    have z1 := hcell.out _ _ _ hV (by simp) p1
    have z2 := hcell.out _ _ _ hV (by simp) p2
    have z3 := hcell.out _ _ _ hV (by simp) p3
    have z4 := hcell.out _ _ _ hV (by simp) p4
    have z5 := hcell.out _ _ _ hV (by simp) p5
    have hb4 := Lib.hid (Below.refl w4.heap.size w4)
    have hcellV := Lib.hid (fun (W : World) (p : Addr) (v : Value) (h : Below w4.heap.size w4 W) (hp : p.block < w4.heap.size) (hv : w4.cell? p = some v) => (h.cell hp).trans hv)
    replace hV := Lib.hid hV
    obtain ⟨is0, hi0⟩ : ∃ b, b = (decide (m ≤ 6) && latB up && (goodB up lv && fitsB lm m) && goodB up pv) := ⟨_, rfl⟩
    have hpk : putOk up ⟨lv, lm⟩ args ⟨pv, pm⟩ = (is0 && args.all (fun a => goodB up a.lv)) := by
      rw [Bool.eq_iff_iff, putOk_iff, ham.out, hi0]
      simp only [Bool.and_eq_true, decide_eq_true_eq]
      constructor
      · rintro ⟨a1, a2, a3, a4, a5, a6⟩
        exact ⟨⟨⟨⟨a1, a2⟩, a3, a5⟩, a4⟩, a6⟩
      · rintro ⟨⟨⟨⟨a1, a2⟩, a3, a5⟩, a4⟩, a6⟩
        exact ⟨a1, a2, a3, a4, a5, a6⟩
    have hx1 : putOk up ⟨lv, lm⟩ args ⟨pv, pm⟩ = false → putL up ⟨lv, lm⟩ args ⟨pv, pm⟩ = ⟨0, 0⟩ := fun h => by unfold putL; rw [h]; rfl
    have hx2 : putOk up ⟨lv, lm⟩ args ⟨pv, pm⟩ = true → putL up ⟨lv, lm⟩ args ⟨pv, pm⟩ = putF up ⟨lv, lm⟩ args ⟨pv, pm⟩ := fun h => by unfold putL; rw [h]; rfl
    have hx3 := @put_parts up ⟨lv, lm⟩ args ⟨pv, pm⟩
    generalize putOk up ⟨lv, lm⟩ args ⟨pv, pm⟩ = ok at *
    generalize putL up ⟨lv, lm⟩ args ⟨pv, pm⟩ = x at *
    obtain ⟨xv, xm⟩ := x
    dsimp only at kg
    obtain ⟨z6, z7⟩ := pair_cells kg
    replace kg := Lib.hid kg
    replace hpk := Lib.hid hpk
    replace hx1 := Lib.hid hx1
    replace hx2 := Lib.hid hx2
    replace hx3 := Lib.hid hx3
    clear p0 p1 p2 p3 p4 p5 hcell
    go_upto_region 4 with fail
    go_cut [5] (fun s5 wx => s5 = .bool is0 ∧ Below w4.heap.size w4 wx)
    case first =>
      by_cases hm6 : 6 < m
      · have g6 : ¬ ((m : Int) ≤ 6) := by omega
        have hib : is0 = false := by rw [hi0, decide_eq_false (by omega)]; rfl
        replace hib := Lib.hid hib
        replace hi0 := Lib.hid hi0
        go_wp2_with fail
        go_meet
        exact ⟨by rw [hib.out], hb4.out⟩
      have g6 : ((m : Int) ≤ 6) := by omega
      have g7 : decide (m ≤ 6) = true := decide_eq_true (by omega)
      rw [g7, Bool.true_and] at hi0
      cases hla : latB up with
      | false =>
        rw [hla, Bool.false_and, Bool.false_and] at hi0
        have hib := Lib.hid hi0
        replace hi0 := Lib.hid hi0
        replace hla := Lib.hid hla
        go_wp2_with fail
        refine (rright_any A n c up w4 hn.out hn63 hM.out ((hrV.out.below hb4.out).more hb4.out.size)).mono ?_
        rintro e wa ⟨rfl, hb⟩
        have hba := Lib.hid (hb4.out.trans (hb.mono hb4.out.size))
        clear hb
        have z0_a := hcellV.out _ _ _ hba.out (by simp <;> omega) z0
        have z1_a := hcellV.out _ _ _ hba.out (by simp <;> omega) z1
        have z2_a := hcellV.out _ _ _ hba.out (by simp <;> omega) z2
        have z3_a := hcellV.out _ _ _ hba.out (by simp <;> omega) z3
        have z4_a := hcellV.out _ _ _ hba.out (by simp <;> omega) z4
        have z5_a := hcellV.out _ _ _ hba.out (by simp <;> omega) z5
        have z6_a := hcellV.out _ _ _ hba.out (by simp <;> omega) z6
        have z7_a := hcellV.out _ _ _ hba.out (by simp <;> omega) z7
        rw [hla.out]
        go_wp2_with fail
        go_meet
        exact ⟨by rw [hib.out], hba.out⟩
      | true =>
        rw [hla, Bool.true_and] at hi0
        replace hla := Lib.hid hla
        cases hfi : (goodB up lv && fitsB lm m) with
        | false =>
          rw [hfi, Bool.false_and] at hi0
          have hib := Lib.hid hi0
          replace hi0 := Lib.hid hi0
          replace hfi := Lib.hid hfi
          go_wp2_with fail
          refine (rright_any A n c up w4 hn.out hn63 hM.out ((hrV.out.below hb4.out).more hb4.out.size)).mono ?_
          rintro e wa ⟨rfl, hb⟩
          have hba := Lib.hid (hb4.out.trans (hb.mono hb4.out.size))
          clear hb
          have z0_a := hcellV.out _ _ _ hba.out (by simp <;> omega) z0
          have z1_a := hcellV.out _ _ _ hba.out (by simp <;> omega) z1
          have z2_a := hcellV.out _ _ _ hba.out (by simp <;> omega) z2
          have z3_a := hcellV.out _ _ _ hba.out (by simp <;> omega) z3
          have z4_a := hcellV.out _ _ _ hba.out (by simp <;> omega) z4
          have z5_a := hcellV.out _ _ _ hba.out (by simp <;> omega) z5
          have z6_a := hcellV.out _ _ _ hba.out (by simp <;> omega) z6
          have z7_a := hcellV.out _ _ _ hba.out (by simp <;> omega) z7
          rw [hla.out]
          go_wp2_with fail
          refine (rfits_any A n c up ⟨lv, lm⟩ m wa hn.out hl).mono ?_
          rintro e wb ⟨rfl, hb⟩
          have hbb := Lib.hid (hba.out.trans (hb.mono hba.out.size))
          clear hb
          have z0_b := hcellV.out _ _ _ hbb.out (by simp <;> omega) z0
          have z1_b := hcellV.out _ _ _ hbb.out (by simp <;> omega) z1
          have z2_b := hcellV.out _ _ _ hbb.out (by simp <;> omega) z2
          have z3_b := hcellV.out _ _ _ hbb.out (by simp <;> omega) z3
          have z4_b := hcellV.out _ _ _ hbb.out (by simp <;> omega) z4
          have z5_b := hcellV.out _ _ _ hbb.out (by simp <;> omega) z5
          have z6_b := hcellV.out _ _ _ hbb.out (by simp <;> omega) z6
          have z7_b := hcellV.out _ _ _ hbb.out (by simp <;> omega) z7
          clear z0_a z1_a z2_a z3_a z4_a z5_a z6_a z7_a
          dsimp only
          rw [hfi.out]
          go_wp2_with fail
          go_meet
          exact ⟨by rw [hib.out], hbb.out⟩
        | true =>
          rw [hfi, Bool.true_and] at hi0
          have hib := Lib.hid hi0
          replace hi0 := Lib.hid hi0
          replace hfi := Lib.hid hfi
          go_wp2_with fail
          refine (rright_any A n c up w4 hn.out hn63 hM.out ((hrV.out.below hb4.out).more hb4.out.size)).mono ?_
          rintro e wa ⟨rfl, hb⟩
          have hba := Lib.hid (hb4.out.trans (hb.mono hb4.out.size))
          clear hb
          have z0_a := hcellV.out _ _ _ hba.out (by simp <;> omega) z0
          have z1_a := hcellV.out _ _ _ hba.out (by simp <;> omega) z1
          have z2_a := hcellV.out _ _ _ hba.out (by simp <;> omega) z2
          have z3_a := hcellV.out _ _ _ hba.out (by simp <;> omega) z3
          have z4_a := hcellV.out _ _ _ hba.out (by simp <;> omega) z4
          have z5_a := hcellV.out _ _ _ hba.out (by simp <;> omega) z5
          have z6_a := hcellV.out _ _ _ hba.out (by simp <;> omega) z6
          have z7_a := hcellV.out _ _ _ hba.out (by simp <;> omega) z7
          rw [hla.out]
          go_wp2_with fail
          refine (rfits_any A n c up ⟨lv, lm⟩ m wa hn.out hl).mono ?_
          rintro e wb ⟨rfl, hb⟩
          have hbb := Lib.hid (hba.out.trans (hb.mono hba.out.size))
          clear hb
          have z0_b := hcellV.out _ _ _ hbb.out (by simp <;> omega) z0
          have z1_b := hcellV.out _ _ _ hbb.out (by simp <;> omega) z1
          have z2_b := hcellV.out _ _ _ hbb.out (by simp <;> omega) z2
          have z3_b := hcellV.out _ _ _ hbb.out (by simp <;> omega) z3
          have z4_b := hcellV.out _ _ _ hbb.out (by simp <;> omega) z4
          have z5_b := hcellV.out _ _ _ hbb.out (by simp <;> omega) z5
          have z6_b := hcellV.out _ _ _ hbb.out (by simp <;> omega) z6
          have z7_b := hcellV.out _ _ _ hbb.out (by simp <;> omega) z7
          clear z0_a z1_a z2_a z3_a z4_a z5_a z6_a z7_a
          dsimp only
          rw [hfi.out]
          go_wp2_with fail
          refine (good_any A n c up ⟨pv, pm⟩ wb hn.out).mono ?_
          rintro e wc ⟨rfl, hb⟩
          have hbc := Lib.hid (hbb.out.trans (hb.mono hbb.out.size))
          clear hb
          have z0_c := hcellV.out _ _ _ hbc.out (by simp <;> omega) z0
          have z1_c := hcellV.out _ _ _ hbc.out (by simp <;> omega) z1
          have z2_c := hcellV.out _ _ _ hbc.out (by simp <;> omega) z2
          have z3_c := hcellV.out _ _ _ hbc.out (by simp <;> omega) z3
          have z4_c := hcellV.out _ _ _ hbc.out (by simp <;> omega) z4
          have z5_c := hcellV.out _ _ _ hbc.out (by simp <;> omega) z5
          have z6_c := hcellV.out _ _ _ hbc.out (by simp <;> omega) z6
          have z7_c := hcellV.out _ _ _ hbc.out (by simp <;> omega) z7
          clear z0_b z1_b z2_b z3_b z4_b z5_b z6_b z7_b
          go_wp2_with fail
          go_meet
          exact ⟨by rw [hib.out], hbc.out⟩
    case rest =>
      obtain ⟨rfl, hb5⟩ := hcut
      obtain ⟨w5, hV0, rfl⟩ : ∃ V, Below w4.heap.size w4 V ∧ V = _ := ⟨_, hb5, rfl⟩
      clear hV0
      replace hb5 := Lib.hid hb5
      replace hi0 := Lib.hid hi0
      go_wp2_with fail
      go_loopw [5, 6] (fun v5 v6 wr => ∃ i : Nat, v6 = .int .i64 (i : Nat) ∧ i ≤ m ∧ v5 = .bool (is0 && (args.take i).all (fun a => goodB up a.lv)) ∧ Below w4.heap.size w4 wr) (fun v5 v6 wr => m - natOf v6)
      case atStart => exact ⟨0, rfl, by omega, by simp, hb5.out⟩
      case round =>
        obtain ⟨i, rfl, him, rfl, hB⟩ := hrel
        have hb6 := Lib.hid hB
        obtain ⟨w6, hV0, rfl⟩ : ∃ V, Below w4.heap.size w4 V ∧ V = _ := ⟨_, hB, rfl⟩
        clear hV0 hB
        have z0_6 := hcellV.out _ _ _ hb6.out (by simp <;> omega) z0
        have z1_6 := hcellV.out _ _ _ hb6.out (by simp <;> omega) z1
        have z2_6 := hcellV.out _ _ _ hb6.out (by simp <;> omega) z2
        have z3_6 := hcellV.out _ _ _ hb6.out (by simp <;> omega) z3
        have z4_6 := hcellV.out _ _ _ hb6.out (by simp <;> omega) z4
        have z5_6 := hcellV.out _ _ _ hb6.out (by simp <;> omega) z5
        have z6_6 := hcellV.out _ _ _ hb6.out (by simp <;> omega) z6
        have z7_6 := hcellV.out _ _ _ hb6.out (by simp <;> omega) z7
        by_cases hi : i < m
        · have hlt : ((i : Int) < (m : Int)) := by omega
          cases hq : (is0 && (args.take i).all (fun a => goodB up a.lv)) with
          | false =>
            have hk : ok = false := by
              rw [hpk.out]
              cases h0 : is0 with
              | false => rfl
              | true =>
                rw [h0, Bool.true_and] at hq
                cases h1 : args.all (fun a => goodB up a.lv) with
                | false => rfl
                | true =>
                  rw [List.all_eq_true] at h1
                  have h2 : (args.take i).all (fun a => goodB up a.lv) = true := by
                    rw [List.all_eq_true]
                    exact fun y hy => h1 y (List.mem_of_mem_take hy)
                  rw [h2] at hq
                  cases hq
            have hxe := hx1.out hk
            injection hxe with hxv hxm
            subst hk hxv hxm
            replace hq := Lib.hid hq
            go_wp2_with fail
            refine (awake_any w6 (hTV.out.later hb6.out)).mono ?_
            rintro e w9 ⟨rfl, hb⟩
            have hb9 := Lib.hid (hb6.out.trans (hb.mono hb6.out.size))
            clear hb
            have z0_9 := hcellV.out _ _ _ hb9.out (by simp <;> omega) z0
            have z1_9 := hcellV.out _ _ _ hb9.out (by simp <;> omega) z1
            have z2_9 := hcellV.out _ _ _ hb9.out (by simp <;> omega) z2
            have z3_9 := hcellV.out _ _ _ hb9.out (by simp <;> omega) z3
            have z4_9 := hcellV.out _ _ _ hb9.out (by simp <;> omega) z4
            have z5_9 := hcellV.out _ _ _ hb9.out (by simp <;> omega) z5
            have z6_9 := hcellV.out _ _ _ hb9.out (by simp <;> omega) z6
            have z7_9 := hcellV.out _ _ _ hb9.out (by simp <;> omega) z7
            clear z0_6 z1_6 z2_6 z3_6 z4_6 z5_6 z6_6 z7_6
            go_wp2_with fail
            go_ret
            exact ⟨rfl, hB0.out.trans ((hV.out.mono (by omega)).trans (hb9.out.mono (by omega)))⟩
          | true =>
            obtain ⟨ad, hZ, hbk, q0, q1⟩ := reads_label ham.out ((hzV.out.below hb6.out).more hb6.out.size) hi
            subst hZ
            have hstep := take_all (fun a : Lb => goodB up a.lv) args i (by rw [ham.out]; exact hi) ⟨0, 0⟩
            have hq' := hq
            rw [Bool.and_eq_true] at hq'
            rw [hq'.2, Bool.true_and] at hstep
            generalize args.getD i ⟨0, 0⟩ = y at *
            obtain ⟨yv, ym⟩ := y
            dsimp only at q0 q1 hstep
            have hi1 := hq'.1
            replace hq := Lib.hid hq
            replace hstep := Lib.hid hstep
            replace hi1 := Lib.hid hi1
            clear hq'
            go_wp2_with fail
            have hcell6 := Lib.hid (fun (W : World) (p : Addr) (v : Value) (h : Below w6.heap.size w6 W) (hp : p.block < w6.heap.size) (hv : w6.cell? p = some v) => (h.cell hp).trans hv)
            have hs6 := hb6.out.size
            have hpad : (ad.add (i * 2)).block < w6.heap.size := by rw [block_of_add]; exact hbk
            go_region_held3 (fun w' => w'.cell? ⟨w.heap.size, 0, none⟩ = some (.slice A n c) ∧ w'.cell? ⟨w.heap.size, 3, none⟩ = some (.slice (some ad) m d) ∧ w'.cell? (ad.add (i * 2)) = some (.int .i64 yv) ∧ w'.cell? ⟨(ad.add (i * 2)).block, (ad.add (i * 2)).off + 1, none⟩ = some (.int .u64 (ym : Nat)))
              (first
                | go_keep
                | (refine ⟨?_, ?_, ?_, ?_⟩ <;> refine hcell6.out _ _ _ hb7.out ?_ ?_ <;> first | assumption | exact hpad | (simp <;> omega)))
              (first
                | (go_at_call 13
                   refine (good_any A n c up ⟨yv, ym⟩ _ hn.out).mono ?_
                   rintro e w7 ⟨rfl, hb7⟩
                   have hb7 : RowKit.Hid (Below w6.heap.size w6 w7) := by
                     refine Lib.hid ?_
                     first | exact hb7 | exact Below.trans (Below.refl _ _).drew hb7))
            go_wp2_with fail
            go_roundw
            case rel =>
              refine ⟨i + 1, by go_num, by omega, ?_, hb6.out.trans (hb7.out.mono hs6)⟩
              rw [hi1.out, Bool.true_and, hstep.out]
            case measure => simp [natOf]; omega
        · have hlt : ¬ ((i : Int) < (m : Int)) := by omega
          have hie : i = m := by omega
          rw [List.take_of_length_le (by have := ham.out; omega), ← hpk.out]
          cases hk : ok with
          | false =>
            have hxe := hx1.out hk
            injection hxe with hxv hxm
            subst hxv hxm
            replace hk := Lib.hid hk
            go_wp2_with fail
            refine (awake_any w6 (hTV.out.later hb6.out)).mono ?_
            rintro e w9 ⟨rfl, hb⟩
            have hb9 := Lib.hid (hb6.out.trans (hb.mono hb6.out.size))
            clear hb
            have z0_9 := hcellV.out _ _ _ hb9.out (by simp <;> omega) z0
            have z1_9 := hcellV.out _ _ _ hb9.out (by simp <;> omega) z1
            have z2_9 := hcellV.out _ _ _ hb9.out (by simp <;> omega) z2
            have z3_9 := hcellV.out _ _ _ hb9.out (by simp <;> omega) z3
            have z4_9 := hcellV.out _ _ _ hb9.out (by simp <;> omega) z4
            have z5_9 := hcellV.out _ _ _ hb9.out (by simp <;> omega) z5
            have z6_9 := hcellV.out _ _ _ hb9.out (by simp <;> omega) z6
            have z7_9 := hcellV.out _ _ _ hb9.out (by simp <;> omega) z7
            clear z0_6 z1_6 z2_6 z3_6 z4_6 z5_6 z6_6 z7_6
            go_wp2_with fail
            go_ret
            exact ⟨rfl, hB0.out.trans ((hV.out.mono (by omega)).trans (hb9.out.mono (by omega)))⟩
          | true =>
            have hxe := hx2.out hk
            obtain ⟨o1, o2, o3, o4, o5, o6⟩ := hx3.out hk
            rw [ham.out] at o1 o5
            have hRP := fun (W : World) (hr : Reads W W.heap.size 1 A n (u64s up)) (hz : Reads W W.heap.size 2 Z m (lbVals args)) => rput_any A n c up ⟨lv, lm⟩ Z m d args ⟨pv, pm⟩ W hn.out hM.out hr o2 hl o3 hpc o4 ham.out o1 hz hlm.out o6 o5
            rw [← hxe] at hRP
            simp only [lbV] at hRP
            replace hRP := Lib.hid hRP
            replace hxe := Lib.hid hxe
            replace hk := Lib.hid hk
            clear o1 o2 o3 o4 o5 o6
            go_wp2_with fail
            obtain ⟨XT, f, hfb, hfall⟩ := class_below w6.heap.size w6
            have hx0 : ∃ y, f y = w6.drew := hfall _ (by
              have := below_drewNs (Below.refl w6.heap.size w6) 1
              exact this)
            have hne : Nonempty XT := hx0.elim fun y _ => ⟨y⟩
            have hs6 := hb6.out.size
            have d0 := fun y => ((hfb y).cell (by simp <;> omega)).trans z0_6
            have d1 := fun y => ((hfb y).cell (by simp <;> omega)).trans z1_6
            have d2 := fun y => ((hfb y).cell (by simp <;> omega)).trans z2_6
            have d3 := fun y => ((hfb y).cell (by simp <;> omega)).trans z3_6
            have d4 := fun y => ((hfb y).cell (by simp <;> omega)).trans z4_6
            have d5 := fun y => ((hfb y).cell (by simp <;> omega)).trans z5_6
            have d6 := fun y => ((hfb y).cell (by simp <;> omega)).trans z6_6
            have d7 := fun y => ((hfb y).cell (by simp <;> omega)).trans z7_6
            have hB7 := Lib.hid (fun y => hb6.out.trans ((hfb y).mono hs6))
            have hR7 := Lib.hid (fun y => (hrV.out.below (hB7.out y)).more (hB7.out y).size)
            have hZ7 := Lib.hid (fun y => (hzV.out.below (hB7.out y)).more (hB7.out y).size)
            have hT7 := Lib.hid (fun y => hTV.out.later (hB7.out y))
            have e1 : (xv == xv && ((xm : Nat) : Int) == ((xm : Nat) : Int)) = true := by simp
            replace hfb := Lib.hid hfb
            replace hfall := Lib.hid hfall
            clear z0_6 z1_6 z2_6 z3_6 z4_6 z5_6 z6_6 z7_6
            refine (wpIn_wide (n := 20)).1 ?_
            refine wpIn_region_class f 18 [true, true, true, true, true, true, true, true, true, true, true, true, true, true, true, true, true, true] hx0 (by kernel_rfl) (by kernel_rfl) ?_
            (simp only [List.take_succ_cons, List.take_zero]; (repeat (first | gi_big_quiet_step (fail) | (refine wpQuietIn_pass (fun _ _ _ _ => trivial) (by rfl) rfl ?_; simp only [List.setIfInBounds_toArray, List.set_cons_succ, List.set_cons_zero]) | (refine wpQuietIn_step (fun _ _ _ _ => trivial) ?_; intro K hK; refine Eq.mpr (if_pos (by rfl)) ?_; gi_big_quiet_op; gi_big_quiet_call ((first | (gi_at_call 15; with_reducible exact class_law hfall.out (hfb.out _) (hfb.out _).size (callsIn_wide.2 (hRP.out _ (hR7.out _) (hZ7.out _)))) | (gi_at_call 14; with_reducible exact class_law hfall.out (hfb.out _) (hfb.out _).size (callsIn_wide.2 (awake_any _ (hT7.out _))))))))); refine wpQuietIn_nil ?_)
            rintro W' ⟨y, rfl⟩
            have hb8 := Lib.hid (hB7.out y)
            clear d0 d1 d2 d3 d4 d5 d6 d7 hR7 hZ7 hT7 hB7
            generalize f y = w8 at *
            refine wpAnyIn_end (by kernel_rfl) ?_
            go_wp2
            go_ret
            exact ⟨rfl, hB0.out.trans ((hV.out.mono (by omega)).trans (hb8.out.mono (by omega)))⟩

end Go.Proofs.YtfloonpchjbmnaaDoor
