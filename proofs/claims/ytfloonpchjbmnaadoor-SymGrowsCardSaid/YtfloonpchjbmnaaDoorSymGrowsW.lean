/- The walk of SymGrows. -/
import Derived.Deep.RegionHeld3
import Derived.Deep.DeepCutAuto
import Derived.Test.YtfloonpchjbmnaaDoorSymPutsW
import Derived.Test.YtfloonpchjbmnaaDoorTg
namespace Go.Proofs.YtfloonpchjbmnaaDoor
open Go.RowKit Go.Shelf Go.Idl

theorem grow_idx (t : Int) (m : Nat) (hm : 0 < m) (hs : m ≤ 6) : ∃ k : Nat, wrap64 ((IntKind.u64.wrap t).tmod (m : Int)) = (k : Int) ∧ k < m := by
  have h0 : 0 ≤ IntKind.u64.wrap t := by
    rw [IntKind.wrap_u64]
    exact Int.emod_nonneg _ (by decide)
  have h1 := Int.tmod_nonneg (m : Int) h0
  have h2 := Int.tmod_lt_of_pos (IntKind.u64.wrap t) (show (0 : Int) < m by omega)
  generalize (IntKind.u64.wrap t).tmod (m : Int) = x at *
  refine ⟨x.toNat, ?_, by omega⟩
  unfold wrap64
  omega

set_option maxHeartbeats 8000000 in
set_option maxRecDepth 100000 in
theorem walkSymGrows (A : Option Addr) (n c : Nat) (up : List Nat) (l : Lb) (Z : Option Addr) (m d : Nat) (args : List Lb) (pc : Lb) (t : Int) (mo : Lb) (w : World) (hT : Tab w) (hn : up.length = n) (hn63 : n ≤ maxLen) (hM : Masks up) (hr : Reads w w.heap.size 1 A n (u64s up)) (hl : l.ms < 2 ^ 64) (hpc : pc.ms < 2 ^ 64) (hmo : mo.ms < 2 ^ 64)
    (ham : args.length = m) (hm63 : m ≤ maxLen) (hz : Reads w w.heap.size 2 Z m (lbVals args)) (hlm : Lms args) :
    Calls Tryd.prog 7 #[.agg #[.slice A n c, .int .i64 l.lv, .int .u64 (l.ms : Nat), .slice Z m d, .int .i64 pc.lv, .int .u64 (pc.ms : Nat)], .int .i64 t, lbV mo] w fun e w' => e = .returned (.bool true) ∧ Below w.heap.size w w' := by
  have hml : maxLen = 9223372036854775807 := rfl
  obtain ⟨lv, lm⟩ := l
  obtain ⟨pv, pm⟩ := pc
  obtain ⟨mv, mm⟩ := mo
  dsimp only at hl hpc hmo ⊢
  simp only [lbV]
  obtain ⟨X, hX⟩ : ∃ X, (w.alloc (.cells #[.slice A n c, .int .i64 lv, .int .u64 (lm : Nat), .slice Z m d, .int .i64 pv, .int .u64 (pm : Nat)] 28)).alloc (.cells #[.int .i64 mv, .int .u64 (mm : Nat)] 25) = X := ⟨_, rfl⟩
  have k0 : Blk X w.heap.size 28 #[.slice A n c, .int .i64 lv, .int .u64 (lm : Nat), .slice Z m d, .int .i64 pv, .int .u64 (pm : Nat)] := by rw [← hX]; exact (Blk.new w _ _).alloc _
  have k1 : Blk X (w.heap.size + 1) 25 #[.int .i64 mv, .int .u64 (mm : Nat)] := by rw [← hX]; exact Blk.new_at _ _ _ _ (by simp)
  have hsz : X.heap.size = w.heap.size + 2 := by rw [← hX]; simp
  have hB0 : Below w.heap.size w X := by rw [← hX]; exact ((Below.refl _ w).alloc (Nat.le_refl _) _).alloc (by simp) _
  have p0 := k0.cell 0
  have p1 := k0.cell 1
  have p2 := k0.cell 2
  have p3 := k0.cell 3
  have p4 := k0.cell 4
  have p5 := k0.cell 5
  simp at p0 p1 p2 p3 p4 p5
  obtain ⟨p6, p7⟩ := pair_cells k1
  obtain ⟨j0, hj0, hjz0, hjz1, hjz2⟩ := info_parts label_info
  have hrX := Lib.hid (show Reads X X.heap.size 1 A n (u64s up) from (hr.below hB0).more (by omega))
  have hzX := Lib.hid (show Reads X X.heap.size 2 Z m (lbVals args) from (hz.below hB0).more (by omega))
  have hTX := Lib.hid (hT.later hB0)
  have hcell := Lib.hid (fun (W : World) (p : Addr) (v : Value) (h : Below X.heap.size X W) (hp : p.block < X.heap.size) (hv : X.cell? p = some v) => (h.cell hp).trans hv)
  have h1z := Lib.hid (lbVals_one args)
  replace hr := Lib.hid hr
  replace hz := Lib.hid hz
  replace hT := Lib.hid hT
  replace hn := Lib.hid hn
  replace hM := Lib.hid hM
  replace k0 := Lib.hid k0
  replace k1 := Lib.hid k1
  replace hB0 := Lib.hid hB0
  replace ham := Lib.hid ham
  replace hlm := Lib.hid hlm
  by_cases hbig : 20 < n
  · have h2 : ((20 : Int) < (n : Int)) := by omega
    go_enter Tryd.func7, Tryd.ntmps7
    go_wp2
    go_ret
    exact ⟨rfl, hB0.out⟩
  have h2 : ¬ ((20 : Int) < (n : Int)) := by omega
  by_cases hbig2 : 6 < m
  · have h3 : ((6 : Int) < (m : Int)) := by omega
    go_enter Tryd.func7, Tryd.ntmps7
    go_wp2
    go_ret
    exact ⟨rfl, hB0.out⟩
  have h3 : ¬ ((6 : Int) < (m : Int)) := by omega
  go_enter Tryd.func7, Tryd.ntmps7
  go_wp2_with fail
  refine (put_any A n c up ⟨lv, lm⟩ Z m d args ⟨pv, pm⟩ X hTX.out hn.out hn63 hM.out hrX.out hl hpc ham.out hm63 hzX.out hlm.out).mono ?_
  rintro e0 w4 ⟨rfl, hb4⟩
  have hs4 := hb4.size
  replace hb4 := Lib.hid hb4
  have hxm : (putL up ⟨lv, lm⟩ args ⟨pv, pm⟩).ms < 2 ^ 64 := putL_ms hlm.out hpc
  have hlaw := fun (k : Nat) (h1 : putOk up ⟨lv, lm⟩ args ⟨pv, pm⟩ = true) (h2 : bothL up pv mv = true) => @grows_at up hM.out ⟨lv, lm⟩ args ⟨pv, pm⟩ ⟨mv, mm⟩ h1 h2 k
  cases hok : putOk up ⟨lv, lm⟩ args ⟨pv, pm⟩ with
  | false =>
    generalize putL up ⟨lv, lm⟩ args ⟨pv, pm⟩ = x at *
    obtain ⟨xv, xm⟩ := x
    replace hok := Lib.hid hok
    replace hlaw := Lib.hid hlaw
    go_wp2_with fail
    refine (awake_any _ ?_).mono ?_
    · exact hTX.out.later (hb4.out.alloc hs4 _)
    rintro e0 wz ⟨rfl, hbz⟩
    replace hbz := Lib.hid hbz
    go_wp2_with fail
    go_ret
    exact ⟨rfl, hB0.out.trans ((Below.trans (hb4.out.alloc hs4 _) (hbz.out.mono (hb4.out.alloc hs4 _).size)).mono (by omega))⟩
  | true =>
    have hlaw := fun k => hlaw k hok
    generalize putL up ⟨lv, lm⟩ args ⟨pv, pm⟩ = x at *
    obtain ⟨xv, xm⟩ := x
    dsimp only at hxm
    replace hok := Lib.hid hok
    replace hlaw := Lib.hid hlaw
    obtain ⟨X2, hX2⟩ : ∃ X2, w4.alloc (.cells #[.int .i64 xv, .int .u64 (xm : Nat)] 25) = X2 := ⟨_, rfl⟩
    have k2 : Blk X2 w4.heap.size 25 #[.int .i64 xv, .int .u64 (xm : Nat)] := by rw [← hX2]; exact Blk.new _ _ _
    have hsz2 : X2.heap.size = w4.heap.size + 1 := by rw [← hX2]; simp
    have hb2 : Below X.heap.size X X2 := by rw [← hX2]; exact hb4.out.alloc hs4 _
    have hs2 := hb2.size
    have z0 := hcell.out _ _ _ hb2 (by simp <;> omega) p0
    have z1 := hcell.out _ _ _ hb2 (by simp <;> omega) p1
    have z2 := hcell.out _ _ _ hb2 (by simp <;> omega) p2
    have z3 := hcell.out _ _ _ hb2 (by simp <;> omega) p3
    have z4 := hcell.out _ _ _ hb2 (by simp <;> omega) p4
    have z5 := hcell.out _ _ _ hb2 (by simp <;> omega) p5
    have z6 := hcell.out _ _ _ hb2 (by simp <;> omega) p6
    have z7 := hcell.out _ _ _ hb2 (by simp <;> omega) p7
    obtain ⟨z8, z9⟩ := pair_cells k2
    have hr2 := Lib.hid ((hrX.out.below hb2).more hs2)
    have hz2 := Lib.hid ((hzX.out.below hb2).more hs2)
    have hcell2 := Lib.hid (fun (W : World) (p : Addr) (v : Value) (h : Below X2.heap.size X2 W) (hp : p.block < X2.heap.size) (hv : X2.cell? p = some v) => (h.cell hp).trans hv)
    replace hb2 := Lib.hid hb2
    replace k2 := Lib.hid k2
    clear p0 p1 p2 p3 p4 p5 p6 p7
    have za3 := hcell2.out _ _ _ ((Below.refl _ _).alloc (Nat.le_refl _) (.cells #[] 25)) (by simp <;> omega) z3
    go_wp2_with (at_builtin; refine wpList_append_copy X2 rfl _ _ 26 rfl 25 j0 (.agg #[.int .i64 0, .int .u64 0]) 2 16 Tryd.underlying26 hj0 hjz0 hjz1 hjz2 rfl (by decide) (by rw [hsz2]; rfl) X2.heap.size Z m d (lbVals args) rfl hz2.out (Nat.le_refl _) h1z.out (by omega) (by omega) ?_; intro A1 c1 w5 hown5 hrd5 hb5; have hs5 := hb5.size; have z0_5 := hcell2.out _ _ _ hb5 (by simp <;> omega) z0; have z1_5 := hcell2.out _ _ _ hb5 (by simp <;> omega) z1; have z2_5 := hcell2.out _ _ _ hb5 (by simp <;> omega) z2; have z3_5 := hcell2.out _ _ _ hb5 (by simp <;> omega) z3; have z4_5 := hcell2.out _ _ _ hb5 (by simp <;> omega) z4; have z5_5 := hcell2.out _ _ _ hb5 (by simp <;> omega) z5; have z6_5 := hcell2.out _ _ _ hb5 (by simp <;> omega) z6; have z7_5 := hcell2.out _ _ _ hb5 (by simp <;> omega) z7; have z8_5 := hcell2.out _ _ _ hb5 (by simp <;> omega) z8; have z9_5 := hcell2.out _ _ _ hb5 (by simp <;> omega) z9; replace hown5 := Lib.hid hown5; replace hrd5 := Lib.hid hrd5; replace hb5 := Lib.hid hb5)
    replace hX2 := Lib.hid hX2
    refine (sjoin_any A n c up ⟨pv, pm⟩ ⟨mv, mm⟩ w5 (hTX.out.later (hb2.out.trans (hb5.out.mono hs2))) hn.out hn63 hM.out ((hr2.out.below hb5.out).more hs5) hpc hmo).mono ?_
    rintro e0 w6 ⟨rfl, hb6⟩
    have hs6 := hb6.size
    have hown6 := ownsRow_below hown5.out hb6
    have hB6 := Lib.hid (hb5.out.trans (hb6.mono hs5))
    replace hb6 := Lib.hid hb6
    replace hown6 := Lib.hid hown6
    clear z0_5 z1_5 z2_5 z3_5 z4_5 z5_5 z6_5 z7_5 z8_5 z9_5 za3
    have hqm : (sjL up ⟨pv, pm⟩ ⟨mv, mm⟩).ms < 2 ^ 64 := sjL_ms hpc hmo
    cases his : bothL up pv mv with
    | false =>
      generalize sjL up ⟨pv, pm⟩ ⟨mv, mm⟩ = y at *
      obtain ⟨yv, ym⟩ := y
      replace his := Lib.hid his
      go_wp2_with fail
      refine (awake_any _ ?_).mono ?_
      · exact hTX.out.later ((hb2.out.trans (hB6.out.mono hs2)).alloc (by omega) _)
      rintro e0 wz ⟨rfl, hbz⟩
      replace hbz := Lib.hid hbz
      go_wp2_with fail
      go_ret
      exact ⟨rfl, hB0.out.trans ((Below.trans ((hb2.out.trans (hB6.out.mono hs2)).alloc (by omega) _) (hbz.out.mono ((hb2.out.trans (hB6.out.mono hs2)).alloc (by omega) _).size)).mono (by omega))⟩
    | true =>
      have hlaw := fun k => hlaw.out k his
      generalize sjL up ⟨pv, pm⟩ ⟨mv, mm⟩ = y at *
      obtain ⟨yv, ym⟩ := y
      dsimp only at hqm
      replace his := Lib.hid his
      replace hlaw := Lib.hid hlaw
      obtain ⟨X3, hX3⟩ : ∃ X3, w6.alloc (.cells #[.int .i64 yv, .int .u64 (ym : Nat)] 25) = X3 := ⟨_, rfl⟩
      have k3 : Blk X3 w6.heap.size 25 #[.int .i64 yv, .int .u64 (ym : Nat)] := by rw [← hX3]; exact Blk.new _ _ _
      have hsz3 : X3.heap.size = w6.heap.size + 1 := by rw [← hX3]; simp
      have hb3 : Below X2.heap.size X2 X3 := by rw [← hX3]; exact hB6.out.alloc (by omega) _
      have hs3 := hb3.size
      have hown3 : X3.ownsRow X2.heap.size 25 2 (.slice A1 m c1) m (lbVals args) := by rw [← hX3]; exact hown6.out.alloc _
      have y0 := hcell2.out _ _ _ hb3 (by simp <;> omega) z0
      have y1 := hcell2.out _ _ _ hb3 (by simp <;> omega) z1
      have y2 := hcell2.out _ _ _ hb3 (by simp <;> omega) z2
      have y3 := hcell2.out _ _ _ hb3 (by simp <;> omega) z3
      have y4 := hcell2.out _ _ _ hb3 (by simp <;> omega) z4
      have y5 := hcell2.out _ _ _ hb3 (by simp <;> omega) z5
      have y6 := hcell2.out _ _ _ hb3 (by simp <;> omega) z6
      have y7 := hcell2.out _ _ _ hb3 (by simp <;> omega) z7
      have y8 := hcell2.out _ _ _ hb3 (by simp <;> omega) z8
      have y9 := hcell2.out _ _ _ hb3 (by simp <;> omega) z9
      obtain ⟨y10, y11⟩ := pair_cells k3
      replace hb3 := Lib.hid hb3
      go_upto_if 58 with fail
      go_cut [] (fun wx => ∃ (k : Nat) (sv : Lb), sv = sjL up (args.getD k ⟨0, 0⟩) ⟨mv, mm⟩ ∧ Reads wx wx.heap.size 2 A1 m (lbVals (args.set k sv)) ∧ Below X2.heap.size X2 wx ∧ Blk wx w6.heap.size 25 #[.int .i64 yv, .int .u64 (ym : Nat)])
      case first =>
        by_cases hm0 : m = 0
        · have hmn : ¬ ((0 : Int) < (m : Int)) := by omega
          have hrd3 := Lib.hid (Reads.of_own hown3)
          have hargs : args = [] := List.eq_nil_of_length_eq_zero (by rw [ham.out]; exact hm0)
          replace hown3 := Lib.hid hown3
          replace k3 := Lib.hid k3
          replace hargs := Lib.hid hargs
          replace hm0 := Lib.hid hm0
          replace hX3 := Lib.hid hX3
          go_wp2_with fail
          go_meet
          refine ⟨0, _, rfl, ?_, hb3.out, k3.out⟩
          have := hrd3.out
          rw [hargs.out] at this ⊢
          exact this
        · have hmp : (0 : Int) < (m : Int) := by omega
          obtain ⟨g, cur, hA1, hgb, kg, hcur, hset⟩ := own_labels hown3 (by omega) ham.out
          subst hA1
          obtain ⟨k, hk, hkm⟩ := grow_idx t m (by omega) (by omega)
          obtain ⟨cu0, cu1⟩ := hcur k hkm
          have ha0 := add0 g (k * 2)
          have q0 : X3.cell? ⟨g, k * 2, none⟩ = some (.int .i64 (args.getD k ⟨0, 0⟩).lv) := by rw [kg.cell]; exact cu0
          have q1 : X3.cell? ⟨g, k * 2 + 1, none⟩ = some (.int .u64 ((args.getD k ⟨0, 0⟩).ms : Nat)) := by rw [kg.cell]; exact cu1
          have hym := hlm.out k
          have hlaw := hlaw.out k
          have hlms : Lms (args.set k (sjL up (args.getD k ⟨0, 0⟩) ⟨mv, mm⟩)) := set_lms hlm.out (sjL_ms hym hmo)
          have hbm := hset k (sjL up (args.getD k ⟨0, 0⟩) ⟨mv, mm⟩)
          have hg6 := (hown6.out.lt g (by simp [Value.ownBlock])).2
          have hJ := sjoin_any A n c up (args.getD k ⟨0, 0⟩) ⟨mv, mm⟩
          generalize hse : sjL up (args.getD k ⟨0, 0⟩) ⟨mv, mm⟩ = sv at *
          generalize hev : args.getD k ⟨0, 0⟩ = ev at *
          obtain ⟨ev, em⟩ := ev
          obtain ⟨sv, sm⟩ := sv
          dsimp only at q0 q1 hym hbm
          simp only [lbV] at hJ
          replace hJ := Lib.hid hJ
          replace hse := Lib.hid hse
          replace hev := Lib.hid hev
          replace hlaw := Lib.hid hlaw
          replace hlms := Lib.hid hlms
          replace hbm := Lib.hid hbm
          replace hset := Lib.hid hset
          replace hcur := Lib.hid hcur
          replace cu0 := Lib.hid cu0
          replace cu1 := Lib.hid cu1
          replace kg := Lib.hid kg
          replace hown3 := Lib.hid hown3
          replace k3 := Lib.hid k3
          have hkk := hk
          replace hkk := Lib.hid hkk
          go_upto_region 12 with fail
          rw [hk]
          have hcell3 := Lib.hid (fun (W : World) (p : Addr) (v : Value) (h : Below X3.heap.size X3 W) (hp : p.block < X3.heap.size) (hv : X3.cell? p = some v) => (h.cell hp).trans hv)
          replace hX3 := Lib.hid hX3
          go_region_with (first
            | (go_at_call 19
               refine (hJ.out _ ?_ hn.out hn63 hM.out ?_ hym hmo).mono ?_
               · first | exact hTX.out.later (hb2.out.trans (hb3.out.mono hs2)).drew | exact hTX.out.later (hb2.out.trans (hb3.out.mono hs2))
               · exact (hr2.out.below hb3.out).more hs3
               rintro e0 w7 ⟨rfl, hb7⟩
               have hb7 : RowKit.Hid (Below X3.heap.size X3 w7) := by
                 refine Lib.hid ?_
                 first | exact hb7 | exact Below.trans (Below.refl _ _).drew hb7
               have kg7 := kg.out.below hb7.out kg.out.lt
               have kf0 := kg7.frozen (k * 2)
               have kf1 := kg7.frozen (k * 2 + 1)
               have q07 := (kg7.cell (k * 2)).trans cu0.out
               have q17 := (kg7.cell (k * 2 + 1)).trans cu1.out
               replace kg7 := Lib.hid kg7))
          all_goals (go_wp2_with fail; go_meet)
          all_goals refine ⟨k, ⟨sv, sm⟩, by rw [hev.out]; exact hse.out.symm, hbm.out _ hkm ((kg7.out.set_ (k * 2) _).set_ (k * 2 + 1) _), ((hb3.out.trans (hb7.out.mono hs3)).setCell hgb _).setCell hgb _, ((k3.out.below hb7.out k3.out.lt).far (by simp; omega) _).far (by simp; omega) _⟩
      case rest =>
        obtain ⟨k, sv, rfl, hrs, hB9, k10⟩ := hcut
        obtain ⟨w9, hV0, rfl⟩ : ∃ V, Below X2.heap.size X2 V ∧ V = _ := ⟨_, hB9, rfl⟩
        clear hV0
        have hs9 := hB9.size
        have hlen : (args.set k (sjL up (args.getD k ⟨0, 0⟩) ⟨mv, mm⟩)).length = m := by rw [List.length_set]; exact ham.out
        have hlms : Lms (args.set k (sjL up (args.getD k ⟨0, 0⟩) ⟨mv, mm⟩)) := set_lms hlm.out (sjL_ms (hlm.out k) hmo)
        obtain ⟨o1, o2⟩ := hlaw.out k
        clear hlaw
        generalize args.set k (sjL up (args.getD k ⟨0, 0⟩) ⟨mv, mm⟩) = Bs at *
        clear y0 y1 y2 y3 y4 y5 y6 y7 y8 y9 y10 y11
        have z0_9 := hcell2.out _ _ _ hB9 (by simp <;> omega) z0
        have z1_9 := hcell2.out _ _ _ hB9 (by simp <;> omega) z1
        have z2_9 := hcell2.out _ _ _ hB9 (by simp <;> omega) z2
        have z3_9 := hcell2.out _ _ _ hB9 (by simp <;> omega) z3
        have z4_9 := hcell2.out _ _ _ hB9 (by simp <;> omega) z4
        have z5_9 := hcell2.out _ _ _ hB9 (by simp <;> omega) z5
        have z6_9 := hcell2.out _ _ _ hB9 (by simp <;> omega) z6
        have z7_9 := hcell2.out _ _ _ hB9 (by simp <;> omega) z7
        have z8_9 := hcell2.out _ _ _ hB9 (by simp <;> omega) z8
        have z9_9 := hcell2.out _ _ _ hB9 (by simp <;> omega) z9
        obtain ⟨z10, z11⟩ := pair_cells k10
        have hb9 := Lib.hid hB9
        have hrd := Lib.hid hrs
        have hbm : (putL up ⟨lv, lm⟩ Bs ⟨yv, ym⟩).ms < 2 ^ 64 := putL_ms hlms hqm
        replace k10 := Lib.hid k10
        replace hlen := Lib.hid hlen
        replace hlms := Lib.hid hlms
        replace hX3 := Lib.hid hX3
        clear hrs hB9
        go_wp2_with fail
        refine (put_any A n c up ⟨lv, lm⟩ A1 m c1 Bs ⟨yv, ym⟩ w9 (hTX.out.later (hb2.out.trans (hb9.out.mono hs2))) hn.out hn63 hM.out ((hr2.out.below hb9.out).more hs9) hl hqm hlen.out hm63 hrd.out hlms.out).mono ?_
        rintro e0 w10 ⟨rfl, hb10'⟩
        have hb10 : Below X2.heap.size X2 w10 := hb9.out.trans (hb10'.mono hs9)
        have hs10 := hb10.size
        rw [o1]
        generalize putL up ⟨lv, lm⟩ Bs ⟨yv, ym⟩ = b at *
        obtain ⟨bv, bm⟩ := b
        dsimp only at hbm
        replace o1 := Lib.hid o1
        replace hb10 := Lib.hid hb10
        replace hb10' := Lib.hid hb10'
        obtain ⟨X4, hX4⟩ : ∃ X4, w10.alloc (.cells #[.int .i64 bv, .int .u64 (bm : Nat)] 25) = X4 := ⟨_, rfl⟩
        have k4 : Blk X4 w10.heap.size 25 #[.int .i64 bv, .int .u64 (bm : Nat)] := by rw [← hX4]; exact Blk.new _ _ _
        have hb11 : Below X2.heap.size X2 X4 := by rw [← hX4]; exact hb10.out.alloc hs10 _
        have hs11 := hb11.size
        clear z0_9 z1_9 z2_9 z3_9 z4_9 z5_9 z6_9 z7_9 z8_9 z9_9 z10 z11
        have z0_11 := hcell2.out _ _ _ hb11 (by simp <;> omega) z0
        have z1_11 := hcell2.out _ _ _ hb11 (by simp <;> omega) z1
        have z2_11 := hcell2.out _ _ _ hb11 (by simp <;> omega) z2
        have z3_11 := hcell2.out _ _ _ hb11 (by simp <;> omega) z3
        have z4_11 := hcell2.out _ _ _ hb11 (by simp <;> omega) z4
        have z5_11 := hcell2.out _ _ _ hb11 (by simp <;> omega) z5
        have z6_11 := hcell2.out _ _ _ hb11 (by simp <;> omega) z6
        have z7_11 := hcell2.out _ _ _ hb11 (by simp <;> omega) z7
        have z8_11 := hcell2.out _ _ _ hb11 (by simp <;> omega) z8
        have z9_11 := hcell2.out _ _ _ hb11 (by simp <;> omega) z9
        obtain ⟨z10, z11⟩ := pair_cells k4
        replace hb11 := Lib.hid hb11
        replace k4 := Lib.hid k4
        go_wp2_with fail
        replace hX4 := Lib.hid hX4
        refine (sleq_any A n c up ⟨xv, xm⟩ ⟨bv, bm⟩ X4 (hTX.out.later (hb2.out.trans (hb11.out.mono hs2))) hn.out hn63 hM.out ((hr2.out.below hb11.out).more hs11) hxm hbm).mono ?_
        rintro e0 w12 ⟨rfl, hb12⟩
        rw [o2]
        have hb12 := Lib.hid (hb11.out.trans (hb12.mono hs11))
        replace o2 := Lib.hid o2
        go_wp2_with fail
        refine (awake_any w12 ?_).mono ?_
        · exact hTX.out.later (hb2.out.trans (hb12.out.mono hs2))
        rintro e0 wz ⟨rfl, hbz⟩
        replace hbz := Lib.hid hbz
        go_wp2_with fail
        go_ret
        exact ⟨rfl, hB0.out.trans ((Below.trans (hb2.out.trans (hb12.out.mono hs2)) (hbz.out.mono (hb2.out.trans (hb12.out.mono hs2)).size)).mono (by omega))⟩
end Go.Proofs.YtfloonpchjbmnaaDoor
