/- The walk of SolveLeast. -/
import Derived.Deep.RegionHeld3
import Derived.Deep.DeepCutAuto
import Derived.Test.YtleckdbdhkgcpaaDoorVy
import Derived.Test.YtleckdbdhkgcpaaDoorVa
import Derived.Test.YtleckdbdhkgcpaaDoorVn
import Derived.Test.YtleckdbdhkgcpaaDoorVm
import Derived.Test.YtleckdbdhkgcpaaDoorRg
namespace Go.Proofs.YtleckdbdhkgcpaaDoor
open Go.RowKit Go.Shelf Go.Idl
set_option linter.unusedSimpArgs false
set_option linter.unusedVariables false

theorem u64s_one (l : List Nat) : ∀ u ∈ u64s l, u.oneCell' = true := by
  intro u hu
  unfold u64s at hu
  obtain ⟨p, _, h⟩ := List.mem_map.1 hu
  rw [← h]
  rfl

set_option maxHeartbeats 1600000 in
set_option maxRecDepth 100000 in
theorem walkSolveLeast (A : Option Addr) (n c : Nat) (up : List Nat) (C D : Option Addr) (l lc m mc : Nat) (consts : List Lb) (needs : List (List Int)) (w : World) (hT : Tab w) (hn : up.length = n) (hn63 : n ≤ maxLen) (hM : Masks up) (hr : Reads w w.heap.size 1 A n (u64s up))
    (hl : consts.length = l) (hl63 : l ≤ maxLen) (hc : Reads w w.heap.size 2 C l (lbVals consts)) (hcm : ∀ k, (consts.getD k z0).ms < 2 ^ 64) (hm63 : m ≤ maxLen) (hd : NRows w w.heap.size D m needs) :
    Calls Tryd.prog 7 #[.slice A n c, .agg #[.slice C l lc, .slice D m mc]] w fun e w' => e = .returned (.bool true) ∧ Below w.heap.size w w' := by
  have hml : maxLen = 9223372036854775807 := rfl
  have hlenm : needs.length = m := hd.1
  obtain ⟨i0, hi0, hz0, hz1, hz2⟩ := info_parts u64_info
  have h1 := Lib.hid (u64s_one up)
  obtain ⟨X, hX⟩ : ∃ X, w.alloc (.cells #[.slice C l lc, .slice D m mc] 26) = X := ⟨_, rfl⟩
  have hb0 : Below w.heap.size w X := by rw [← hX]; exact (Below.refl _ w).alloc (Nat.le_refl _) _
  have k0 : Blk X w.heap.size 26 #[.slice C l lc, .slice D m mc] := by rw [← hX]; exact Blk.new w _ _
  obtain ⟨s0, s1⟩ := pair_cells k0
  have hFew := few_any C D l lc m mc needs X hm63 ((hd.below hb0).more hb0.size)
  have hAw := fun (W : World) (hb : Below w.heap.size w W) => awake_any W (hT.later hb)
  replace hFew := Lib.hid hFew
  replace hAw := Lib.hid hAw
  replace hb0 := Lib.hid hb0
  replace k0 := Lib.hid k0
  replace hr := Lib.hid hr
  replace hM := Lib.hid hM
  replace hT := Lib.hid hT
  replace hc := Lib.hid hc
  replace hcm := Lib.hid hcm
  replace hd := Lib.hid hd
  replace hn := Lib.hid hn
  replace hl := Lib.hid hl
  replace hlenm := Lib.hid hlenm
  cases hf : fewB l m needs with
  | false =>
    replace hf := Lib.hid hf
    go_enter Tryd.func7, Tryd.ntmps7
    go_wp2_with fail
    refine hFew.out.mono ?_
    rintro e w1 ⟨rfl, hb1⟩
    rw [hf.out]
    have hB := Lib.hid (hb0.out.trans (hb1.mono hb0.out.size))
    clear hb1
    go_wp2
    go_ret
    exact ⟨rfl, hB.out⟩
  | true =>
    by_cases hbig : 8 < n
    · have h2 : ((8 : Int) < (n : Int)) := by omega
      replace hf := Lib.hid hf
      go_enter Tryd.func7, Tryd.ntmps7
      go_wp2_with fail
      refine hFew.out.mono ?_
      rintro e w1 ⟨rfl, hb1⟩
      rw [hf.out]
      have hB := Lib.hid (hb0.out.trans (hb1.mono hb0.out.size))
      clear hb1
      go_wp2
      go_ret
      exact ⟨rfl, hB.out⟩
    have h2 : ¬ ((8 : Int) < (n : Int)) := by omega
    obtain ⟨hl60, hm60, hlen60⟩ := fewB_iff.1 hf
    have hCop := fun (W : World) (hb : Below w.heap.size w W) => copied_any C D l lc m mc consts needs W hl.out hl60 hm60 hlen60 ((hc.out.below hb).more hb.size) ((hd.out.below hb).more hb.size)
    have hRR := fun (W : World) (hb : Below w.heap.size w W) => rsright_any A n c up C D l lc m mc consts needs W hn.out hn63 hM.out ((hr.out.below hb).more hb.size) hl.out hl63 ((hc.out.below hb).more hb.size) hm63 ((hd.out.below hb).more hb.size)
    have hSR := fun (W : World) (A1 : Option Addr) (c1 : Nat) (A2 : Option Addr) (c2 : Nat) (A3 : Option Addr) (c3 : Nat) (hb : Below w.heap.size w W) (q1 : Reads W W.heap.size 1 A1 n (u64s up)) (q2 : Reads W W.heap.size 2 A2 l (lbVals consts)) (q3 : NRows W W.heap.size A3 m needs) => sright_any A1 n c1 up A2 A3 l c2 m c3 consts needs W (hT.out.later hb) hn.out hn63 hM.out q1 hl.out hl63 q2 hm63 q3
    replace hCop := Lib.hid hCop
    replace hRR := Lib.hid hRR
    replace hSR := Lib.hid hSR
    replace hlen60 := Lib.hid hlen60
    cases hq : sysB up consts needs with
    | false =>
      have hSol := fun (W : World) (A1 : Option Addr) (c1 : Nat) (A2 : Option Addr) (c2 : Nat) (A3 : Option Addr) (c3 : Nat) (hb : Below w.heap.size w W) (q1 : Reads W W.heap.size 1 A1 n (u64s up)) (q2 : Reads W W.heap.size 2 A2 l (lbVals consts)) (q3 : NRows W W.heap.size A3 m needs) => solve_no A1 n c1 up A2 A3 l c2 m c3 consts needs W (hT.out.later hb) hn.out hn63 hM.out q1 hl.out hl63 q2 hm63 q3 hq
      have hMo := fun (W : World) (A1 : Option Addr) (c1 : Nat) (A2 : Option Addr) (c2 : Nat) (A3 : Option Addr) (c3 : Nat) (hb : Below w.heap.size w W) (q1 : Reads W W.heap.size 1 A1 n (u64s up)) (q2 : Reads W W.heap.size 2 A2 l (lbVals consts)) (q3 : NRows W W.heap.size A3 m needs) => most_no A1 n c1 up A2 A3 l c2 m c3 consts needs W (hT.out.later hb) hn.out hn63 hM.out q1 hl.out hl63 q2 hm63 q3 hq
      replace hSol := Lib.hid hSol
      replace hMo := Lib.hid hMo
      replace hf := Lib.hid hf
      replace hq := Lib.hid hq
      go_enter Tryd.func7, Tryd.ntmps7
      go_wp2_with fail
      refine hFew.out.mono ?_
      rintro e Y ⟨rfl, hb1⟩
      rw [hf.out]
      have hBY := Lib.hid (hb0.out.trans (hb1.mono hb0.out.size))
      have kY := k0.out.below hb1 k0.out.lt
      obtain ⟨a0, a1⟩ := pair_cells kY
      have hrY := Lib.hid ((hr.out.below hBY.out).more hBY.out.size)
      have hcell := Lib.hid (fun (W : World) (p : Addr) (v : Value) (h : Below Y.heap.size Y W) (hp : p.block < Y.heap.size) (hv : Y.cell? p = some v) => (h.cell hp).trans hv)
      have hwY := kY.lt
      replace kY := Lib.hid kY
      clear hb1 s0 s1
      go_upto_region 3 with fail
      go_cut [5, 6, 7] (fun s5 s6 s7 wx => s5 = .slice none 0 0 ∧ s6 = .int .i64 0 ∧ s7 = .int .i64 1 ∧ Below Y.heap.size Y wx)
      case first =>
        go_region_held3 (fun w' => w'.cell? ⟨w.heap.size, 0, none⟩ = some (.slice C l lc) ∧ w'.cell? ⟨w.heap.size, 1, none⟩ = some (.slice D m mc))
          (first
              | (refine ⟨?_, ?_⟩ <;> (refine hcell.out _ _ _ ?_ (by first | omega | (simp <;> omega)) (by assumption); (repeat (first | with_reducible exact hb3.out | with_reducible exact hb2.out | with_reducible exact hb1.out | with_reducible exact Below.refl _ _ | with_reducible refine Below.drew ?_ | (with_reducible refine Below.alloc ?_ ?_ _; rotate_left; · first | omega | (simp <;> omega)) | (with_reducible refine Below.setCell ?_ ?_ _; rotate_left; · first | omega | (simp <;> omega))))))
              | (refine hcell.out _ _ _ ?_ (by first | omega | (simp <;> omega)) (by assumption); (repeat (first | with_reducible exact hb3.out | with_reducible exact hb2.out | with_reducible exact hb1.out | with_reducible exact Below.refl _ _ | with_reducible refine Below.drew ?_ | (with_reducible refine Below.alloc ?_ ?_ _; rotate_left; · first | omega | (simp <;> omega)) | (with_reducible refine Below.setCell ?_ ?_ _; rotate_left; · first | omega | (simp <;> omega)))))
              | go_keep)
          (first
            | (refine step_append_any _ (by rfl) _ _ _ (by rfl) Y.heap.size 27 i0 _ 1 8 Tryd.underlying22 hi0 hz0 hz1 hz2 rfl (by decide) (.slice (some ⟨_, 0, none⟩) 0 0) 0 [] (by rfl) (own_emptyV (base := Y.heap.size) (g := _) (by (repeat (first  | exact Blk.new_at _ _ _ _ (by first | rfl | (simp <;> omega)) | with_reducible refine Blk.drew ?_ | with_reducible refine Blk.alloc ?_ _))) (by first | omega | (simp <;> omega))) Y.heap.size A n c (u64s up) (by rfl) (by (repeat (first | with_reducible exact hrY.out | with_reducible refine Reads.drew ?_ | (with_reducible refine Reads.alloc ?_ ?_ _; rotate_left; · first | omega | (simp <;> omega))))) h1.out (by first | omega | (simp <;> omega)) (by first | omega | (simp <;> omega)) (by first | omega | (simp <;> omega)) ?_
               intro v1 w1 hown1 hg1 hat1
               rw [Nat.zero_add, List.nil_append] at hown1
               obtain ⟨A1, c1, rfl⟩ := ownsRow_slice hown1
               have hb1 := Lib.hid ((show Below Y.heap.size Y _ by (repeat (first  | with_reducible exact Below.refl _ _ | with_reducible refine Below.drew ?_ | (with_reducible refine Below.alloc ?_ ?_ _; rotate_left; · first | omega | (simp <;> omega)) | (with_reducible refine Below.setCell ?_ ?_ _; rotate_left; · first | omega | (simp <;> omega))))).grown hg1 (by first | omega | (simp <;> omega)) (fun j hj => by simp [Value.ownBlock] at hj; omega))
               have hrA := Lib.hid (Reads.of_own hown1)
               have hs1 := hb1.out.size
               clear hown1 hg1 hat1)
            | (go_at_call 12
               refine (hCop.out _ ?_).mono ?_
               · exact hBY.out.trans ((show Below Y.heap.size Y _ by (repeat (first | with_reducible exact hb2.out | with_reducible exact hb1.out | with_reducible exact Below.refl _ _ | with_reducible refine Below.drew ?_ | (with_reducible refine Below.alloc ?_ ?_ _; rotate_left; · first | omega | (simp <;> omega)) | (with_reducible refine Below.setCell ?_ ?_ _; rotate_left; · first | omega | (simp <;> omega))))).mono hBY.out.size)
               rintro e w2 ⟨A2, c2, A3, c3, row, rfl, hO2, hR2, hb2'⟩
               have hb2 := Lib.hid (Below.trans (show Below Y.heap.size Y _ by (repeat (first | with_reducible exact hb2.out | with_reducible exact hb1.out | with_reducible exact Below.refl _ _ | with_reducible refine Below.drew ?_ | (with_reducible refine Below.alloc ?_ ?_ _; rotate_left; · first | omega | (simp <;> omega)) | (with_reducible refine Below.setCell ?_ ?_ _; rotate_left; · first | omega | (simp <;> omega))))) (hb2'.mono (by first | omega | (simp <;> omega))))
               have hrA2 := Lib.hid ((Reads.below (by (repeat (first | with_reducible exact hrA.out | with_reducible refine Reads.drew ?_))) hb2').more hb2'.size)
               have hc2 := Lib.hid (Reads.of_own hO2)
               have hd2 := Lib.hid (hR2.nrows hlenm.out)
               have hs2 := hb2.out.size
               clear hO2 hR2 hb2')
            | (go_at_call 9
               refine (hSol.out _ A1 c1 A2 c2 A3 c3 ?_ ?_ ?_ ?_).mono ?_
               · exact hBY.out.trans ((show Below Y.heap.size Y _ by (repeat (first | with_reducible exact hb2.out | with_reducible exact hb1.out | with_reducible exact Below.refl _ _ | with_reducible refine Below.drew ?_ | (with_reducible refine Below.alloc ?_ ?_ _; rotate_left; · first | omega | (simp <;> omega)) | (with_reducible refine Below.setCell ?_ ?_ _; rotate_left; · first | omega | (simp <;> omega))))).mono hBY.out.size)
               · exact hrA2.out
               · exact hc2.out
               · exact hd2.out
               rintro e w3 ⟨rfl, hb3'⟩
               have hb3 := Lib.hid (Below.trans (show Below Y.heap.size Y _ by (repeat (first | with_reducible exact hb2.out | with_reducible exact hb1.out | with_reducible exact Below.refl _ _ | with_reducible refine Below.drew ?_ | (with_reducible refine Below.alloc ?_ ?_ _; rotate_left; · first | omega | (simp <;> omega)) | (with_reducible refine Below.setCell ?_ ?_ _; rotate_left; · first | omega | (simp <;> omega))))) (hb3'.mono (by first | omega | (simp <;> omega))))
               clear hb3')
            | fail)
        all_goals (go_wp2_with fail; go_meet)
        all_goals exact ⟨rfl, rfl, rfl, hb3.out⟩
      case rest =>
        obtain ⟨rfl, rfl, rfl, hbW⟩ := hcut
        obtain ⟨Y1, hbW0, rfl⟩ : ∃ Z, Below Y.heap.size Y Z ∧ Z = _ := ⟨_, hbW, rfl⟩
        clear hbW0
        have hBY1 := Lib.hid (hBY.out.trans (hbW.mono hBY.out.size))
        have kY1 := kY.out.below hbW kY.out.lt
        clear a0 a1
        obtain ⟨a0, a1⟩ := pair_cells kY1
        have hrY1 := Lib.hid ((hr.out.below hBY1.out).more hBY1.out.size)
        have hcell1 := Lib.hid (fun (W : World) (p : Addr) (v : Value) (h : Below Y1.heap.size Y1 W) (hp : p.block < Y1.heap.size) (hv : Y1.cell? p = some v) => (h.cell hp).trans hv)
        have hwY1 := kY1.lt
        replace kY1 := Lib.hid kY1
        clear hbW
        go_wp2_with fail
        refine (hRR.out _ hBY1.out).mono ?_
        rintro e Y2 ⟨rfl, hbW⟩
        rw [hq.out]
        have hBY2 := Lib.hid (hBY1.out.trans (hbW.mono hBY1.out.size))
        have kY2 := kY1.out.below hbW kY1.out.lt
        clear a0 a1
        obtain ⟨a0, a1⟩ := pair_cells kY2
        have hrY2 := Lib.hid ((hr.out.below hBY2.out).more hBY2.out.size)
        have hcell2 := Lib.hid (fun (W : World) (p : Addr) (v : Value) (h : Below Y2.heap.size Y2 W) (hp : p.block < Y2.heap.size) (hv : Y2.cell? p = some v) => (h.cell hp).trans hv)
        have hwY2 := kY2.lt
        replace kY2 := Lib.hid kY2
        clear hbW
        go_upto_region 5 with fail
        go_cut [9] (fun s9 wx => s9 = .int .i64 0 ∧ Below Y2.heap.size Y2 wx)
        case first =>
          go_region_held3 (fun w' => w'.cell? ⟨w.heap.size, 0, none⟩ = some (.slice C l lc) ∧ w'.cell? ⟨w.heap.size, 1, none⟩ = some (.slice D m mc))
            (first
                | (refine ⟨?_, ?_⟩ <;> (refine hcell2.out _ _ _ ?_ (by first | omega | (simp <;> omega)) (by assumption); (repeat (first | with_reducible exact hb3.out | with_reducible exact hb2.out | with_reducible exact hb1.out | with_reducible exact Below.refl _ _ | with_reducible refine Below.drew ?_ | (with_reducible refine Below.alloc ?_ ?_ _; rotate_left; · first | omega | (simp <;> omega)) | (with_reducible refine Below.setCell ?_ ?_ _; rotate_left; · first | omega | (simp <;> omega))))))
                | (refine hcell2.out _ _ _ ?_ (by first | omega | (simp <;> omega)) (by assumption); (repeat (first | with_reducible exact hb3.out | with_reducible exact hb2.out | with_reducible exact hb1.out | with_reducible exact Below.refl _ _ | with_reducible refine Below.drew ?_ | (with_reducible refine Below.alloc ?_ ?_ _; rotate_left; · first | omega | (simp <;> omega)) | (with_reducible refine Below.setCell ?_ ?_ _; rotate_left; · first | omega | (simp <;> omega)))))
                | go_keep)
            (first
              | (refine step_append_any _ (by rfl) _ _ _ (by rfl) Y2.heap.size 27 i0 _ 1 8 Tryd.underlying22 hi0 hz0 hz1 hz2 rfl (by decide) (.slice (some ⟨_, 0, none⟩) 0 0) 0 [] (by rfl) (own_emptyV (base := Y2.heap.size) (g := _) (by (repeat (first  | exact Blk.new_at _ _ _ _ (by first | rfl | (simp <;> omega)) | with_reducible refine Blk.drew ?_ | with_reducible refine Blk.alloc ?_ _))) (by first | omega | (simp <;> omega))) Y2.heap.size A n c (u64s up) (by rfl) (by (repeat (first | with_reducible exact hrY2.out | with_reducible refine Reads.drew ?_ | (with_reducible refine Reads.alloc ?_ ?_ _; rotate_left; · first | omega | (simp <;> omega))))) h1.out (by first | omega | (simp <;> omega)) (by first | omega | (simp <;> omega)) (by first | omega | (simp <;> omega)) ?_
                 intro v1 w1 hown1 hg1 hat1
                 rw [Nat.zero_add, List.nil_append] at hown1
                 obtain ⟨A1, c1, rfl⟩ := ownsRow_slice hown1
                 have hb1 := Lib.hid ((show Below Y2.heap.size Y2 _ by (repeat (first  | with_reducible exact Below.refl _ _ | with_reducible refine Below.drew ?_ | (with_reducible refine Below.alloc ?_ ?_ _; rotate_left; · first | omega | (simp <;> omega)) | (with_reducible refine Below.setCell ?_ ?_ _; rotate_left; · first | omega | (simp <;> omega))))).grown hg1 (by first | omega | (simp <;> omega)) (fun j hj => by simp [Value.ownBlock] at hj; omega))
                 have hrA := Lib.hid (Reads.of_own hown1)
                 have hs1 := hb1.out.size
                 clear hown1 hg1 hat1)
              | (go_at_call 12
                 refine (hCop.out _ ?_).mono ?_
                 · exact hBY2.out.trans ((show Below Y2.heap.size Y2 _ by (repeat (first | with_reducible exact hb2.out | with_reducible exact hb1.out | with_reducible exact Below.refl _ _ | with_reducible refine Below.drew ?_ | (with_reducible refine Below.alloc ?_ ?_ _; rotate_left; · first | omega | (simp <;> omega)) | (with_reducible refine Below.setCell ?_ ?_ _; rotate_left; · first | omega | (simp <;> omega))))).mono hBY2.out.size)
                 rintro e w2 ⟨A2, c2, A3, c3, row, rfl, hO2, hR2, hb2'⟩
                 have hb2 := Lib.hid (Below.trans (show Below Y2.heap.size Y2 _ by (repeat (first | with_reducible exact hb2.out | with_reducible exact hb1.out | with_reducible exact Below.refl _ _ | with_reducible refine Below.drew ?_ | (with_reducible refine Below.alloc ?_ ?_ _; rotate_left; · first | omega | (simp <;> omega)) | (with_reducible refine Below.setCell ?_ ?_ _; rotate_left; · first | omega | (simp <;> omega))))) (hb2'.mono (by first | omega | (simp <;> omega))))
                 have hrA2 := Lib.hid ((Reads.below (by (repeat (first | with_reducible exact hrA.out | with_reducible refine Reads.drew ?_))) hb2').more hb2'.size)
                 have hc2 := Lib.hid (Reads.of_own hO2)
                 have hd2 := Lib.hid (hR2.nrows hlenm.out)
                 have hs2 := hb2.out.size
                 clear hO2 hR2 hb2')
              | (go_at_call 19
                 refine (hMo.out _ A1 c1 A2 c2 A3 c3 ?_ ?_ ?_ ?_).mono ?_
                 · exact hBY2.out.trans ((show Below Y2.heap.size Y2 _ by (repeat (first | with_reducible exact hb2.out | with_reducible exact hb1.out | with_reducible exact Below.refl _ _ | with_reducible refine Below.drew ?_ | (with_reducible refine Below.alloc ?_ ?_ _; rotate_left; · first | omega | (simp <;> omega)) | (with_reducible refine Below.setCell ?_ ?_ _; rotate_left; · first | omega | (simp <;> omega))))).mono hBY2.out.size)
                 · exact hrA2.out
                 · exact hc2.out
                 · exact hd2.out
                 rintro e w3 ⟨rfl, hb3'⟩
                 have hb3 := Lib.hid (Below.trans (show Below Y2.heap.size Y2 _ by (repeat (first | with_reducible exact hb2.out | with_reducible exact hb1.out | with_reducible exact Below.refl _ _ | with_reducible refine Below.drew ?_ | (with_reducible refine Below.alloc ?_ ?_ _; rotate_left; · first | omega | (simp <;> omega)) | (with_reducible refine Below.setCell ?_ ?_ _; rotate_left; · first | omega | (simp <;> omega))))) (hb3'.mono (by first | omega | (simp <;> omega))))
                 clear hb3')
              | fail)
          all_goals (go_wp2_with fail; go_meet)
          all_goals exact ⟨rfl, hb3.out⟩
        case rest =>
          obtain ⟨rfl, hbW⟩ := hcut
          obtain ⟨Y3, hbW0, rfl⟩ : ∃ Z, Below Y2.heap.size Y2 Z ∧ Z = _ := ⟨_, hbW, rfl⟩
          clear hbW0
          have hBY3 := Lib.hid (hBY2.out.trans (hbW.mono hBY2.out.size))
          have kY3 := kY2.out.below hbW kY2.out.lt
          clear a0 a1
          obtain ⟨a0, a1⟩ := pair_cells kY3
          have hrY3 := Lib.hid ((hr.out.below hBY3.out).more hBY3.out.size)
          have hcell3 := Lib.hid (fun (W : World) (p : Addr) (v : Value) (h : Below Y3.heap.size Y3 W) (hp : p.block < Y3.heap.size) (hv : Y3.cell? p = some v) => (h.cell hp).trans hv)
          have hwY3 := kY3.lt
          replace kY3 := Lib.hid kY3
          clear hbW
          go_upto_region 6 with fail
          go_cut [48] (fun s48 wx => s48 = .bool false ∧ Below Y3.heap.size Y3 wx)
          case first =>
            go_region_held3 (fun w' => w'.cell? ⟨w.heap.size, 0, none⟩ = some (.slice C l lc) ∧ w'.cell? ⟨w.heap.size, 1, none⟩ = some (.slice D m mc))
              (first
                  | (refine ⟨?_, ?_⟩ <;> (refine hcell3.out _ _ _ ?_ (by first | omega | (simp <;> omega)) (by assumption); (repeat (first | with_reducible exact hb3.out | with_reducible exact hb2.out | with_reducible exact hb1.out | with_reducible exact Below.refl _ _ | with_reducible refine Below.drew ?_ | (with_reducible refine Below.alloc ?_ ?_ _; rotate_left; · first | omega | (simp <;> omega)) | (with_reducible refine Below.setCell ?_ ?_ _; rotate_left; · first | omega | (simp <;> omega))))))
                  | (refine hcell3.out _ _ _ ?_ (by first | omega | (simp <;> omega)) (by assumption); (repeat (first | with_reducible exact hb3.out | with_reducible exact hb2.out | with_reducible exact hb1.out | with_reducible exact Below.refl _ _ | with_reducible refine Below.drew ?_ | (with_reducible refine Below.alloc ?_ ?_ _; rotate_left; · first | omega | (simp <;> omega)) | (with_reducible refine Below.setCell ?_ ?_ _; rotate_left; · first | omega | (simp <;> omega)))))
                  | go_keep)
              (first
                | (refine step_append_any _ (by rfl) _ _ _ (by rfl) Y3.heap.size 27 i0 _ 1 8 Tryd.underlying22 hi0 hz0 hz1 hz2 rfl (by decide) (.slice (some ⟨_, 0, none⟩) 0 0) 0 [] (by rfl) (own_emptyV (base := Y3.heap.size) (g := _) (by (repeat (first  | exact Blk.new_at _ _ _ _ (by first | rfl | (simp <;> omega)) | with_reducible refine Blk.drew ?_ | with_reducible refine Blk.alloc ?_ _))) (by first | omega | (simp <;> omega))) Y3.heap.size A n c (u64s up) (by rfl) (by (repeat (first | with_reducible exact hrY3.out | with_reducible refine Reads.drew ?_ | (with_reducible refine Reads.alloc ?_ ?_ _; rotate_left; · first | omega | (simp <;> omega))))) h1.out (by first | omega | (simp <;> omega)) (by first | omega | (simp <;> omega)) (by first | omega | (simp <;> omega)) ?_
                   intro v1 w1 hown1 hg1 hat1
                   rw [Nat.zero_add, List.nil_append] at hown1
                   obtain ⟨A1, c1, rfl⟩ := ownsRow_slice hown1
                   have hb1 := Lib.hid ((show Below Y3.heap.size Y3 _ by (repeat (first  | with_reducible exact Below.refl _ _ | with_reducible refine Below.drew ?_ | (with_reducible refine Below.alloc ?_ ?_ _; rotate_left; · first | omega | (simp <;> omega)) | (with_reducible refine Below.setCell ?_ ?_ _; rotate_left; · first | omega | (simp <;> omega))))).grown hg1 (by first | omega | (simp <;> omega)) (fun j hj => by simp [Value.ownBlock] at hj; omega))
                   have hrA := Lib.hid (Reads.of_own hown1)
                   have hs1 := hb1.out.size
                   clear hown1 hg1 hat1)
                | (go_at_call 12
                   refine (hCop.out _ ?_).mono ?_
                   · exact hBY3.out.trans ((show Below Y3.heap.size Y3 _ by (repeat (first | with_reducible exact hb2.out | with_reducible exact hb1.out | with_reducible exact Below.refl _ _ | with_reducible refine Below.drew ?_ | (with_reducible refine Below.alloc ?_ ?_ _; rotate_left; · first | omega | (simp <;> omega)) | (with_reducible refine Below.setCell ?_ ?_ _; rotate_left; · first | omega | (simp <;> omega))))).mono hBY3.out.size)
                   rintro e w2 ⟨A2, c2, A3, c3, row, rfl, hO2, hR2, hb2'⟩
                   have hb2 := Lib.hid (Below.trans (show Below Y3.heap.size Y3 _ by (repeat (first | with_reducible exact hb2.out | with_reducible exact hb1.out | with_reducible exact Below.refl _ _ | with_reducible refine Below.drew ?_ | (with_reducible refine Below.alloc ?_ ?_ _; rotate_left; · first | omega | (simp <;> omega)) | (with_reducible refine Below.setCell ?_ ?_ _; rotate_left; · first | omega | (simp <;> omega))))) (hb2'.mono (by first | omega | (simp <;> omega))))
                   have hrA2 := Lib.hid ((Reads.below (by (repeat (first | with_reducible exact hrA.out | with_reducible refine Reads.drew ?_))) hb2').more hb2'.size)
                   have hc2 := Lib.hid (Reads.of_own hO2)
                   have hd2 := Lib.hid (hR2.nrows hlenm.out)
                   have hs2 := hb2.out.size
                   clear hO2 hR2 hb2')
                | (go_at_call 20
                   refine (hSR.out _ A1 c1 A2 c2 A3 c3 ?_ ?_ ?_ ?_).mono ?_
                   · exact hBY3.out.trans ((show Below Y3.heap.size Y3 _ by (repeat (first | with_reducible exact hb2.out | with_reducible exact hb1.out | with_reducible exact Below.refl _ _ | with_reducible refine Below.drew ?_ | (with_reducible refine Below.alloc ?_ ?_ _; rotate_left; · first | omega | (simp <;> omega)) | (with_reducible refine Below.setCell ?_ ?_ _; rotate_left; · first | omega | (simp <;> omega))))).mono hBY3.out.size)
                   · exact hrA2.out
                   · exact hc2.out
                   · exact hd2.out
                   rintro e w3 ⟨rfl, hb3'⟩
                   have hb3 := Lib.hid (Below.trans (show Below Y3.heap.size Y3 _ by (repeat (first | with_reducible exact hb2.out | with_reducible exact hb1.out | with_reducible exact Below.refl _ _ | with_reducible refine Below.drew ?_ | (with_reducible refine Below.alloc ?_ ?_ _; rotate_left; · first | omega | (simp <;> omega)) | (with_reducible refine Below.setCell ?_ ?_ _; rotate_left; · first | omega | (simp <;> omega))))) (hb3'.mono (by first | omega | (simp <;> omega))))
                   rw [hq.out]
                   clear hb3')
                | fail)
            all_goals (go_wp2_with fail; go_meet)
            all_goals exact ⟨by first | rfl | simp, hb3.out⟩
          case rest =>
            obtain ⟨rfl, hbW⟩ := hcut
            obtain ⟨Y4, hbW0, rfl⟩ : ∃ Z, Below Y3.heap.size Y3 Z ∧ Z = _ := ⟨_, hbW, rfl⟩
            clear hbW0
            have hBY4 := Lib.hid (hBY3.out.trans (hbW.mono hBY3.out.size))
            have kY4 := kY3.out.below hbW kY3.out.lt
            clear a0 a1
            obtain ⟨a0, a1⟩ := pair_cells kY4
            have hrY4 := Lib.hid ((hr.out.below hBY4.out).more hBY4.out.size)
            have hcell4 := Lib.hid (fun (W : World) (p : Addr) (v : Value) (h : Below Y4.heap.size Y4 W) (hp : p.block < Y4.heap.size) (hv : Y4.cell? p = some v) => (h.cell hp).trans hv)
            have hwY4 := kY4.lt
            replace kY4 := Lib.hid kY4
            clear hbW
            go_wp2_with fail
            refine (hAw.out _ hBY4.out).mono ?_
            rintro e w5 ⟨rfl, hb5⟩
            have hfin := Lib.hid (hBY4.out.trans (hb5.mono hBY4.out.size))
            clear hb5
            go_wp2
            go_ret
            exact ⟨by simp, hfin.out⟩
    | true =>
      obtain ⟨N, rfl, hS⟩ := sysB_sys hM.out hq
      have hNm : N.length = m := by have := hlenm.out; rw [List.length_map] at this; exact this
      have hfan := few_fan hf hNm
      have hSol := fun (W : World) (A1 : Option Addr) (c1 : Nat) (A2 : Option Addr) (c2 : Nat) (A3 : Option Addr) (c3 : Nat) (hb : Below w.heap.size w W) (q1 : Reads W W.heap.size 1 A1 n (u64s up)) (q2 : Reads W W.heap.size 2 A2 l (lbVals consts)) (q3 : NRows W W.heap.size A3 m (N.map casts)) => solve_yes A1 n c1 up A2 A3 l c2 m c3 consts N W (hT.out.later hb) hn.out hn63 hM.out q1 hl.out (by omega) q2 hm63 q3 hq hS (fun k _ => hcm.out k) hfan
      have hMo := fun (W : World) (A1 : Option Addr) (c1 : Nat) (A2 : Option Addr) (c2 : Nat) (A3 : Option Addr) (c3 : Nat) (hb : Below w.heap.size w W) (q1 : Reads W W.heap.size 1 A1 n (u64s up)) (q2 : Reads W W.heap.size 2 A2 l (lbVals consts)) (q3 : NRows W W.heap.size A3 m (N.map casts)) => most_yes A1 n c1 up A2 A3 l c2 m c3 consts N W (hT.out.later hb) hn.out hn63 hM.out q1 hl.out (by omega) q2 hm63 q3 hq hS hfan
      have hFan := fun (W : World) (hb : Below w.heap.size w W) => fan_any D m mc N W (by omega) hfan ((hd.out.below hb).more hb.size)
      have hRH := fun (W : World) (hb : Below w.heap.size w W) => rheight_any A n c up W hn.out hM.out hS.lat.toOrd ((hr.out.below hb).more hb.size)
      have hRS := fun (W : World) (hb : Below w.heap.size w W) => rsolve_any A n c up C D l lc m mc consts N W hn.out hM.out ((hr.out.below hb).more hb.size) hS (fun k _ => hcm.out k) hl.out (by omega) ((hc.out.below hb).more hb.size) ((hd.out.below hb).more hb.size)
      have hHle := heightN_le up
      rw [hn.out] at hHle
      have q1 : l * fanF N ≤ 60 * 1000000 := Nat.mul_le_mul hl60 hfan
      have q2 : l * fanF N * (heightN up + 64) ≤ 60 * 1000000 * 128 := Nat.mul_le_mul q1 (by omega)
      generalize hFe : fanF N = F at *
      generalize hHe : heightN up = H at *
      obtain ⟨P, hP⟩ : ∃ P, P = l * F := ⟨_, rfl⟩
      obtain ⟨H2, hH2⟩ : ∃ H2, H2 = H + 64 := ⟨_, rfl⟩
      rw [← hP] at q1 q2
      rw [← hH2] at q2
      obtain ⟨Q, hQ⟩ : ∃ Q, Q = P * H2 := ⟨_, rfl⟩
      rw [← hQ] at q2
      have hvn : l + l * F * (H + 64) = l + Q := by rw [← hP, ← hH2, ← hQ]
      have hv : ((l + l * F * (H + 64) : Nat) : Int) = (l : Int) + (Q : Int) := by omega
      have g1 : (l : Int) * (F : Int) = (P : Int) := by rw [hP]; push_cast; rfl
      have g2 : (H : Int) + 64 = (H2 : Int) := by omega
      have g3 : (P : Int) * (H2 : Int) = (Q : Int) := by rw [hQ]; push_cast; rfl
      have f1 : IntKind.i64.wrap (P : Int) = (P : Int) := IntWalk.i64_in _ (by omega)
      have f2 : IntKind.i64.wrap (H2 : Int) = (H2 : Int) := IntWalk.i64_in _ (by omega)
      have f3 : IntKind.i64.wrap (Q : Int) = (Q : Int) := IntWalk.i64_in _ (by omega)
      have f4 : IntKind.i64.wrap ((l : Int) + (Q : Int)) = (l : Int) + (Q : Int) := IntWalk.i64_in _ (by omega)
      replace hP := Lib.hid hP
      replace hH2 := Lib.hid hH2
      replace hQ := Lib.hid hQ
      replace hv := Lib.hid hv
      replace hvn := Lib.hid hvn
      replace hFe := Lib.hid hFe
      replace hHe := Lib.hid hHe
      replace hSol := Lib.hid hSol
      replace hMo := Lib.hid hMo
      replace hFan := Lib.hid hFan
      replace hRH := Lib.hid hRH
      replace hRS := Lib.hid hRS
      replace hf := Lib.hid hf
      replace hq := Lib.hid hq
      replace hS := Lib.hid hS
      replace hNm := Lib.hid hNm
      go_enter Tryd.func7, Tryd.ntmps7
      go_wp2_with fail
      refine hFew.out.mono ?_
      rintro e Y ⟨rfl, hb1⟩
      rw [hf.out]
      have hBY := Lib.hid (hb0.out.trans (hb1.mono hb0.out.size))
      have kY := k0.out.below hb1 k0.out.lt
      obtain ⟨a0, a1⟩ := pair_cells kY
      have hrY := Lib.hid ((hr.out.below hBY.out).more hBY.out.size)
      have hcell := Lib.hid (fun (W : World) (p : Addr) (v : Value) (h : Below Y.heap.size Y W) (hp : p.block < Y.heap.size) (hv : Y.cell? p = some v) => (h.cell hp).trans hv)
      have hwY := kY.lt
      replace kY := Lib.hid kY
      clear hb1 s0 s1
      go_upto_region 3 with fail
      go_cut [5, 6, 7] (fun s5 s6 s7 wx => ∃ (L : Option Addr) (lL : Nat) (lbs : List Lb) (looks : Nat), s5 = .slice L l lL ∧ s6 = .int .i64 (looks : Nat) ∧ s7 = .int .i64 0 ∧ Reads wx wx.heap.size 2 L l (lbVals lbs) ∧ Least up consts N lbs ∧ consts.length ≤ looks ∧ looks ≤ consts.length + consts.length * F * (H + 64) ∧ Below Y.heap.size Y wx)
      case first =>
        go_region_held3 (fun w' => w'.cell? ⟨w.heap.size, 0, none⟩ = some (.slice C l lc) ∧ w'.cell? ⟨w.heap.size, 1, none⟩ = some (.slice D m mc))
          (first
              | (refine ⟨?_, ?_⟩ <;> (refine hcell.out _ _ _ ?_ (by first | omega | (simp <;> omega)) (by assumption); (repeat (first | with_reducible exact hb3.out | with_reducible exact hb2.out | with_reducible exact hb1.out | with_reducible exact Below.refl _ _ | with_reducible refine Below.drew ?_ | (with_reducible refine Below.alloc ?_ ?_ _; rotate_left; · first | omega | (simp <;> omega)) | (with_reducible refine Below.setCell ?_ ?_ _; rotate_left; · first | omega | (simp <;> omega))))))
              | (refine hcell.out _ _ _ ?_ (by first | omega | (simp <;> omega)) (by assumption); (repeat (first | with_reducible exact hb3.out | with_reducible exact hb2.out | with_reducible exact hb1.out | with_reducible exact Below.refl _ _ | with_reducible refine Below.drew ?_ | (with_reducible refine Below.alloc ?_ ?_ _; rotate_left; · first | omega | (simp <;> omega)) | (with_reducible refine Below.setCell ?_ ?_ _; rotate_left; · first | omega | (simp <;> omega)))))
              | go_keep)
          (first
            | (refine step_append_any _ (by rfl) _ _ _ (by rfl) Y.heap.size 27 i0 _ 1 8 Tryd.underlying22 hi0 hz0 hz1 hz2 rfl (by decide) (.slice (some ⟨_, 0, none⟩) 0 0) 0 [] (by rfl) (own_emptyV (base := Y.heap.size) (g := _) (by (repeat (first  | exact Blk.new_at _ _ _ _ (by first | rfl | (simp <;> omega)) | with_reducible refine Blk.drew ?_ | with_reducible refine Blk.alloc ?_ _))) (by first | omega | (simp <;> omega))) Y.heap.size A n c (u64s up) (by rfl) (by (repeat (first | with_reducible exact hrY.out | with_reducible refine Reads.drew ?_ | (with_reducible refine Reads.alloc ?_ ?_ _; rotate_left; · first | omega | (simp <;> omega))))) h1.out (by first | omega | (simp <;> omega)) (by first | omega | (simp <;> omega)) (by first | omega | (simp <;> omega)) ?_
               intro v1 w1 hown1 hg1 hat1
               rw [Nat.zero_add, List.nil_append] at hown1
               obtain ⟨A1, c1, rfl⟩ := ownsRow_slice hown1
               have hb1 := Lib.hid ((show Below Y.heap.size Y _ by (repeat (first  | with_reducible exact Below.refl _ _ | with_reducible refine Below.drew ?_ | (with_reducible refine Below.alloc ?_ ?_ _; rotate_left; · first | omega | (simp <;> omega)) | (with_reducible refine Below.setCell ?_ ?_ _; rotate_left; · first | omega | (simp <;> omega))))).grown hg1 (by first | omega | (simp <;> omega)) (fun j hj => by simp [Value.ownBlock] at hj; omega))
               have hrA := Lib.hid (Reads.of_own hown1)
               have hs1 := hb1.out.size
               clear hown1 hg1 hat1)
            | (go_at_call 12
               refine (hCop.out _ ?_).mono ?_
               · exact hBY.out.trans ((show Below Y.heap.size Y _ by (repeat (first | with_reducible exact hb2.out | with_reducible exact hb1.out | with_reducible exact Below.refl _ _ | with_reducible refine Below.drew ?_ | (with_reducible refine Below.alloc ?_ ?_ _; rotate_left; · first | omega | (simp <;> omega)) | (with_reducible refine Below.setCell ?_ ?_ _; rotate_left; · first | omega | (simp <;> omega))))).mono hBY.out.size)
               rintro e w2 ⟨A2, c2, A3, c3, row, rfl, hO2, hR2, hb2'⟩
               have hb2 := Lib.hid (Below.trans (show Below Y.heap.size Y _ by (repeat (first | with_reducible exact hb2.out | with_reducible exact hb1.out | with_reducible exact Below.refl _ _ | with_reducible refine Below.drew ?_ | (with_reducible refine Below.alloc ?_ ?_ _; rotate_left; · first | omega | (simp <;> omega)) | (with_reducible refine Below.setCell ?_ ?_ _; rotate_left; · first | omega | (simp <;> omega))))) (hb2'.mono (by first | omega | (simp <;> omega))))
               have hrA2 := Lib.hid ((Reads.below (by (repeat (first | with_reducible exact hrA.out | with_reducible refine Reads.drew ?_))) hb2').more hb2'.size)
               have hc2 := Lib.hid (Reads.of_own hO2)
               have hd2 := Lib.hid (hR2.nrows hlenm.out)
               have hs2 := hb2.out.size
               clear hO2 hR2 hb2')
            | (go_at_call 9
               refine (hSol.out _ A1 c1 A2 c2 A3 c3 ?_ ?_ ?_ ?_).mono ?_
               · exact hBY.out.trans ((show Below Y.heap.size Y _ by (repeat (first | with_reducible exact hb2.out | with_reducible exact hb1.out | with_reducible exact Below.refl _ _ | with_reducible refine Below.drew ?_ | (with_reducible refine Below.alloc ?_ ?_ _; rotate_left; · first | omega | (simp <;> omega)) | (with_reducible refine Below.setCell ?_ ?_ _; rotate_left; · first | omega | (simp <;> omega))))).mono hBY.out.size)
               · exact hrA2.out
               · exact hc2.out
               · exact hd2.out
               rintro e w3 ⟨L, lL, lbs, looks, rfl, hL, _, _, hlst, _, hlo, hhi, hb3'⟩
               have hb3 := Lib.hid (Below.trans (show Below Y.heap.size Y _ by (repeat (first | with_reducible exact hb2.out | with_reducible exact hb1.out | with_reducible exact Below.refl _ _ | with_reducible refine Below.drew ?_ | (with_reducible refine Below.alloc ?_ ?_ _; rotate_left; · first | omega | (simp <;> omega)) | (with_reducible refine Below.setCell ?_ ?_ _; rotate_left; · first | omega | (simp <;> omega))))) (hb3'.mono (by first | omega | (simp <;> omega))))
               replace hL := Lib.hid hL
               replace hlst := Lib.hid hlst
               replace hlo := Lib.hid hlo
               replace hhi := Lib.hid hhi
               clear hb3')
            | fail)
        all_goals (go_wp2_with fail; go_meet)
        all_goals exact ⟨L, lL, lbs, looks, rfl, rfl, rfl, hL.out, hlst.out, hlo.out, by rw [← hFe.out, ← hHe.out]; exact hhi.out, hb3.out⟩
      case rest =>
        obtain ⟨L, lL, lbs, looks, rfl, rfl, rfl, hL, hlst, hlo, hhi, hbW⟩ := hcut
        obtain ⟨Y1, hbW0, rfl⟩ : ∃ Z, Below Y.heap.size Y Z ∧ Z = _ := ⟨_, hbW, rfl⟩
        clear hbW0
        have hBY1 := Lib.hid (hBY.out.trans (hbW.mono hBY.out.size))
        have kY1 := kY.out.below hbW kY.out.lt
        clear a0 a1
        obtain ⟨a0, a1⟩ := pair_cells kY1
        have hrY1 := Lib.hid ((hr.out.below hBY1.out).more hBY1.out.size)
        have hcell1 := Lib.hid (fun (W : World) (p : Addr) (v : Value) (h : Below Y1.heap.size Y1 W) (hp : p.block < Y1.heap.size) (hv : Y1.cell? p = some v) => (h.cell hp).trans hv)
        have hwY1 := kY1.lt
        replace kY1 := Lib.hid kY1
        replace hL := Lib.hid hL
        have hhi2 : ((looks : Int) ≤ (l : Int) + (Q : Int)) := by have h3 := hvn.out; have h4 := hl.out; rw [h4] at hhi; omega
        have hlo2 : ((l : Int) ≤ (looks : Int)) := by have h4 := hl.out; omega
        replace hlo := Lib.hid hlo
        replace hhi := Lib.hid hhi
        replace hlst := Lib.hid hlst
        clear hbW
        go_wp2_with fail
        refine (hRR.out _ hBY1.out).mono ?_
        rintro e Y2 ⟨rfl, hbW⟩
        rw [hq.out]
        have hBY2 := Lib.hid (hBY1.out.trans (hbW.mono hBY1.out.size))
        have kY2 := kY1.out.below hbW kY1.out.lt
        clear a0 a1
        obtain ⟨a0, a1⟩ := pair_cells kY2
        have hrY2 := Lib.hid ((hr.out.below hBY2.out).more hBY2.out.size)
        have hcell2 := Lib.hid (fun (W : World) (p : Addr) (v : Value) (h : Below Y2.heap.size Y2 W) (hp : p.block < Y2.heap.size) (hv : Y2.cell? p = some v) => (h.cell hp).trans hv)
        have hwY2 := kY2.lt
        replace kY2 := Lib.hid kY2
        have hL2 := Lib.hid ((hL.out.below hbW).more hbW.size)
        clear hbW
        go_upto_region 5 with fail
        go_cut [9] (fun s9 wx => s9 = .int .i64 ((l : Int) + (Q : Int)) ∧ Below Y2.heap.size Y2 wx)
        case first =>
          go_region_held3 (fun w' => w'.cell? ⟨w.heap.size, 0, none⟩ = some (.slice C l lc) ∧ w'.cell? ⟨w.heap.size, 1, none⟩ = some (.slice D m mc))
            (first
                | (refine ⟨?_, ?_⟩ <;> (refine hcell2.out _ _ _ ?_ (by first | omega | (simp <;> omega)) (by assumption); (repeat (first | with_reducible exact hb3.out | with_reducible exact hb2.out | with_reducible exact hb1.out | with_reducible exact Below.refl _ _ | with_reducible refine Below.drew ?_ | (with_reducible refine Below.alloc ?_ ?_ _; rotate_left; · first | omega | (simp <;> omega)) | (with_reducible refine Below.setCell ?_ ?_ _; rotate_left; · first | omega | (simp <;> omega))))))
                | (refine hcell2.out _ _ _ ?_ (by first | omega | (simp <;> omega)) (by assumption); (repeat (first | with_reducible exact hb3.out | with_reducible exact hb2.out | with_reducible exact hb1.out | with_reducible exact Below.refl _ _ | with_reducible refine Below.drew ?_ | (with_reducible refine Below.alloc ?_ ?_ _; rotate_left; · first | omega | (simp <;> omega)) | (with_reducible refine Below.setCell ?_ ?_ _; rotate_left; · first | omega | (simp <;> omega)))))
                | go_keep)
            (first
              | (refine step_append_any _ (by rfl) _ _ _ (by rfl) Y2.heap.size 27 i0 _ 1 8 Tryd.underlying22 hi0 hz0 hz1 hz2 rfl (by decide) (.slice (some ⟨_, 0, none⟩) 0 0) 0 [] (by rfl) (own_emptyV (base := Y2.heap.size) (g := _) (by (repeat (first  | exact Blk.new_at _ _ _ _ (by first | rfl | (simp <;> omega)) | with_reducible refine Blk.drew ?_ | with_reducible refine Blk.alloc ?_ _))) (by first | omega | (simp <;> omega))) Y2.heap.size A n c (u64s up) (by rfl) (by (repeat (first | with_reducible exact hrY2.out | with_reducible refine Reads.drew ?_ | (with_reducible refine Reads.alloc ?_ ?_ _; rotate_left; · first | omega | (simp <;> omega))))) h1.out (by first | omega | (simp <;> omega)) (by first | omega | (simp <;> omega)) (by first | omega | (simp <;> omega)) ?_
                 intro v1 w1 hown1 hg1 hat1
                 rw [Nat.zero_add, List.nil_append] at hown1
                 obtain ⟨A1, c1, rfl⟩ := ownsRow_slice hown1
                 have hb1 := Lib.hid ((show Below Y2.heap.size Y2 _ by (repeat (first  | with_reducible exact Below.refl _ _ | with_reducible refine Below.drew ?_ | (with_reducible refine Below.alloc ?_ ?_ _; rotate_left; · first | omega | (simp <;> omega)) | (with_reducible refine Below.setCell ?_ ?_ _; rotate_left; · first | omega | (simp <;> omega))))).grown hg1 (by first | omega | (simp <;> omega)) (fun j hj => by simp [Value.ownBlock] at hj; omega))
                 have hrA := Lib.hid (Reads.of_own hown1)
                 have hs1 := hb1.out.size
                 clear hown1 hg1 hat1)
              | (go_at_call 12
                 refine (hCop.out _ ?_).mono ?_
                 · exact hBY2.out.trans ((show Below Y2.heap.size Y2 _ by (repeat (first | with_reducible exact hb2.out | with_reducible exact hb1.out | with_reducible exact Below.refl _ _ | with_reducible refine Below.drew ?_ | (with_reducible refine Below.alloc ?_ ?_ _; rotate_left; · first | omega | (simp <;> omega)) | (with_reducible refine Below.setCell ?_ ?_ _; rotate_left; · first | omega | (simp <;> omega))))).mono hBY2.out.size)
                 rintro e w2 ⟨A2, c2, A3, c3, row, rfl, hO2, hR2, hb2'⟩
                 have hb2 := Lib.hid (Below.trans (show Below Y2.heap.size Y2 _ by (repeat (first | with_reducible exact hb2.out | with_reducible exact hb1.out | with_reducible exact Below.refl _ _ | with_reducible refine Below.drew ?_ | (with_reducible refine Below.alloc ?_ ?_ _; rotate_left; · first | omega | (simp <;> omega)) | (with_reducible refine Below.setCell ?_ ?_ _; rotate_left; · first | omega | (simp <;> omega))))) (hb2'.mono (by first | omega | (simp <;> omega))))
                 have hrA2 := Lib.hid ((Reads.below (by (repeat (first | with_reducible exact hrA.out | with_reducible refine Reads.drew ?_))) hb2').more hb2'.size)
                 have hc2 := Lib.hid (Reads.of_own hO2)
                 have hd2 := Lib.hid (hR2.nrows hlenm.out)
                 have hs2 := hb2.out.size
                 clear hO2 hR2 hb2')
              | (go_at_call 19
                 refine (hMo.out _ A1 c1 A2 c2 A3 c3 ?_ ?_ ?_ ?_).mono ?_
                 · exact hBY2.out.trans ((show Below Y2.heap.size Y2 _ by (repeat (first | with_reducible exact hb2.out | with_reducible exact hb1.out | with_reducible exact Below.refl _ _ | with_reducible refine Below.drew ?_ | (with_reducible refine Below.alloc ?_ ?_ _; rotate_left; · first | omega | (simp <;> omega)) | (with_reducible refine Below.setCell ?_ ?_ _; rotate_left; · first | omega | (simp <;> omega))))).mono hBY2.out.size)
                 · exact hrA2.out
                 · exact hc2.out
                 · exact hd2.out
                 rintro e w3 ⟨rfl, hb3'⟩
                 have hb3 := Lib.hid (Below.trans (show Below Y2.heap.size Y2 _ by (repeat (first | with_reducible exact hb2.out | with_reducible exact hb1.out | with_reducible exact Below.refl _ _ | with_reducible refine Below.drew ?_ | (with_reducible refine Below.alloc ?_ ?_ _; rotate_left; · first | omega | (simp <;> omega)) | (with_reducible refine Below.setCell ?_ ?_ _; rotate_left; · first | omega | (simp <;> omega))))) (hb3'.mono (by first | omega | (simp <;> omega))))
                 clear hb3')
              | fail)
          all_goals (go_wp2_with fail; go_meet)
          all_goals exact ⟨by first | rfl | rw [hv.out], hb3.out⟩
        case rest =>
          obtain ⟨rfl, hbW⟩ := hcut
          obtain ⟨Y3, hbW0, rfl⟩ : ∃ Z, Below Y2.heap.size Y2 Z ∧ Z = _ := ⟨_, hbW, rfl⟩
          clear hbW0
          have hBY3 := Lib.hid (hBY2.out.trans (hbW.mono hBY2.out.size))
          have kY3 := kY2.out.below hbW kY2.out.lt
          clear a0 a1
          obtain ⟨a0, a1⟩ := pair_cells kY3
          have hrY3 := Lib.hid ((hr.out.below hBY3.out).more hBY3.out.size)
          have hcell3 := Lib.hid (fun (W : World) (p : Addr) (v : Value) (h : Below Y3.heap.size Y3 W) (hp : p.block < Y3.heap.size) (hv : Y3.cell? p = some v) => (h.cell hp).trans hv)
          have hwY3 := kY3.lt
          replace kY3 := Lib.hid kY3
          have hL3 := Lib.hid ((hL2.out.below hbW).more hbW.size)
          clear hbW
          go_upto_region 6 with fail
          go_cut [48] (fun s48 wx => s48 = .bool false ∧ Below Y3.heap.size Y3 wx)
          case first =>
            go_region_held3 (fun w' => w'.cell? ⟨w.heap.size, 0, none⟩ = some (.slice C l lc) ∧ w'.cell? ⟨w.heap.size, 1, none⟩ = some (.slice D m mc))
              (first
                  | (refine ⟨?_, ?_⟩ <;> (refine hcell3.out _ _ _ ?_ (by first | omega | (simp <;> omega)) (by assumption); (repeat (first | with_reducible exact hb3.out | with_reducible exact hb2.out | with_reducible exact hb1.out | with_reducible exact Below.refl _ _ | with_reducible refine Below.drew ?_ | (with_reducible refine Below.alloc ?_ ?_ _; rotate_left; · first | omega | (simp <;> omega)) | (with_reducible refine Below.setCell ?_ ?_ _; rotate_left; · first | omega | (simp <;> omega))))))
                  | (refine hcell3.out _ _ _ ?_ (by first | omega | (simp <;> omega)) (by assumption); (repeat (first | with_reducible exact hb3.out | with_reducible exact hb2.out | with_reducible exact hb1.out | with_reducible exact Below.refl _ _ | with_reducible refine Below.drew ?_ | (with_reducible refine Below.alloc ?_ ?_ _; rotate_left; · first | omega | (simp <;> omega)) | (with_reducible refine Below.setCell ?_ ?_ _; rotate_left; · first | omega | (simp <;> omega)))))
                  | go_keep)
              (first
                | (refine step_append_any _ (by rfl) _ _ _ (by rfl) Y3.heap.size 27 i0 _ 1 8 Tryd.underlying22 hi0 hz0 hz1 hz2 rfl (by decide) (.slice (some ⟨_, 0, none⟩) 0 0) 0 [] (by rfl) (own_emptyV (base := Y3.heap.size) (g := _) (by (repeat (first  | exact Blk.new_at _ _ _ _ (by first | rfl | (simp <;> omega)) | with_reducible refine Blk.drew ?_ | with_reducible refine Blk.alloc ?_ _))) (by first | omega | (simp <;> omega))) Y3.heap.size A n c (u64s up) (by rfl) (by (repeat (first | with_reducible exact hrY3.out | with_reducible refine Reads.drew ?_ | (with_reducible refine Reads.alloc ?_ ?_ _; rotate_left; · first | omega | (simp <;> omega))))) h1.out (by first | omega | (simp <;> omega)) (by first | omega | (simp <;> omega)) (by first | omega | (simp <;> omega)) ?_
                   intro v1 w1 hown1 hg1 hat1
                   rw [Nat.zero_add, List.nil_append] at hown1
                   obtain ⟨A1, c1, rfl⟩ := ownsRow_slice hown1
                   have hb1 := Lib.hid ((show Below Y3.heap.size Y3 _ by (repeat (first  | with_reducible exact Below.refl _ _ | with_reducible refine Below.drew ?_ | (with_reducible refine Below.alloc ?_ ?_ _; rotate_left; · first | omega | (simp <;> omega)) | (with_reducible refine Below.setCell ?_ ?_ _; rotate_left; · first | omega | (simp <;> omega))))).grown hg1 (by first | omega | (simp <;> omega)) (fun j hj => by simp [Value.ownBlock] at hj; omega))
                   have hrA := Lib.hid (Reads.of_own hown1)
                   have hs1 := hb1.out.size
                   clear hown1 hg1 hat1)
                | (go_at_call 12
                   refine (hCop.out _ ?_).mono ?_
                   · exact hBY3.out.trans ((show Below Y3.heap.size Y3 _ by (repeat (first | with_reducible exact hb2.out | with_reducible exact hb1.out | with_reducible exact Below.refl _ _ | with_reducible refine Below.drew ?_ | (with_reducible refine Below.alloc ?_ ?_ _; rotate_left; · first | omega | (simp <;> omega)) | (with_reducible refine Below.setCell ?_ ?_ _; rotate_left; · first | omega | (simp <;> omega))))).mono hBY3.out.size)
                   rintro e w2 ⟨A2, c2, A3, c3, row, rfl, hO2, hR2, hb2'⟩
                   have hb2 := Lib.hid (Below.trans (show Below Y3.heap.size Y3 _ by (repeat (first | with_reducible exact hb2.out | with_reducible exact hb1.out | with_reducible exact Below.refl _ _ | with_reducible refine Below.drew ?_ | (with_reducible refine Below.alloc ?_ ?_ _; rotate_left; · first | omega | (simp <;> omega)) | (with_reducible refine Below.setCell ?_ ?_ _; rotate_left; · first | omega | (simp <;> omega))))) (hb2'.mono (by first | omega | (simp <;> omega))))
                   have hrA2 := Lib.hid ((Reads.below (by (repeat (first | with_reducible exact hrA.out | with_reducible refine Reads.drew ?_))) hb2').more hb2'.size)
                   have hc2 := Lib.hid (Reads.of_own hO2)
                   have hd2 := Lib.hid (hR2.nrows hlenm.out)
                   have hs2 := hb2.out.size
                   clear hO2 hR2 hb2')
                | (go_at_call 20
                   refine (hSR.out _ A1 c1 A2 c2 A3 c3 ?_ ?_ ?_ ?_).mono ?_
                   · exact hBY3.out.trans ((show Below Y3.heap.size Y3 _ by (repeat (first | with_reducible exact hb2.out | with_reducible exact hb1.out | with_reducible exact Below.refl _ _ | with_reducible refine Below.drew ?_ | (with_reducible refine Below.alloc ?_ ?_ _; rotate_left; · first | omega | (simp <;> omega)) | (with_reducible refine Below.setCell ?_ ?_ _; rotate_left; · first | omega | (simp <;> omega))))).mono hBY3.out.size)
                   · exact hrA2.out
                   · exact hc2.out
                   · exact hd2.out
                   rintro e w3 ⟨rfl, hb3'⟩
                   have hb3 := Lib.hid (Below.trans (show Below Y3.heap.size Y3 _ by (repeat (first | with_reducible exact hb2.out | with_reducible exact hb1.out | with_reducible exact Below.refl _ _ | with_reducible refine Below.drew ?_ | (with_reducible refine Below.alloc ?_ ?_ _; rotate_left; · first | omega | (simp <;> omega)) | (with_reducible refine Below.setCell ?_ ?_ _; rotate_left; · first | omega | (simp <;> omega))))) (hb3'.mono (by first | omega | (simp <;> omega))))
                   rw [hq.out]
                   clear hb3')
                | fail)
            all_goals (go_wp2_with fail; go_meet)
            all_goals exact ⟨by first | rfl | simp, hb3.out⟩
          case rest =>
            obtain ⟨rfl, hbW⟩ := hcut
            obtain ⟨Y4, hbW0, rfl⟩ : ∃ Z, Below Y3.heap.size Y3 Z ∧ Z = _ := ⟨_, hbW, rfl⟩
            clear hbW0
            have hBY4 := Lib.hid (hBY3.out.trans (hbW.mono hBY3.out.size))
            have kY4 := kY3.out.below hbW kY3.out.lt
            clear a0 a1
            obtain ⟨a0, a1⟩ := pair_cells kY4
            have hrY4 := Lib.hid ((hr.out.below hBY4.out).more hBY4.out.size)
            have hcell4 := Lib.hid (fun (W : World) (p : Addr) (v : Value) (h : Below Y4.heap.size Y4 W) (hp : p.block < Y4.heap.size) (hv : Y4.cell? p = some v) => (h.cell hp).trans hv)
            have hwY4 := kY4.lt
            replace kY4 := Lib.hid kY4
            have hL4 := Lib.hid ((hL3.out.below hbW).more hbW.size)
            clear hbW
            go_upto_region 10 with fail
            go_cut [10] (fun s10 wx => s10 = .int .i64 ((l : Int) + (Q : Int)) ∧ Below Y4.heap.size Y4 wx)
            case first =>
              go_region_held3 (fun w' => w'.cell? ⟨w.heap.size, 0, none⟩ = some (.slice C l lc) ∧ w'.cell? ⟨w.heap.size, 1, none⟩ = some (.slice D m mc))
                (first
                  | (refine ⟨?_, ?_⟩ <;> (refine hcell4.out _ _ _ ?_ (by first | omega | (simp <;> omega)) (by assumption); (repeat (first | with_reducible exact hb3.out | with_reducible exact Below.refl _ _ | with_reducible refine Below.drew ?_ | (with_reducible refine Below.alloc ?_ ?_ _; rotate_left; · first | omega | (simp <;> omega)) | (with_reducible refine Below.setCell ?_ ?_ _; rotate_left; · first | omega | (simp <;> omega))))))
                  | (refine hcell4.out _ _ _ ?_ (by first | omega | (simp <;> omega)) (by assumption); (repeat (first | with_reducible exact hb3.out | with_reducible exact Below.refl _ _ | with_reducible refine Below.drew ?_ | (with_reducible refine Below.alloc ?_ ?_ _; rotate_left; · first | omega | (simp <;> omega)) | (with_reducible refine Below.setCell ?_ ?_ _; rotate_left; · first | omega | (simp <;> omega)))))
                  | go_keep)
                (first
                  | (go_at_call 21
                     refine (hFan.out _ ?_).mono ?_
                     · exact hBY4.out.trans ((show Below Y4.heap.size Y4 _ by (repeat (first | with_reducible exact hb3.out | with_reducible exact Below.refl _ _ | with_reducible refine Below.drew ?_ | (with_reducible refine Below.alloc ?_ ?_ _; rotate_left; · first | omega | (simp <;> omega)) | (with_reducible refine Below.setCell ?_ ?_ _; rotate_left; · first | omega | (simp <;> omega))))).mono hBY4.out.size)
                     rintro e w2 ⟨rfl, rfl⟩)
                  | (go_at_call 22
                     refine (hRH.out _ ?_).mono ?_
                     · exact hBY4.out.trans ((show Below Y4.heap.size Y4 _ by (repeat (first | with_reducible exact hb3.out | with_reducible exact Below.refl _ _ | with_reducible refine Below.drew ?_ | (with_reducible refine Below.alloc ?_ ?_ _; rotate_left; · first | omega | (simp <;> omega)) | (with_reducible refine Below.setCell ?_ ?_ _; rotate_left; · first | omega | (simp <;> omega))))).mono hBY4.out.size)
                     rintro e w3 ⟨rfl, hb3'⟩
                     have hb3 := Lib.hid (Below.trans (show Below Y4.heap.size Y4 _ by (repeat (first  | with_reducible exact Below.refl _ _ | with_reducible refine Below.drew ?_ | (with_reducible refine Below.alloc ?_ ?_ _; rotate_left; · first | omega | (simp <;> omega)) | (with_reducible refine Below.setCell ?_ ?_ _; rotate_left; · first | omega | (simp <;> omega))))) (hb3'.mono (by first | omega | (simp <;> omega))))
                     clear hb3')
                  | fail)
              all_goals (go_wp2_with fail; go_meet)
              all_goals exact ⟨by first | rfl | simp [f1, f2, g3, f3, f4], by (repeat (first | with_reducible exact hb3.out | with_reducible exact Below.refl _ _ | with_reducible refine Below.drew ?_ | (with_reducible refine Below.alloc ?_ ?_ _; rotate_left; · first | omega | (simp <;> omega)) | (with_reducible refine Below.setCell ?_ ?_ _; rotate_left; · first | omega | (simp <;> omega))))⟩
            case rest =>
              obtain ⟨rfl, hbW⟩ := hcut
              obtain ⟨Y5, hbW0, rfl⟩ : ∃ Z, Below Y4.heap.size Y4 Z ∧ Z = _ := ⟨_, hbW, rfl⟩
              clear hbW0
              have hBY5 := Lib.hid (hBY4.out.trans (hbW.mono hBY4.out.size))
              have kY5 := kY4.out.below hbW kY4.out.lt
              clear a0 a1
              obtain ⟨a0, a1⟩ := pair_cells kY5
              have hrY5 := Lib.hid ((hr.out.below hBY5.out).more hBY5.out.size)
              have hcell5 := Lib.hid (fun (W : World) (p : Addr) (v : Value) (h : Below Y5.heap.size Y5 W) (hp : p.block < Y5.heap.size) (hv : Y5.cell? p = some v) => (h.cell hp).trans hv)
              have hwY5 := kY5.lt
              replace kY5 := Lib.hid kY5
              have hL5 := Lib.hid ((hL4.out.below hbW).more hbW.size)
              clear hbW
              go_wp2_with fail
              refine (hRS.out _ hBY5.out).mono ?_
              rintro e w6 ⟨L6, lL6, lbs6, rfl, hL6, hlst6, hb6⟩
              obtain rfl : lbs6 = lbs := hlst6.unique hS.out hlst.out
              have hB6 := Lib.hid (hBY5.out.trans (hb6.mono hBY5.out.size))
              have k6 := kY5.out.below hb6 kY5.out.lt
              have hL56 := (hL5.out.below hb6).more hb6.size
              have hlen6 : lbs6.length = l := hlst6.lbs.len.trans hl.out
              have hSame := same_any L L6 l lL l lL6 lbs6 lbs6 w6 hlen6 hlen6 hl63 hL56 hL6
              have htr : sameB lbs6 lbs6 = true := by unfold sameB; simp
              rw [htr] at hSame
              replace hSame := Lib.hid hSame
              replace hL6 := Lib.hid hL6
              replace hlst6 := Lib.hid hlst6
              replace hL56 := Lib.hid hL56
              replace htr := Lib.hid htr
              replace hlen6 := Lib.hid hlen6
              replace k6 := Lib.hid k6
              clear hb6
              go_wp2_with fail
              refine hSame.out.mono ?_
              rintro e w7 ⟨rfl, hb7⟩
              have hB7 := Lib.hid (hB6.out.trans (hb7.mono hB6.out.size))
              obtain ⟨d0, d1⟩ := pair_cells (k6.out.below hb7 k6.out.lt)
              clear hb7
              go_wp2_with fail
              refine (hAw.out _ hB7.out).mono ?_
              rintro e w8 ⟨rfl, hb8⟩
              have hfin := Lib.hid (hB7.out.trans (hb8.mono hB7.out.size))
              clear hb8
              go_wp2
              go_ret
              exact ⟨by simp, hfin.out⟩
end Go.Proofs.YtleckdbdhkgcpaaDoor
