/- The walk of SolveBounds. -/
import Derived.Deep.RegionHeld3
import Derived.Deep.DeepCutAuto
import Derived.Test.YtleckdbdhkgcpaaDoorVy
import Derived.Test.YtleckdbdhkgcpaaDoorVa
import Derived.Test.YtleckdbdhkgcpaaDoorVb
import Derived.Test.YtleckdbdhkgcpaaDoorVn
import Derived.Test.YtleckdbdhkgcpaaDoorVm
namespace Go.Proofs.YtleckdbdhkgcpaaDoor
open Go.RowKit Go.Shelf Go.Idl
set_option linter.unusedSimpArgs false
set_option linter.unusedVariables false

theorem u64s_one (l : List Nat) : ∀ u ∈ u64s l, u.oneCell' = true := by
  intro u hu
  unfold u64s at hu
  obtain ⟨p, _, h⟩ := List.mem_map.1 hu
  rw [← h]
  rfl
theorem reads_empty {w w' : World} {B size n g : Nat} {t : TypeId} {A : Option Addr} {xs : List Value} (h : Reads w B size A n xs) (k : Blk w g t #[]) (hg : w.grownBy w' (Value.slice (some ⟨g, 0, none⟩) 0 0).ownBlock) (hs : 0 < size) : Reads w' B size A n xs := by
  refine ⟨h.1, fun hn => ?_⟩
  obtain ⟨ad, e, hb, hc⟩ := h.2 hn
  refine ⟨ad, e, hb, fun j u hu => ?_⟩
  have h1 := hc j u hu
  have hlt := World.block_lt_of_cell? _ _ h1
  have hne : (ad.add j).block ≠ g := by
    intro e2
    unfold Blk at k
    unfold World.cell? at h1
    rw [e2, k] at h1
    simp at h1
  rw [World.cell?_of_block (hg.block (ad.add j).block hlt (fun e2 => hne (by simpa [Value.ownBlock] using e2)))]
  exact h1
theorem rows_empty {w w' : World} {B m g : Nat} {t : TypeId} {A : Option Addr} {needs : List (List Int)} (h : NRows w B A m needs) (k : Blk w g t #[]) (hg : w.grownBy w' (Value.slice (some ⟨g, 0, none⟩) 0 0).ownBlock) : NRows w' B A m needs := by
  obtain ⟨h1, vs, h2, h3⟩ := h
  refine ⟨h1, vs, reads_empty h2 k hg (by decide), fun i hi => ?_⟩
  obtain ⟨A', c, e, l1, l2, hr⟩ := h3 i hi
  exact ⟨A', c, e, l1, l2, reads_empty hr k hg (by decide)⟩
set_option maxHeartbeats 4000000 in
set_option maxRecDepth 100000 in
theorem walkSolveBounds (A : Option Addr) (n c : Nat) (up : List Nat) (C D E : Option Addr) (l lc m mc k kc : Nat) (consts ls : List Lb) (needs : List (List Int)) (w : World) (hT : Tab w) (hn : up.length = n) (hn63 : n ≤ maxLen) (hM : Masks up) (hr : Reads w w.heap.size 1 A n (u64s up))
    (hl : consts.length = l) (hl63 : l ≤ maxLen) (hc : Reads w w.heap.size 2 C l (lbVals consts)) (hcm : ∀ k, (consts.getD k z0).ms < 2 ^ 64) (hm63 : m ≤ maxLen) (hd : NRows w w.heap.size D m needs) (hk : ls.length = k) (hk47 : k * 16 ≤ 140737488355328) (hls : Reads w w.heap.size 2 E k (lbVals ls)) (hlm : ∀ k, (ls.getD k z0).ms < 2 ^ 64) :
    Calls Tryd.prog 5 #[.slice A n c, .agg #[.slice C l lc, .slice D m mc], .slice E k kc] w fun e w' => e = .returned (.bool true) ∧ Below w.heap.size w w' := by
  have hml : maxLen = 9223372036854775807 := rfl
  have hlenm : needs.length = m := hd.1
  obtain ⟨i0, hi0, hz0, hz1, hz2⟩ := info_parts u64_info
  obtain ⟨j0, hj0, hy0, hy1, hy2⟩ := info_parts2 label_info
  have h1 := Lib.hid (u64s_one up)
  have h2l := Lib.hid (lbVals_one ls)
  obtain ⟨X, hX⟩ : ∃ X, w.alloc (.cells #[.slice C l lc, .slice D m mc] 26) = X := ⟨_, rfl⟩
  have hb0 : Below w.heap.size w X := by rw [← hX]; exact (Below.refl _ w).alloc (Nat.le_refl _) _
  have k0 : Blk X w.heap.size 26 #[.slice C l lc, .slice D m mc] := by rw [← hX]; exact Blk.new w _ _
  obtain ⟨s0, s1⟩ := pair_cells k0
  have hFew := few_any C D l lc m mc needs X hm63 ((hd.below hb0).more hb0.size)
  have hAw := fun (W : World) (hb : Below w.heap.size w W) => awake_any W (hT.later hb)
  replace hFew := Lib.hid hFew
  replace hAw := Lib.hid hAw
  replace hb0 := Lib.hid hb0
  replace k0 := Lib.hid k0
  replace hr := Lib.hid hr
  replace hM := Lib.hid hM
  replace hT := Lib.hid hT
  replace hc := Lib.hid hc
  replace hcm := Lib.hid hcm
  replace hd := Lib.hid hd
  replace hn := Lib.hid hn
  replace hl := Lib.hid hl
  replace hk := Lib.hid hk
  replace hls := Lib.hid hls
  replace hlm := Lib.hid hlm
  replace hlenm := Lib.hid hlenm
  cases hf : fewB l m needs with
  | false =>
    replace hf := Lib.hid hf
    go_enter Tryd.func5, Tryd.ntmps5
    go_wp2_with fail
    refine hFew.out.mono ?_
    rintro e w1 ⟨rfl, hb1'⟩
    rw [hf.out]
    have hB := Lib.hid (hb0.out.trans (hb1'.mono hb0.out.size))
    go_wp2
    go_ret
    exact ⟨rfl, hB.out⟩
  | true =>
    by_cases hbig : 8 < n
    · have h2 : ((8 : Int) < (n : Int)) := by omega
      replace hf := Lib.hid hf
      go_enter Tryd.func5, Tryd.ntmps5
      go_wp2_with fail
      refine hFew.out.mono ?_
      rintro e w1 ⟨rfl, hb1'⟩
      rw [hf.out]
      have hB := Lib.hid (hb0.out.trans (hb1'.mono hb0.out.size))
      go_wp2
      go_ret
      exact ⟨rfl, hB.out⟩
    have h2 : ¬ ((8 : Int) < (n : Int)) := by omega
    obtain ⟨hl60, hm60, hlen60⟩ := fewB_iff.1 hf
    have hCop := fun (W : World) (hb : Below w.heap.size w W) => copied_any C D l lc m mc consts needs W hl.out hl60 hm60 hlen60 ((hc.out.below hb).more hb.size) ((hd.out.below hb).more hb.size)
    have hRR := fun (W : World) (hb : Below w.heap.size w W) => rsright_any A n c up C D l lc m mc consts needs W hn.out hn63 hM.out ((hr.out.below hb).more hb.size) hl.out hl63 ((hc.out.below hb).more hb.size) hm63 ((hd.out.below hb).more hb.size)
    replace hCop := Lib.hid hCop
    replace hRR := Lib.hid hRR
    replace hlen60 := Lib.hid hlen60
    by_cases hno : sysB up consts needs = false ∨ k ≠ l
    · have hBo := fun (W : World) (A1 : Option Addr) (c1 : Nat) (A2 : Option Addr) (c2 : Nat) (A3 : Option Addr) (c3 : Nat) (A4 : Option Addr) (c4 : Nat) (hb : Below w.heap.size w W) (q1 : Reads W W.heap.size 1 A1 n (u64s up)) (q2 : Reads W W.heap.size 2 A2 l (lbVals consts)) (q3 : NRows W W.heap.size A3 m needs) (_ : Reads W W.heap.size 2 A4 k (lbVals ls)) => bounds_no A1 n c1 up A2 A3 A4 l c2 m c3 k c4 consts needs W (hT.out.later hb) hn.out hn63 hM.out q1 hl.out hl63 q2 hm63 q3 hno
      replace hBo := Lib.hid hBo
      replace hf := Lib.hid hf
      go_enter Tryd.func5, Tryd.ntmps5
      go_wp2_with fail
      refine hFew.out.mono ?_
      rintro e w1 ⟨rfl, hb1'⟩
      rw [hf.out]
      have hB := Lib.hid (hb0.out.trans (hb1'.mono hb0.out.size))
      obtain ⟨a0, a1⟩ := pair_cells (k0.out.below hb1' k0.out.lt)
      have k1 := Lib.hid (k0.out.below hb1' k0.out.lt)
      clear hb1' s0 s1
      go_wp2_with fail
      refine (hRR.out _ hB.out).mono ?_
      rintro e Y ⟨rfl, hbW⟩
      have hBY := Lib.hid (hB.out.trans (hbW.mono hB.out.size))
      have kY := k1.out.below hbW k1.out.lt
      clear a0 a1
      obtain ⟨a0, a1⟩ := pair_cells kY
      have hwY := kY.lt
      have hrY := Lib.hid ((hr.out.below hBY.out).more hBY.out.size)
      have hlsY := Lib.hid ((hls.out.below hBY.out).more hBY.out.size)
      have hcell := Lib.hid (fun (W : World) (p : Addr) (v : Value) (h : Below Y.heap.size Y W) (hp : p.block < Y.heap.size) (hv : Y.cell? p = some v) => (h.cell hp).trans hv)
      replace kY := Lib.hid kY
      clear hbW
      have hcase : sysB up consts needs = false ∨ (sysB up consts needs = true ∧ ((k : Int) == (l : Int)) = false) := by
        cases hq : sysB up consts needs with
        | false => exact .inl rfl
        | true =>
          rcases hno with h | h
          · rw [hq] at h; cases h
          · exact .inr ⟨rfl, by simp; omega⟩
      replace hno := Lib.hid hno
      rcases hcase with hq | ⟨hq, hne⟩
      · rw [hq]
        replace hq := Lib.hid hq
        go_wp2
        go_loopw [7, 8] (fun u v wr => u = .bool false ∧ v = .int .i64 0 ∧ Y = wr) (fun u v wr => 0)
        case atStart => exact ⟨rfl, rfl, rfl⟩
        case round =>
          obtain ⟨rfl, rfl, hwr⟩ := hrel
          subst hwr
          by_cases h0 : ((0 : Int) < (k : Int))
          · go_wp2
            go_loopw [7, 9] (fun u v wr => u = .bool false ∧ v = .int .i64 0 ∧ Y = wr) (fun u v wr => 0)
            case atStart => exact ⟨rfl, rfl, rfl⟩
            case round =>
              obtain ⟨rfl, rfl, hwr⟩ := hrel
              subst hwr
              go_upto_region 12 with fail
              go_region_held3 (fun w' => w'.cell? ⟨w.heap.size, 0, none⟩ = some (.slice C l lc) ∧ w'.cell? ⟨w.heap.size, 1, none⟩ = some (.slice D m mc))
                (first
                    | (refine ⟨?_, ?_, ?_, ?_⟩ <;> (refine hcell.out _ _ _ ?_ (by first | omega | (simp <;> omega)) (by assumption); (repeat (first | with_reducible exact hb5.out | with_reducible exact hb4.out | with_reducible exact hb3.out | with_reducible exact hb2.out | with_reducible exact hb1.out | with_reducible exact Below.refl _ _ | with_reducible refine Below.drew ?_ | (with_reducible refine Below.alloc ?_ ?_ _; rotate_left; · first | omega | (simp <;> omega)) | (with_reducible refine Below.setCell ?_ ?_ _; rotate_left; · first | omega | (simp <;> omega))))))
                    | (refine ⟨?_, ?_⟩ <;> (refine hcell.out _ _ _ ?_ (by first | omega | (simp <;> omega)) (by assumption); (repeat (first | with_reducible exact hb5.out | with_reducible exact hb4.out | with_reducible exact hb3.out | with_reducible exact hb2.out | with_reducible exact hb1.out | with_reducible exact Below.refl _ _ | with_reducible refine Below.drew ?_ | (with_reducible refine Below.alloc ?_ ?_ _; rotate_left; · first | omega | (simp <;> omega)) | (with_reducible refine Below.setCell ?_ ?_ _; rotate_left; · first | omega | (simp <;> omega))))))
                    | (refine hcell.out _ _ _ ?_ (by first | omega | (simp <;> omega)) (by assumption); (repeat (first | with_reducible exact hb5.out | with_reducible exact hb4.out | with_reducible exact hb3.out | with_reducible exact hb2.out | with_reducible exact hb1.out | with_reducible exact Below.refl _ _ | with_reducible refine Below.drew ?_ | (with_reducible refine Below.alloc ?_ ?_ _; rotate_left; · first | omega | (simp <;> omega)) | (with_reducible refine Below.setCell ?_ ?_ _; rotate_left; · first | omega | (simp <;> omega)))))
                    | go_keep)
                (first
                  | (refine step_append_any _ (by rfl) _ _ _ (by rfl) Y.heap.size 27 i0 _ 1 8 Tryd.underlying22 hi0 hz0 hz1 hz2 rfl (by decide) (.slice (some ⟨_, 0, none⟩) 0 0) 0 [] (by rfl) (own_emptyV (base := Y.heap.size) (g := _) (by ((repeat (first | exact Blk.new_at _ _ _ _ (by first | rfl | (simp <;> omega)) | with_reducible refine Blk.drew ?_ | with_reducible refine Blk.alloc ?_ _)); done)) (by first | omega | (simp <;> omega))) Y.heap.size A n c (u64s up) (by rfl) (by (repeat (first | with_reducible exact hrY.out | with_reducible refine Reads.drew ?_ | (with_reducible refine Reads.alloc ?_ ?_ _; rotate_left; · first | omega | (simp <;> omega))))) h1.out (by first | omega | (simp <;> omega)) (by first | omega | (simp <;> omega)) (by first | omega | (simp <;> omega)) ?_
                     intro v1 w1 hown1 hg1 hat1
                     rw [Nat.zero_add, List.nil_append] at hown1
                     obtain ⟨A1, c1, rfl⟩ := ownsRow_slice hown1
                     have hb1 := Lib.hid ((show Below Y.heap.size Y _ by (repeat (first  | with_reducible exact Below.refl _ _ | with_reducible refine Below.drew ?_ | (with_reducible refine Below.alloc ?_ ?_ _; rotate_left; · first | omega | (simp <;> omega)) | (with_reducible refine Below.setCell ?_ ?_ _; rotate_left; · first | omega | (simp <;> omega))))).grown hg1 (by first | omega | (simp <;> omega)) (fun j hj => by simp [Value.ownBlock] at hj; omega))
                     have hrA := Lib.hid (Reads.of_own hown1)
                     have hs1 := hb1.out.size
                     first
                       | have kL := Blk.grown (Blk.drew (Blk.new_at _ 29 #[] (Y.heap.size + 1) (by simp))) hg1 (by simp [Value.ownBlock])
                       | have kL := Blk.grown (Blk.drew (Blk.alloc (Blk.new_at _ 29 #[] Y.heap.size rfl) _)) hg1 (by simp [Value.ownBlock])
                       | skip
                     clear hown1 hg1 hat1)
                  | (go_at_call 12
                     refine (hCop.out _ ?_).mono ?_
                     · exact hBY.out.trans ((show Below Y.heap.size Y _ by (repeat (first | with_reducible exact hb1.out | with_reducible exact Below.refl _ _ | with_reducible refine Below.drew ?_ | (with_reducible refine Below.alloc ?_ ?_ _; rotate_left; · first | omega | (simp <;> omega)) | (with_reducible refine Below.setCell ?_ ?_ _; rotate_left; · first | omega | (simp <;> omega))))).mono hBY.out.size)
                     rintro e w2 ⟨A2, c2, A3, c3, row, rfl, hO2, hR2, hb2'⟩
                     have hb2 := Lib.hid (Below.trans (show Below Y.heap.size Y _ by (repeat (first | with_reducible exact hb1.out | with_reducible exact Below.refl _ _ | with_reducible refine Below.drew ?_ | (with_reducible refine Below.alloc ?_ ?_ _; rotate_left; · first | omega | (simp <;> omega)) | (with_reducible refine Below.setCell ?_ ?_ _; rotate_left; · first | omega | (simp <;> omega))))) (hb2'.mono (by first | omega | (simp <;> omega))))
                     have hrA2 : RowKit.Hid (Reads w2 w2.heap.size 1 A1 n (u64s up)) := by
                       refine Lib.hid ?_
                       first
                         | exact (hrA.out.below hb2').more hb2'.size
                         | exact ((hrA.out.alloc (Nat.le_refl _) _).below (hb2'.mono (by simp))).more (by have := hb2'.size; simp at this; omega)
                     have hc2 := Lib.hid (Reads.of_own hO2)
                     have hd2 := Lib.hid (hR2.nrows hlenm.out)
                     have hs2 := hb2.out.size
                     first
                       | have kM := Blk.below kL hb2' kL.lt
                       | have kM := Blk.below (Blk.new_at _ 29 #[] w1.heap.size rfl) hb2' (by simp)
                       | skip
                     clear hO2 hR2 hb2')
                  | (refine step_append_any _ (by rfl) _ _ _ (by rfl) Y.heap.size 29 j0 _ 2 16 Tryd.underlying23 hj0 hy0 hy1 hy2 rfl (by decide) (.slice (some ⟨_, 0, none⟩) 0 0) 0 [] (by rfl) (own_emptyV (base := Y.heap.size) (g := _) (by first | exact kM | ((repeat (first | exact Blk.new_at _ _ _ _ (by first | rfl | (simp <;> omega)) | with_reducible refine Blk.drew ?_ | with_reducible refine Blk.alloc ?_ _)); done)) (by first | omega | (simp <;> omega))) Y.heap.size E k kc (lbVals ls) (by rfl) (by (repeat (first | with_reducible exact (hlsY.out.below hb2.out) | with_reducible refine Reads.drew ?_ | (with_reducible refine Reads.alloc ?_ ?_ _; rotate_left; · first | omega | (simp <;> omega))))) h2l.out (by first | omega | (simp <;> omega)) (by first | omega | (simp <;> omega)) (by first | omega | (simp <;> omega)) ?_
                     intro v3 w3 hown3 hg3 hat3
                     rw [Nat.zero_add, List.nil_append] at hown3
                     obtain ⟨A4, c4, rfl⟩ := ownsRow_slice hown3
                     have hb3 := Lib.hid ((show Below Y.heap.size Y _ by (repeat (first | with_reducible exact hb2.out | with_reducible exact Below.refl _ _ | with_reducible refine Below.drew ?_ | (with_reducible refine Below.alloc ?_ ?_ _; rotate_left; · first | omega | (simp <;> omega)) | (with_reducible refine Below.setCell ?_ ?_ _; rotate_left; · first | omega | (simp <;> omega))))).grown hg3 (by first | omega | (simp <;> omega)) (fun j hj => by simp [Value.ownBlock] at hj; omega))
                     have hs3 := hg3.size
                     have hr3 : RowKit.Hid (Reads w3 w3.heap.size 1 A1 n (u64s up) ∧ Reads w3 w3.heap.size 2 A2 l (lbVals consts) ∧ NRows w3 w3.heap.size A3 m needs) := by
                       refine Lib.hid ?_
                       first
                         | exact ⟨(reads_empty hrA2.out kM hg3 (by decide)).more hs3, (reads_empty hc2.out kM hg3 (by decide)).more hs3, (rows_empty hd2.out kM hg3).more hs3⟩
                         | (simp at hs3
                            exact ⟨(reads_empty (hrA2.out.alloc (Nat.le_refl _) _) (Blk.new_at _ 29 #[] _ rfl) hg3 (by decide)).more (by omega), (reads_empty (hc2.out.alloc (Nat.le_refl _) _) (Blk.new_at _ 29 #[] _ rfl) hg3 (by decide)).more (by omega), (rows_empty (hd2.out.below (Below.alloc (Below.refl _ _) (Nat.le_refl _) _)) (Blk.new_at _ 29 #[] _ rfl) hg3).more (by omega)⟩)
                     have hr4 := Lib.hid (Reads.of_own hown3)
                     have hs3' := hb3.out.size
                     clear hown3 hg3 hat3 hs3)
                  | (go_at_call 18
                     refine (hBo.out _ A1 c1 A2 c2 A3 c3 A4 c4 ?_ ?_ ?_ ?_ ?_).mono ?_
                     · exact hBY.out.trans ((show Below Y.heap.size Y _ by (repeat (first | with_reducible exact hb3.out | with_reducible exact Below.refl _ _ | with_reducible refine Below.drew ?_ | (with_reducible refine Below.alloc ?_ ?_ _; rotate_left; · first | omega | (simp <;> omega)) | (with_reducible refine Below.setCell ?_ ?_ _; rotate_left; · first | omega | (simp <;> omega))))).mono hBY.out.size)
                     · exact hr3.out.1
                     · exact hr3.out.2.1
                     · exact hr3.out.2.2
                     · exact hr4.out
                     rintro e w4 ⟨rfl, hb4'⟩
                     have hb4 := Lib.hid (Below.trans (show Below Y.heap.size Y _ by (repeat (first | with_reducible exact hb3.out | with_reducible exact Below.refl _ _ | with_reducible refine Below.drew ?_ | (with_reducible refine Below.alloc ?_ ?_ _; rotate_left; · first | omega | (simp <;> omega)) | (with_reducible refine Below.setCell ?_ ?_ _; rotate_left; · first | omega | (simp <;> omega))))) (hb4'.mono (by first | omega | (simp <;> omega))))
                     have hs4 := hb4.out.size
                     clear hb4')
                  | (go_at_call 11
                     refine (hAw.out _ ?_).mono ?_
                     · exact hBY.out.trans ((show Below Y.heap.size Y _ by (repeat (first | with_reducible exact hb4.out | with_reducible exact Below.refl _ _ | with_reducible refine Below.drew ?_ | (with_reducible refine Below.alloc ?_ ?_ _; rotate_left; · first | omega | (simp <;> omega)) | (with_reducible refine Below.setCell ?_ ?_ _; rotate_left; · first | omega | (simp <;> omega))))).mono hBY.out.size)
                     rintro e w5 ⟨rfl, hb5'⟩
                     have hb5 := Lib.hid (Below.trans (show Below Y.heap.size Y _ by (repeat (first | with_reducible exact hb4.out | with_reducible exact Below.refl _ _ | with_reducible refine Below.drew ?_ | (with_reducible refine Below.alloc ?_ ?_ _; rotate_left; · first | omega | (simp <;> omega)) | (with_reducible refine Below.setCell ?_ ?_ _; rotate_left; · first | omega | (simp <;> omega))))) (hb5'.mono (by first | omega | (simp <;> omega))))
                     clear hb5')
                  | fail)
              all_goals (
                go_wp2
                go_ret
                exact ⟨by simp, hBY.out.trans (hb5.out.mono hBY.out.size)⟩)
          · go_wp2
            go_loopw [7, 9] (fun u v wr => u = .bool false ∧ v = .int .i64 0 ∧ Y = wr) (fun u v wr => 0)
            case atStart => exact ⟨rfl, rfl, rfl⟩
            case round =>
              obtain ⟨rfl, rfl, hwr⟩ := hrel
              subst hwr
              go_upto_region 12 with fail
              go_region_held3 (fun w' => w'.cell? ⟨w.heap.size, 0, none⟩ = some (.slice C l lc) ∧ w'.cell? ⟨w.heap.size, 1, none⟩ = some (.slice D m mc))
                (first
                    | (refine ⟨?_, ?_, ?_, ?_⟩ <;> (refine hcell.out _ _ _ ?_ (by first | omega | (simp <;> omega)) (by assumption); (repeat (first | with_reducible exact hb5.out | with_reducible exact hb4.out | with_reducible exact hb3.out | with_reducible exact hb2.out | with_reducible exact hb1.out | with_reducible exact Below.refl _ _ | with_reducible refine Below.drew ?_ | (with_reducible refine Below.alloc ?_ ?_ _; rotate_left; · first | omega | (simp <;> omega)) | (with_reducible refine Below.setCell ?_ ?_ _; rotate_left; · first | omega | (simp <;> omega))))))
                    | (refine ⟨?_, ?_⟩ <;> (refine hcell.out _ _ _ ?_ (by first | omega | (simp <;> omega)) (by assumption); (repeat (first | with_reducible exact hb5.out | with_reducible exact hb4.out | with_reducible exact hb3.out | with_reducible exact hb2.out | with_reducible exact hb1.out | with_reducible exact Below.refl _ _ | with_reducible refine Below.drew ?_ | (with_reducible refine Below.alloc ?_ ?_ _; rotate_left; · first | omega | (simp <;> omega)) | (with_reducible refine Below.setCell ?_ ?_ _; rotate_left; · first | omega | (simp <;> omega))))))
                    | (refine hcell.out _ _ _ ?_ (by first | omega | (simp <;> omega)) (by assumption); (repeat (first | with_reducible exact hb5.out | with_reducible exact hb4.out | with_reducible exact hb3.out | with_reducible exact hb2.out | with_reducible exact hb1.out | with_reducible exact Below.refl _ _ | with_reducible refine Below.drew ?_ | (with_reducible refine Below.alloc ?_ ?_ _; rotate_left; · first | omega | (simp <;> omega)) | (with_reducible refine Below.setCell ?_ ?_ _; rotate_left; · first | omega | (simp <;> omega)))))
                    | go_keep)
                (first
                  | (refine step_append_any _ (by rfl) _ _ _ (by rfl) Y.heap.size 27 i0 _ 1 8 Tryd.underlying22 hi0 hz0 hz1 hz2 rfl (by decide) (.slice (some ⟨_, 0, none⟩) 0 0) 0 [] (by rfl) (own_emptyV (base := Y.heap.size) (g := _) (by ((repeat (first | exact Blk.new_at _ _ _ _ (by first | rfl | (simp <;> omega)) | with_reducible refine Blk.drew ?_ | with_reducible refine Blk.alloc ?_ _)); done)) (by first | omega | (simp <;> omega))) Y.heap.size A n c (u64s up) (by rfl) (by (repeat (first | with_reducible exact hrY.out | with_reducible refine Reads.drew ?_ | (with_reducible refine Reads.alloc ?_ ?_ _; rotate_left; · first | omega | (simp <;> omega))))) h1.out (by first | omega | (simp <;> omega)) (by first | omega | (simp <;> omega)) (by first | omega | (simp <;> omega)) ?_
                     intro v1 w1 hown1 hg1 hat1
                     rw [Nat.zero_add, List.nil_append] at hown1
                     obtain ⟨A1, c1, rfl⟩ := ownsRow_slice hown1
                     have hb1 := Lib.hid ((show Below Y.heap.size Y _ by (repeat (first  | with_reducible exact Below.refl _ _ | with_reducible refine Below.drew ?_ | (with_reducible refine Below.alloc ?_ ?_ _; rotate_left; · first | omega | (simp <;> omega)) | (with_reducible refine Below.setCell ?_ ?_ _; rotate_left; · first | omega | (simp <;> omega))))).grown hg1 (by first | omega | (simp <;> omega)) (fun j hj => by simp [Value.ownBlock] at hj; omega))
                     have hrA := Lib.hid (Reads.of_own hown1)
                     have hs1 := hb1.out.size
                     first
                       | have kL := Blk.grown (Blk.drew (Blk.new_at _ 29 #[] (Y.heap.size + 1) (by simp))) hg1 (by simp [Value.ownBlock])
                       | have kL := Blk.grown (Blk.drew (Blk.alloc (Blk.new_at _ 29 #[] Y.heap.size rfl) _)) hg1 (by simp [Value.ownBlock])
                       | skip
                     clear hown1 hg1 hat1)
                  | (go_at_call 12
                     refine (hCop.out _ ?_).mono ?_
                     · exact hBY.out.trans ((show Below Y.heap.size Y _ by (repeat (first | with_reducible exact hb1.out | with_reducible exact Below.refl _ _ | with_reducible refine Below.drew ?_ | (with_reducible refine Below.alloc ?_ ?_ _; rotate_left; · first | omega | (simp <;> omega)) | (with_reducible refine Below.setCell ?_ ?_ _; rotate_left; · first | omega | (simp <;> omega))))).mono hBY.out.size)
                     rintro e w2 ⟨A2, c2, A3, c3, row, rfl, hO2, hR2, hb2'⟩
                     have hb2 := Lib.hid (Below.trans (show Below Y.heap.size Y _ by (repeat (first | with_reducible exact hb1.out | with_reducible exact Below.refl _ _ | with_reducible refine Below.drew ?_ | (with_reducible refine Below.alloc ?_ ?_ _; rotate_left; · first | omega | (simp <;> omega)) | (with_reducible refine Below.setCell ?_ ?_ _; rotate_left; · first | omega | (simp <;> omega))))) (hb2'.mono (by first | omega | (simp <;> omega))))
                     have hrA2 : RowKit.Hid (Reads w2 w2.heap.size 1 A1 n (u64s up)) := by
                       refine Lib.hid ?_
                       first
                         | exact (hrA.out.below hb2').more hb2'.size
                         | exact ((hrA.out.alloc (Nat.le_refl _) _).below (hb2'.mono (by simp))).more (by have := hb2'.size; simp at this; omega)
                     have hc2 := Lib.hid (Reads.of_own hO2)
                     have hd2 := Lib.hid (hR2.nrows hlenm.out)
                     have hs2 := hb2.out.size
                     first
                       | have kM := Blk.below kL hb2' kL.lt
                       | have kM := Blk.below (Blk.new_at _ 29 #[] w1.heap.size rfl) hb2' (by simp)
                       | skip
                     clear hO2 hR2 hb2')
                  | (refine step_append_any _ (by rfl) _ _ _ (by rfl) Y.heap.size 29 j0 _ 2 16 Tryd.underlying23 hj0 hy0 hy1 hy2 rfl (by decide) (.slice (some ⟨_, 0, none⟩) 0 0) 0 [] (by rfl) (own_emptyV (base := Y.heap.size) (g := _) (by first | exact kM | ((repeat (first | exact Blk.new_at _ _ _ _ (by first | rfl | (simp <;> omega)) | with_reducible refine Blk.drew ?_ | with_reducible refine Blk.alloc ?_ _)); done)) (by first | omega | (simp <;> omega))) Y.heap.size E k kc (lbVals ls) (by rfl) (by (repeat (first | with_reducible exact (hlsY.out.below hb2.out) | with_reducible refine Reads.drew ?_ | (with_reducible refine Reads.alloc ?_ ?_ _; rotate_left; · first | omega | (simp <;> omega))))) h2l.out (by first | omega | (simp <;> omega)) (by first | omega | (simp <;> omega)) (by first | omega | (simp <;> omega)) ?_
                     intro v3 w3 hown3 hg3 hat3
                     rw [Nat.zero_add, List.nil_append] at hown3
                     obtain ⟨A4, c4, rfl⟩ := ownsRow_slice hown3
                     have hb3 := Lib.hid ((show Below Y.heap.size Y _ by (repeat (first | with_reducible exact hb2.out | with_reducible exact Below.refl _ _ | with_reducible refine Below.drew ?_ | (with_reducible refine Below.alloc ?_ ?_ _; rotate_left; · first | omega | (simp <;> omega)) | (with_reducible refine Below.setCell ?_ ?_ _; rotate_left; · first | omega | (simp <;> omega))))).grown hg3 (by first | omega | (simp <;> omega)) (fun j hj => by simp [Value.ownBlock] at hj; omega))
                     have hs3 := hg3.size
                     have hr3 : RowKit.Hid (Reads w3 w3.heap.size 1 A1 n (u64s up) ∧ Reads w3 w3.heap.size 2 A2 l (lbVals consts) ∧ NRows w3 w3.heap.size A3 m needs) := by
                       refine Lib.hid ?_
                       first
                         | exact ⟨(reads_empty hrA2.out kM hg3 (by decide)).more hs3, (reads_empty hc2.out kM hg3 (by decide)).more hs3, (rows_empty hd2.out kM hg3).more hs3⟩
                         | (simp at hs3
                            exact ⟨(reads_empty (hrA2.out.alloc (Nat.le_refl _) _) (Blk.new_at _ 29 #[] _ rfl) hg3 (by decide)).more (by omega), (reads_empty (hc2.out.alloc (Nat.le_refl _) _) (Blk.new_at _ 29 #[] _ rfl) hg3 (by decide)).more (by omega), (rows_empty (hd2.out.below (Below.alloc (Below.refl _ _) (Nat.le_refl _) _)) (Blk.new_at _ 29 #[] _ rfl) hg3).more (by omega)⟩)
                     have hr4 := Lib.hid (Reads.of_own hown3)
                     have hs3' := hb3.out.size
                     clear hown3 hg3 hat3 hs3)
                  | (go_at_call 18
                     refine (hBo.out _ A1 c1 A2 c2 A3 c3 A4 c4 ?_ ?_ ?_ ?_ ?_).mono ?_
                     · exact hBY.out.trans ((show Below Y.heap.size Y _ by (repeat (first | with_reducible exact hb3.out | with_reducible exact Below.refl _ _ | with_reducible refine Below.drew ?_ | (with_reducible refine Below.alloc ?_ ?_ _; rotate_left; · first | omega | (simp <;> omega)) | (with_reducible refine Below.setCell ?_ ?_ _; rotate_left; · first | omega | (simp <;> omega))))).mono hBY.out.size)
                     · exact hr3.out.1
                     · exact hr3.out.2.1
                     · exact hr3.out.2.2
                     · exact hr4.out
                     rintro e w4 ⟨rfl, hb4'⟩
                     have hb4 := Lib.hid (Below.trans (show Below Y.heap.size Y _ by (repeat (first | with_reducible exact hb3.out | with_reducible exact Below.refl _ _ | with_reducible refine Below.drew ?_ | (with_reducible refine Below.alloc ?_ ?_ _; rotate_left; · first | omega | (simp <;> omega)) | (with_reducible refine Below.setCell ?_ ?_ _; rotate_left; · first | omega | (simp <;> omega))))) (hb4'.mono (by first | omega | (simp <;> omega))))
                     have hs4 := hb4.out.size
                     clear hb4')
                  | (go_at_call 11
                     refine (hAw.out _ ?_).mono ?_
                     · exact hBY.out.trans ((show Below Y.heap.size Y _ by (repeat (first | with_reducible exact hb4.out | with_reducible exact Below.refl _ _ | with_reducible refine Below.drew ?_ | (with_reducible refine Below.alloc ?_ ?_ _; rotate_left; · first | omega | (simp <;> omega)) | (with_reducible refine Below.setCell ?_ ?_ _; rotate_left; · first | omega | (simp <;> omega))))).mono hBY.out.size)
                     rintro e w5 ⟨rfl, hb5'⟩
                     have hb5 := Lib.hid (Below.trans (show Below Y.heap.size Y _ by (repeat (first | with_reducible exact hb4.out | with_reducible exact Below.refl _ _ | with_reducible refine Below.drew ?_ | (with_reducible refine Below.alloc ?_ ?_ _; rotate_left; · first | omega | (simp <;> omega)) | (with_reducible refine Below.setCell ?_ ?_ _; rotate_left; · first | omega | (simp <;> omega))))) (hb5'.mono (by first | omega | (simp <;> omega))))
                     clear hb5')
                  | fail)
              all_goals (
                go_wp2
                go_ret
                exact ⟨by simp, hBY.out.trans (hb5.out.mono hBY.out.size)⟩)
      · rw [hq]
        replace hq := Lib.hid hq
        go_wp2
        go_loopw [7, 8] (fun u v wr => u = .bool false ∧ v = .int .i64 0 ∧ Y = wr) (fun u v wr => 0)
        case atStart => exact ⟨rfl, rfl, rfl⟩
        case round =>
          obtain ⟨rfl, rfl, hwr⟩ := hrel
          subst hwr
          by_cases h0 : ((0 : Int) < (k : Int))
          · go_wp2
            go_loopw [7, 9] (fun u v wr => u = .bool false ∧ v = .int .i64 0 ∧ Y = wr) (fun u v wr => 0)
            case atStart => exact ⟨rfl, rfl, rfl⟩
            case round =>
              obtain ⟨rfl, rfl, hwr⟩ := hrel
              subst hwr
              go_upto_region 12 with fail
              go_region_held3 (fun w' => w'.cell? ⟨w.heap.size, 0, none⟩ = some (.slice C l lc) ∧ w'.cell? ⟨w.heap.size, 1, none⟩ = some (.slice D m mc))
                (first
                    | (refine ⟨?_, ?_, ?_, ?_⟩ <;> (refine hcell.out _ _ _ ?_ (by first | omega | (simp <;> omega)) (by assumption); (repeat (first | with_reducible exact hb5.out | with_reducible exact hb4.out | with_reducible exact hb3.out | with_reducible exact hb2.out | with_reducible exact hb1.out | with_reducible exact Below.refl _ _ | with_reducible refine Below.drew ?_ | (with_reducible refine Below.alloc ?_ ?_ _; rotate_left; · first | omega | (simp <;> omega)) | (with_reducible refine Below.setCell ?_ ?_ _; rotate_left; · first | omega | (simp <;> omega))))))
                    | (refine ⟨?_, ?_⟩ <;> (refine hcell.out _ _ _ ?_ (by first | omega | (simp <;> omega)) (by assumption); (repeat (first | with_reducible exact hb5.out | with_reducible exact hb4.out | with_reducible exact hb3.out | with_reducible exact hb2.out | with_reducible exact hb1.out | with_reducible exact Below.refl _ _ | with_reducible refine Below.drew ?_ | (with_reducible refine Below.alloc ?_ ?_ _; rotate_left; · first | omega | (simp <;> omega)) | (with_reducible refine Below.setCell ?_ ?_ _; rotate_left; · first | omega | (simp <;> omega))))))
                    | (refine hcell.out _ _ _ ?_ (by first | omega | (simp <;> omega)) (by assumption); (repeat (first | with_reducible exact hb5.out | with_reducible exact hb4.out | with_reducible exact hb3.out | with_reducible exact hb2.out | with_reducible exact hb1.out | with_reducible exact Below.refl _ _ | with_reducible refine Below.drew ?_ | (with_reducible refine Below.alloc ?_ ?_ _; rotate_left; · first | omega | (simp <;> omega)) | (with_reducible refine Below.setCell ?_ ?_ _; rotate_left; · first | omega | (simp <;> omega)))))
                    | go_keep)
                (first
                  | (refine step_append_any _ (by rfl) _ _ _ (by rfl) Y.heap.size 27 i0 _ 1 8 Tryd.underlying22 hi0 hz0 hz1 hz2 rfl (by decide) (.slice (some ⟨_, 0, none⟩) 0 0) 0 [] (by rfl) (own_emptyV (base := Y.heap.size) (g := _) (by ((repeat (first | exact Blk.new_at _ _ _ _ (by first | rfl | (simp <;> omega)) | with_reducible refine Blk.drew ?_ | with_reducible refine Blk.alloc ?_ _)); done)) (by first | omega | (simp <;> omega))) Y.heap.size A n c (u64s up) (by rfl) (by (repeat (first | with_reducible exact hrY.out | with_reducible refine Reads.drew ?_ | (with_reducible refine Reads.alloc ?_ ?_ _; rotate_left; · first | omega | (simp <;> omega))))) h1.out (by first | omega | (simp <;> omega)) (by first | omega | (simp <;> omega)) (by first | omega | (simp <;> omega)) ?_
                     intro v1 w1 hown1 hg1 hat1
                     rw [Nat.zero_add, List.nil_append] at hown1
                     obtain ⟨A1, c1, rfl⟩ := ownsRow_slice hown1
                     have hb1 := Lib.hid ((show Below Y.heap.size Y _ by (repeat (first  | with_reducible exact Below.refl _ _ | with_reducible refine Below.drew ?_ | (with_reducible refine Below.alloc ?_ ?_ _; rotate_left; · first | omega | (simp <;> omega)) | (with_reducible refine Below.setCell ?_ ?_ _; rotate_left; · first | omega | (simp <;> omega))))).grown hg1 (by first | omega | (simp <;> omega)) (fun j hj => by simp [Value.ownBlock] at hj; omega))
                     have hrA := Lib.hid (Reads.of_own hown1)
                     have hs1 := hb1.out.size
                     first
                       | have kL := Blk.grown (Blk.drew (Blk.new_at _ 29 #[] (Y.heap.size + 1) (by simp))) hg1 (by simp [Value.ownBlock])
                       | have kL := Blk.grown (Blk.drew (Blk.alloc (Blk.new_at _ 29 #[] Y.heap.size rfl) _)) hg1 (by simp [Value.ownBlock])
                       | skip
                     clear hown1 hg1 hat1)
                  | (go_at_call 12
                     refine (hCop.out _ ?_).mono ?_
                     · exact hBY.out.trans ((show Below Y.heap.size Y _ by (repeat (first | with_reducible exact hb1.out | with_reducible exact Below.refl _ _ | with_reducible refine Below.drew ?_ | (with_reducible refine Below.alloc ?_ ?_ _; rotate_left; · first | omega | (simp <;> omega)) | (with_reducible refine Below.setCell ?_ ?_ _; rotate_left; · first | omega | (simp <;> omega))))).mono hBY.out.size)
                     rintro e w2 ⟨A2, c2, A3, c3, row, rfl, hO2, hR2, hb2'⟩
                     have hb2 := Lib.hid (Below.trans (show Below Y.heap.size Y _ by (repeat (first | with_reducible exact hb1.out | with_reducible exact Below.refl _ _ | with_reducible refine Below.drew ?_ | (with_reducible refine Below.alloc ?_ ?_ _; rotate_left; · first | omega | (simp <;> omega)) | (with_reducible refine Below.setCell ?_ ?_ _; rotate_left; · first | omega | (simp <;> omega))))) (hb2'.mono (by first | omega | (simp <;> omega))))
                     have hrA2 : RowKit.Hid (Reads w2 w2.heap.size 1 A1 n (u64s up)) := by
                       refine Lib.hid ?_
                       first
                         | exact (hrA.out.below hb2').more hb2'.size
                         | exact ((hrA.out.alloc (Nat.le_refl _) _).below (hb2'.mono (by simp))).more (by have := hb2'.size; simp at this; omega)
                     have hc2 := Lib.hid (Reads.of_own hO2)
                     have hd2 := Lib.hid (hR2.nrows hlenm.out)
                     have hs2 := hb2.out.size
                     first
                       | have kM := Blk.below kL hb2' kL.lt
                       | have kM := Blk.below (Blk.new_at _ 29 #[] w1.heap.size rfl) hb2' (by simp)
                       | skip
                     clear hO2 hR2 hb2')
                  | (refine step_append_any _ (by rfl) _ _ _ (by rfl) Y.heap.size 29 j0 _ 2 16 Tryd.underlying23 hj0 hy0 hy1 hy2 rfl (by decide) (.slice (some ⟨_, 0, none⟩) 0 0) 0 [] (by rfl) (own_emptyV (base := Y.heap.size) (g := _) (by first | exact kM | ((repeat (first | exact Blk.new_at _ _ _ _ (by first | rfl | (simp <;> omega)) | with_reducible refine Blk.drew ?_ | with_reducible refine Blk.alloc ?_ _)); done)) (by first | omega | (simp <;> omega))) Y.heap.size E k kc (lbVals ls) (by rfl) (by (repeat (first | with_reducible exact (hlsY.out.below hb2.out) | with_reducible refine Reads.drew ?_ | (with_reducible refine Reads.alloc ?_ ?_ _; rotate_left; · first | omega | (simp <;> omega))))) h2l.out (by first | omega | (simp <;> omega)) (by first | omega | (simp <;> omega)) (by first | omega | (simp <;> omega)) ?_
                     intro v3 w3 hown3 hg3 hat3
                     rw [Nat.zero_add, List.nil_append] at hown3
                     obtain ⟨A4, c4, rfl⟩ := ownsRow_slice hown3
                     have hb3 := Lib.hid ((show Below Y.heap.size Y _ by (repeat (first | with_reducible exact hb2.out | with_reducible exact Below.refl _ _ | with_reducible refine Below.drew ?_ | (with_reducible refine Below.alloc ?_ ?_ _; rotate_left; · first | omega | (simp <;> omega)) | (with_reducible refine Below.setCell ?_ ?_ _; rotate_left; · first | omega | (simp <;> omega))))).grown hg3 (by first | omega | (simp <;> omega)) (fun j hj => by simp [Value.ownBlock] at hj; omega))
                     have hs3 := hg3.size
                     have hr3 : RowKit.Hid (Reads w3 w3.heap.size 1 A1 n (u64s up) ∧ Reads w3 w3.heap.size 2 A2 l (lbVals consts) ∧ NRows w3 w3.heap.size A3 m needs) := by
                       refine Lib.hid ?_
                       first
                         | exact ⟨(reads_empty hrA2.out kM hg3 (by decide)).more hs3, (reads_empty hc2.out kM hg3 (by decide)).more hs3, (rows_empty hd2.out kM hg3).more hs3⟩
                         | (simp at hs3
                            exact ⟨(reads_empty (hrA2.out.alloc (Nat.le_refl _) _) (Blk.new_at _ 29 #[] _ rfl) hg3 (by decide)).more (by omega), (reads_empty (hc2.out.alloc (Nat.le_refl _) _) (Blk.new_at _ 29 #[] _ rfl) hg3 (by decide)).more (by omega), (rows_empty (hd2.out.below (Below.alloc (Below.refl _ _) (Nat.le_refl _) _)) (Blk.new_at _ 29 #[] _ rfl) hg3).more (by omega)⟩)
                     have hr4 := Lib.hid (Reads.of_own hown3)
                     have hs3' := hb3.out.size
                     clear hown3 hg3 hat3 hs3)
                  | (go_at_call 18
                     refine (hBo.out _ A1 c1 A2 c2 A3 c3 A4 c4 ?_ ?_ ?_ ?_ ?_).mono ?_
                     · exact hBY.out.trans ((show Below Y.heap.size Y _ by (repeat (first | with_reducible exact hb3.out | with_reducible exact Below.refl _ _ | with_reducible refine Below.drew ?_ | (with_reducible refine Below.alloc ?_ ?_ _; rotate_left; · first | omega | (simp <;> omega)) | (with_reducible refine Below.setCell ?_ ?_ _; rotate_left; · first | omega | (simp <;> omega))))).mono hBY.out.size)
                     · exact hr3.out.1
                     · exact hr3.out.2.1
                     · exact hr3.out.2.2
                     · exact hr4.out
                     rintro e w4 ⟨rfl, hb4'⟩
                     have hb4 := Lib.hid (Below.trans (show Below Y.heap.size Y _ by (repeat (first | with_reducible exact hb3.out | with_reducible exact Below.refl _ _ | with_reducible refine Below.drew ?_ | (with_reducible refine Below.alloc ?_ ?_ _; rotate_left; · first | omega | (simp <;> omega)) | (with_reducible refine Below.setCell ?_ ?_ _; rotate_left; · first | omega | (simp <;> omega))))) (hb4'.mono (by first | omega | (simp <;> omega))))
                     have hs4 := hb4.out.size
                     clear hb4')
                  | (go_at_call 11
                     refine (hAw.out _ ?_).mono ?_
                     · exact hBY.out.trans ((show Below Y.heap.size Y _ by (repeat (first | with_reducible exact hb4.out | with_reducible exact Below.refl _ _ | with_reducible refine Below.drew ?_ | (with_reducible refine Below.alloc ?_ ?_ _; rotate_left; · first | omega | (simp <;> omega)) | (with_reducible refine Below.setCell ?_ ?_ _; rotate_left; · first | omega | (simp <;> omega))))).mono hBY.out.size)
                     rintro e w5 ⟨rfl, hb5'⟩
                     have hb5 := Lib.hid (Below.trans (show Below Y.heap.size Y _ by (repeat (first | with_reducible exact hb4.out | with_reducible exact Below.refl _ _ | with_reducible refine Below.drew ?_ | (with_reducible refine Below.alloc ?_ ?_ _; rotate_left; · first | omega | (simp <;> omega)) | (with_reducible refine Below.setCell ?_ ?_ _; rotate_left; · first | omega | (simp <;> omega))))) (hb5'.mono (by first | omega | (simp <;> omega))))
                     clear hb5')
                  | fail)
              all_goals (
                go_wp2
                go_ret
                exact ⟨by simp, hBY.out.trans (hb5.out.mono hBY.out.size)⟩)
          · go_wp2
            go_loopw [7, 9] (fun u v wr => u = .bool false ∧ v = .int .i64 0 ∧ Y = wr) (fun u v wr => 0)
            case atStart => exact ⟨rfl, rfl, rfl⟩
            case round =>
              obtain ⟨rfl, rfl, hwr⟩ := hrel
              subst hwr
              go_upto_region 12 with fail
              go_region_held3 (fun w' => w'.cell? ⟨w.heap.size, 0, none⟩ = some (.slice C l lc) ∧ w'.cell? ⟨w.heap.size, 1, none⟩ = some (.slice D m mc))
                (first
                    | (refine ⟨?_, ?_, ?_, ?_⟩ <;> (refine hcell.out _ _ _ ?_ (by first | omega | (simp <;> omega)) (by assumption); (repeat (first | with_reducible exact hb5.out | with_reducible exact hb4.out | with_reducible exact hb3.out | with_reducible exact hb2.out | with_reducible exact hb1.out | with_reducible exact Below.refl _ _ | with_reducible refine Below.drew ?_ | (with_reducible refine Below.alloc ?_ ?_ _; rotate_left; · first | omega | (simp <;> omega)) | (with_reducible refine Below.setCell ?_ ?_ _; rotate_left; · first | omega | (simp <;> omega))))))
                    | (refine ⟨?_, ?_⟩ <;> (refine hcell.out _ _ _ ?_ (by first | omega | (simp <;> omega)) (by assumption); (repeat (first | with_reducible exact hb5.out | with_reducible exact hb4.out | with_reducible exact hb3.out | with_reducible exact hb2.out | with_reducible exact hb1.out | with_reducible exact Below.refl _ _ | with_reducible refine Below.drew ?_ | (with_reducible refine Below.alloc ?_ ?_ _; rotate_left; · first | omega | (simp <;> omega)) | (with_reducible refine Below.setCell ?_ ?_ _; rotate_left; · first | omega | (simp <;> omega))))))
                    | (refine hcell.out _ _ _ ?_ (by first | omega | (simp <;> omega)) (by assumption); (repeat (first | with_reducible exact hb5.out | with_reducible exact hb4.out | with_reducible exact hb3.out | with_reducible exact hb2.out | with_reducible exact hb1.out | with_reducible exact Below.refl _ _ | with_reducible refine Below.drew ?_ | (with_reducible refine Below.alloc ?_ ?_ _; rotate_left; · first | omega | (simp <;> omega)) | (with_reducible refine Below.setCell ?_ ?_ _; rotate_left; · first | omega | (simp <;> omega)))))
                    | go_keep)
                (first
                  | (refine step_append_any _ (by rfl) _ _ _ (by rfl) Y.heap.size 27 i0 _ 1 8 Tryd.underlying22 hi0 hz0 hz1 hz2 rfl (by decide) (.slice (some ⟨_, 0, none⟩) 0 0) 0 [] (by rfl) (own_emptyV (base := Y.heap.size) (g := _) (by ((repeat (first | exact Blk.new_at _ _ _ _ (by first | rfl | (simp <;> omega)) | with_reducible refine Blk.drew ?_ | with_reducible refine Blk.alloc ?_ _)); done)) (by first | omega | (simp <;> omega))) Y.heap.size A n c (u64s up) (by rfl) (by (repeat (first | with_reducible exact hrY.out | with_reducible refine Reads.drew ?_ | (with_reducible refine Reads.alloc ?_ ?_ _; rotate_left; · first | omega | (simp <;> omega))))) h1.out (by first | omega | (simp <;> omega)) (by first | omega | (simp <;> omega)) (by first | omega | (simp <;> omega)) ?_
                     intro v1 w1 hown1 hg1 hat1
                     rw [Nat.zero_add, List.nil_append] at hown1
                     obtain ⟨A1, c1, rfl⟩ := ownsRow_slice hown1
                     have hb1 := Lib.hid ((show Below Y.heap.size Y _ by (repeat (first  | with_reducible exact Below.refl _ _ | with_reducible refine Below.drew ?_ | (with_reducible refine Below.alloc ?_ ?_ _; rotate_left; · first | omega | (simp <;> omega)) | (with_reducible refine Below.setCell ?_ ?_ _; rotate_left; · first | omega | (simp <;> omega))))).grown hg1 (by first | omega | (simp <;> omega)) (fun j hj => by simp [Value.ownBlock] at hj; omega))
                     have hrA := Lib.hid (Reads.of_own hown1)
                     have hs1 := hb1.out.size
                     first
                       | have kL := Blk.grown (Blk.drew (Blk.new_at _ 29 #[] (Y.heap.size + 1) (by simp))) hg1 (by simp [Value.ownBlock])
                       | have kL := Blk.grown (Blk.drew (Blk.alloc (Blk.new_at _ 29 #[] Y.heap.size rfl) _)) hg1 (by simp [Value.ownBlock])
                       | skip
                     clear hown1 hg1 hat1)
                  | (go_at_call 12
                     refine (hCop.out _ ?_).mono ?_
                     · exact hBY.out.trans ((show Below Y.heap.size Y _ by (repeat (first | with_reducible exact hb1.out | with_reducible exact Below.refl _ _ | with_reducible refine Below.drew ?_ | (with_reducible refine Below.alloc ?_ ?_ _; rotate_left; · first | omega | (simp <;> omega)) | (with_reducible refine Below.setCell ?_ ?_ _; rotate_left; · first | omega | (simp <;> omega))))).mono hBY.out.size)
                     rintro e w2 ⟨A2, c2, A3, c3, row, rfl, hO2, hR2, hb2'⟩
                     have hb2 := Lib.hid (Below.trans (show Below Y.heap.size Y _ by (repeat (first | with_reducible exact hb1.out | with_reducible exact Below.refl _ _ | with_reducible refine Below.drew ?_ | (with_reducible refine Below.alloc ?_ ?_ _; rotate_left; · first | omega | (simp <;> omega)) | (with_reducible refine Below.setCell ?_ ?_ _; rotate_left; · first | omega | (simp <;> omega))))) (hb2'.mono (by first | omega | (simp <;> omega))))
                     have hrA2 : RowKit.Hid (Reads w2 w2.heap.size 1 A1 n (u64s up)) := by
                       refine Lib.hid ?_
                       first
                         | exact (hrA.out.below hb2').more hb2'.size
                         | exact ((hrA.out.alloc (Nat.le_refl _) _).below (hb2'.mono (by simp))).more (by have := hb2'.size; simp at this; omega)
                     have hc2 := Lib.hid (Reads.of_own hO2)
                     have hd2 := Lib.hid (hR2.nrows hlenm.out)
                     have hs2 := hb2.out.size
                     first
                       | have kM := Blk.below kL hb2' kL.lt
                       | have kM := Blk.below (Blk.new_at _ 29 #[] w1.heap.size rfl) hb2' (by simp)
                       | skip
                     clear hO2 hR2 hb2')
                  | (refine step_append_any _ (by rfl) _ _ _ (by rfl) Y.heap.size 29 j0 _ 2 16 Tryd.underlying23 hj0 hy0 hy1 hy2 rfl (by decide) (.slice (some ⟨_, 0, none⟩) 0 0) 0 [] (by rfl) (own_emptyV (base := Y.heap.size) (g := _) (by first | exact kM | ((repeat (first | exact Blk.new_at _ _ _ _ (by first | rfl | (simp <;> omega)) | with_reducible refine Blk.drew ?_ | with_reducible refine Blk.alloc ?_ _)); done)) (by first | omega | (simp <;> omega))) Y.heap.size E k kc (lbVals ls) (by rfl) (by (repeat (first | with_reducible exact (hlsY.out.below hb2.out) | with_reducible refine Reads.drew ?_ | (with_reducible refine Reads.alloc ?_ ?_ _; rotate_left; · first | omega | (simp <;> omega))))) h2l.out (by first | omega | (simp <;> omega)) (by first | omega | (simp <;> omega)) (by first | omega | (simp <;> omega)) ?_
                     intro v3 w3 hown3 hg3 hat3
                     rw [Nat.zero_add, List.nil_append] at hown3
                     obtain ⟨A4, c4, rfl⟩ := ownsRow_slice hown3
                     have hb3 := Lib.hid ((show Below Y.heap.size Y _ by (repeat (first | with_reducible exact hb2.out | with_reducible exact Below.refl _ _ | with_reducible refine Below.drew ?_ | (with_reducible refine Below.alloc ?_ ?_ _; rotate_left; · first | omega | (simp <;> omega)) | (with_reducible refine Below.setCell ?_ ?_ _; rotate_left; · first | omega | (simp <;> omega))))).grown hg3 (by first | omega | (simp <;> omega)) (fun j hj => by simp [Value.ownBlock] at hj; omega))
                     have hs3 := hg3.size
                     have hr3 : RowKit.Hid (Reads w3 w3.heap.size 1 A1 n (u64s up) ∧ Reads w3 w3.heap.size 2 A2 l (lbVals consts) ∧ NRows w3 w3.heap.size A3 m needs) := by
                       refine Lib.hid ?_
                       first
                         | exact ⟨(reads_empty hrA2.out kM hg3 (by decide)).more hs3, (reads_empty hc2.out kM hg3 (by decide)).more hs3, (rows_empty hd2.out kM hg3).more hs3⟩
                         | (simp at hs3
                            exact ⟨(reads_empty (hrA2.out.alloc (Nat.le_refl _) _) (Blk.new_at _ 29 #[] _ rfl) hg3 (by decide)).more (by omega), (reads_empty (hc2.out.alloc (Nat.le_refl _) _) (Blk.new_at _ 29 #[] _ rfl) hg3 (by decide)).more (by omega), (rows_empty (hd2.out.below (Below.alloc (Below.refl _ _) (Nat.le_refl _) _)) (Blk.new_at _ 29 #[] _ rfl) hg3).more (by omega)⟩)
                     have hr4 := Lib.hid (Reads.of_own hown3)
                     have hs3' := hb3.out.size
                     clear hown3 hg3 hat3 hs3)
                  | (go_at_call 18
                     refine (hBo.out _ A1 c1 A2 c2 A3 c3 A4 c4 ?_ ?_ ?_ ?_ ?_).mono ?_
                     · exact hBY.out.trans ((show Below Y.heap.size Y _ by (repeat (first | with_reducible exact hb3.out | with_reducible exact Below.refl _ _ | with_reducible refine Below.drew ?_ | (with_reducible refine Below.alloc ?_ ?_ _; rotate_left; · first | omega | (simp <;> omega)) | (with_reducible refine Below.setCell ?_ ?_ _; rotate_left; · first | omega | (simp <;> omega))))).mono hBY.out.size)
                     · exact hr3.out.1
                     · exact hr3.out.2.1
                     · exact hr3.out.2.2
                     · exact hr4.out
                     rintro e w4 ⟨rfl, hb4'⟩
                     have hb4 := Lib.hid (Below.trans (show Below Y.heap.size Y _ by (repeat (first | with_reducible exact hb3.out | with_reducible exact Below.refl _ _ | with_reducible refine Below.drew ?_ | (with_reducible refine Below.alloc ?_ ?_ _; rotate_left; · first | omega | (simp <;> omega)) | (with_reducible refine Below.setCell ?_ ?_ _; rotate_left; · first | omega | (simp <;> omega))))) (hb4'.mono (by first | omega | (simp <;> omega))))
                     have hs4 := hb4.out.size
                     clear hb4')
                  | (go_at_call 11
                     refine (hAw.out _ ?_).mono ?_
                     · exact hBY.out.trans ((show Below Y.heap.size Y _ by (repeat (first | with_reducible exact hb4.out | with_reducible exact Below.refl _ _ | with_reducible refine Below.drew ?_ | (with_reducible refine Below.alloc ?_ ?_ _; rotate_left; · first | omega | (simp <;> omega)) | (with_reducible refine Below.setCell ?_ ?_ _; rotate_left; · first | omega | (simp <;> omega))))).mono hBY.out.size)
                     rintro e w5 ⟨rfl, hb5'⟩
                     have hb5 := Lib.hid (Below.trans (show Below Y.heap.size Y _ by (repeat (first | with_reducible exact hb4.out | with_reducible exact Below.refl _ _ | with_reducible refine Below.drew ?_ | (with_reducible refine Below.alloc ?_ ?_ _; rotate_left; · first | omega | (simp <;> omega)) | (with_reducible refine Below.setCell ?_ ?_ _; rotate_left; · first | omega | (simp <;> omega))))) (hb5'.mono (by first | omega | (simp <;> omega))))
                     clear hb5')
                  | fail)
              all_goals (
                go_wp2
                go_ret
                exact ⟨by simp, hBY.out.trans (hb5.out.mono hBY.out.size)⟩)
    · have hq : sysB up consts needs = true := by
        cases h : sysB up consts needs with
        | true => rfl
        | false => exact absurd (.inl h) hno
      obtain rfl : k = l := Classical.byContradiction fun h => hno (.inr h)
      clear hno
      obtain ⟨N, rfl, hS⟩ := sysB_sys hM.out hq
      have hBo0 := fun (W : World) (A1 : Option Addr) (c1 : Nat) (A2 : Option Addr) (c2 : Nat) (A3 : Option Addr) (c3 : Nat) (A4 : Option Addr) (c4 : Nat) (hb : Below w.heap.size w W) (q1 : Reads W W.heap.size 1 A1 n (u64s up)) (q2 : Reads W W.heap.size 2 A2 k (lbVals consts)) (q3 : NRows W W.heap.size A3 m (N.map casts)) (q4 : Reads W W.heap.size 2 A4 k (lbVals ls)) => bounds_yes A1 n c1 up A2 A3 A4 k c2 m c3 c4 consts ls N W (hT.out.later hb) hn.out hn63 hM.out q1 hl.out (by omega) q2 hm63 q3 hq hS (fun k _ => hcm.out k) hk.out (fun k _ => hlm.out k) q4
      have he : boundB up consts N ls = (((List.range k).all fun i => goodB up (ls.getD i z0).lv) && (List.range k).all fun i => leL up (valF up consts N ls i) (ls.getD i z0)) := by unfold boundB; rw [hl.out]
      replace hBo0 := Lib.hid hBo0
      replace he := Lib.hid he
      replace hf := Lib.hid hf
      replace hS := Lib.hid hS
      go_enter Tryd.func5, Tryd.ntmps5
      go_wp2_with fail
      refine hFew.out.mono ?_
      rintro e w1 ⟨rfl, hb1'⟩
      rw [hf.out]
      have hB := Lib.hid (hb0.out.trans (hb1'.mono hb0.out.size))
      obtain ⟨a0, a1⟩ := pair_cells (k0.out.below hb1' k0.out.lt)
      have k1 := Lib.hid (k0.out.below hb1' k0.out.lt)
      clear hb1' s0 s1
      go_wp2_with fail
      refine (hRR.out _ hB.out).mono ?_
      rintro e w2 ⟨rfl, hbW⟩
      rw [hq]
      replace hq := Lib.hid hq
      have hB2 := Lib.hid (hB.out.trans (hbW.mono hB.out.size))
      clear a0 a1
      have k2 := k1.out.below hbW k1.out.lt
      obtain ⟨a0, a1⟩ := pair_cells k2
      replace k2 := Lib.hid k2
      clear hbW
      go_wp2
      go_loopw [7, 8] (fun u v wr => ∃ i : Nat, v = .int .i64 (i : Nat) ∧ u = .bool ((List.range i).all fun i => goodB up (ls.getD i z0).lv) ∧ i ≤ k ∧ Below w2.heap.size w2 wr) (fun u v wr => k - natOf v)
      case atStart => exact ⟨0, rfl, rfl, by omega, Below.refl _ _⟩
      case round =>
        obtain ⟨i, rfl, rfl, hik, hbr⟩ := hrel
        have hBr := hB2.out.trans (hbr.mono hB2.out.size)
        have hsr := hbr.size
        have kr := k2.out.below hbr k2.out.lt
        have hsu := all_succV i (fun i => goodB up (ls.getD i z0).lv)
        by_cases hgo : i < k ∧ ((List.range i).all fun i => goodB up (ls.getD i z0).lv) = true
        · obtain ⟨hi, hall⟩ := hgo
          have hlt : ((i : Int) < (k : Int)) := by omega
          rw [hall, Bool.true_and] at hsu
          rw [hall]
          obtain ⟨ad, hE, hbk, x0, x1⟩ := reads_label hk.out ((hls.out.below hBr).more hBr.size) hi
          subst hE
          change wr.cell? (ad.add (i * 2)) = some (Value.int .i64 (ls.getD i z0).lv) at x0
          change _ = some (Value.int .u64 ((ls.getD i z0).ms : Nat)) at x1
          have hG := good_any A n c up (ls.getD i z0) wr hn.out
          generalize ls.getD i z0 = y at *
          replace hG := Lib.hid hG
          replace hsu := Lib.hid hsu
          replace hall := Lib.hid hall
          replace hbr := Lib.hid hbr
          replace hBr := Lib.hid hBr
          replace kr := Lib.hid kr
          go_wp2_with fail
          refine hG.out.mono ?_
          rintro e w3 ⟨rfl, hb3⟩
          have hfb := Lib.hid (hbr.out.trans (hb3.mono hsr))
          clear hb3
          go_wp2
          go_roundw
          case rel => exact ⟨i + 1, by go_num, by rw [hsu.out], by omega, hfb.out⟩
          case measure => simp [natOf]; omega
        · have hallk : ((List.range i).all fun i => goodB up (ls.getD i z0).lv) = ((List.range k).all fun i => goodB up (ls.getD i z0).lv) := by
            by_cases hi : i < k
            · have hfl : ((List.range i).all fun i => goodB up (ls.getD i z0).lv) = false := by
                cases h : ((List.range i).all fun i => goodB up (ls.getD i z0).lv) with
                | false => rfl
                | true => exact absurd ⟨hi, h⟩ hgo
              rw [hfl]
              rw [List.all_eq_false] at hfl
              obtain ⟨j, hj, hp⟩ := hfl
              symm
              rw [List.all_eq_false]
              exact ⟨j, List.mem_range.2 (by have := List.mem_range.1 hj; omega), hp⟩
            · have : i = k := by omega
              rw [this]
          have hcond : (i < k ∧ ((List.range k).all fun i => goodB up (ls.getD i z0).lv) = false) ∨ ¬ ((i : Int) < (k : Int)) := by
            by_cases hi : i < k
            · refine .inl ⟨hi, ?_⟩
              rw [← hallk]
              cases h : ((List.range i).all fun i => goodB up (ls.getD i z0).lv) with
              | false => rfl
              | true => exact absurd ⟨hi, h⟩ hgo
            · exact .inr (by omega)
          rw [hallk]
          have hLb : ((List.range k).all fun i => goodB up (ls.getD i z0).lv) = true → Lbs up k ls := fun h => ⟨hk.out, fun i hi => gd_iff.1 (List.all_eq_true.1 h i (List.mem_range.2 hi))⟩
          generalize ((List.range k).all fun i => goodB up (ls.getD i z0).lv) = b0 at *
          replace hallk := Lib.hid hallk
          replace hsu := Lib.hid hsu
          replace hLb := Lib.hid hLb
          replace hgo := Lib.hid hgo
          obtain ⟨w3, hw3, rfl⟩ : ∃ Z, Below w2.heap.size w2 Z ∧ Z = wr := ⟨_, hbr, rfl⟩
          clear hw3
          have hB3 := Lib.hid hBr
          clear a0 a1
          obtain ⟨a0, a1⟩ := pair_cells kr
          have k3 := Lib.hid kr
          clear hbr hBr kr
          rcases hcond with ⟨hi, hbf⟩ | hlt
          · have hlt : ((i : Int) < (k : Int)) := by omega
            subst hbf
            go_wp2
            go_loopw [7, 9] (fun u v wr => ∃ i : Nat, v = .int .i64 (i : Nat) ∧ u = .bool (false && (List.range i).all fun i => leL up (valF up consts N ls i) (ls.getD i z0)) ∧ i ≤ k ∧ Below w3.heap.size w3 wr) (fun u v wr => k - natOf v)
            case atStart => exact ⟨0, rfl, by simp, by omega, Below.refl _ _⟩
            case round =>
              obtain ⟨i, rfl, rfl, hik, hbr⟩ := hrel
              have hBr := hB3.out.trans (hbr.mono hB3.out.size)
              have hsr := hbr.size
              have kr := k3.out.below hbr k3.out.lt
              clear a0 a1
              obtain ⟨a0, a1⟩ := pair_cells kr
              have hsu := all_succV i (fun i => leL up (valF up consts N ls i) (ls.getD i z0))
              by_cases hgo : i < k ∧ (false && (List.range i).all fun i => leL up (valF up consts N ls i) (ls.getD i z0)) = true
              · obtain ⟨hi, hall⟩ := hgo
                have hlt2 : ((i : Int) < (k : Int)) := by omega
                have hb0t := (Bool.and_eq_true_iff.1 hall).1
                have hLb2 := hLb.out hb0t
                rw [(Bool.and_eq_true_iff.1 hall).2, Bool.true_and] at hsu
                rw [hall]
                have hfin : ∀ b : Bool, ((List.range (i + 1)).all fun i => leL up (valF up consts N ls i) (ls.getD i z0)) = b → (false && (List.range (i + 1)).all fun i => leL up (valF up consts N ls i) (ls.getD i z0)) = b := fun b h => by rw [h, hb0t]; rfl
                replace hsu := hfin _ hsu
                obtain ⟨ad, hE, hbk, x0, x1⟩ := reads_label hk.out ((hls.out.below hBr).more hBr.size) hi
                subst hE
                change wr.cell? (ad.add (i * 2)) = some (Value.int .i64 (ls.getD i z0).lv) at x0
                change _ = some (Value.int .u64 ((ls.getD i z0).ms : Nat)) at x1
                have hV := fun (W : World) (hb : Below wr.heap.size wr W) => rvalue_any A n c up C D (some ad) k lc m mc kc consts N ls i W hn.out hM.out ((hr.out.below (hBr.trans (hb.mono hBr.size))).more (hBr.trans (hb.mono hBr.size)).size) hS.out (fun k _ => hcm.out k) hl.out (by omega) ((hc.out.below (hBr.trans (hb.mono hBr.size))).more (hBr.trans (hb.mono hBr.size)).size) ((hd.out.below (hBr.trans (hb.mono hBr.size))).more (hBr.trans (hb.mono hBr.size)).size) hLb2 (fun k _ => hlm.out k) ((hls.out.below (hBr.trans (hb.mono hBr.size))).more (hBr.trans (hb.mono hBr.size)).size) hi
                have hgv := hS.out.val_gd (l := ls) (by rw [hl.out]; exact hLb2) (i := i) (by rw [hl.out]; exact hi)
                have hmv : (valF up consts N ls i).ms < 2 ^ 64 := valTo_ms _ _ (hcm.out i) fun k hk => hlm.out k
                have hLq := fun (W : World) (hb : Below wr.heap.size wr W) => rleqL_any A n c up (valF up consts N ls i) (ls.getD i z0) W hn.out (by omega) hM.out ((hr.out.below (hBr.trans (hb.mono hBr.size))).more (hBr.trans (hb.mono hBr.size)).size) hgv (hLb2.gd i hi) hmv (hlm.out i)
                have hcell := Lib.hid (fun (W : World) (p : Addr) (v : Value) (h : Below wr.heap.size wr W) (hp : p.block < wr.heap.size) (hv : wr.cell? p = some v) => (h.cell hp).trans hv)
                have hwr := kr.lt
                have hbk2 : (ad.add (i * 2)).block < wr.heap.size := by rw [block_of_add]; exact hbk
                replace hV := Lib.hid hV
                replace hLq := Lib.hid hLq
                replace hsu := Lib.hid hsu
                replace hfin := Lib.hid hfin
                replace hbr := Lib.hid hbr
                replace hBr := Lib.hid hBr
                replace kr := Lib.hid kr
                replace hgv := Lib.hid hgv
                replace hLb2 := Lib.hid hLb2
                replace hall := Lib.hid hall
                replace hb0t := Lib.hid hb0t
                go_upto_region 11 with fail
                go_region_held3 (fun w' => w'.cell? ⟨w.heap.size, 0, none⟩ = some (.slice C k lc) ∧ w'.cell? ⟨w.heap.size, 1, none⟩ = some (.slice D m mc) ∧ w'.cell? (ad.add (i * 2)) = some (.int .i64 (ls.getD i z0).lv) ∧ w'.cell? ⟨(ad.add (i * 2)).block, (ad.add (i * 2)).off + 1, none⟩ = some (.int .u64 ((ls.getD i z0).ms : Nat)))
                    (first
                      | (refine ⟨?_, ?_, ?_, ?_⟩ <;> (refine hcell.out _ _ _ ?_ (by first | omega | (simp <;> omega)) (by assumption); (repeat (first | with_reducible exact hb5.out | with_reducible exact hb4.out | with_reducible exact Below.refl _ _ | with_reducible refine Below.drew ?_ | (with_reducible refine Below.alloc ?_ ?_ _; rotate_left; · first | omega | (simp <;> omega)) | (with_reducible refine Below.setCell ?_ ?_ _; rotate_left; · first | omega | (simp <;> omega))))))
                      | (refine ⟨?_, ?_, ?_⟩ <;> (refine hcell.out _ _ _ ?_ (by first | omega | (simp <;> omega)) (by assumption); (repeat (first | with_reducible exact hb5.out | with_reducible exact hb4.out | with_reducible exact Below.refl _ _ | with_reducible refine Below.drew ?_ | (with_reducible refine Below.alloc ?_ ?_ _; rotate_left; · first | omega | (simp <;> omega)) | (with_reducible refine Below.setCell ?_ ?_ _; rotate_left; · first | omega | (simp <;> omega))))))
                      | (refine ⟨?_, ?_⟩ <;> (refine hcell.out _ _ _ ?_ (by first | omega | (simp <;> omega)) (by assumption); (repeat (first | with_reducible exact hb5.out | with_reducible exact hb4.out | with_reducible exact Below.refl _ _ | with_reducible refine Below.drew ?_ | (with_reducible refine Below.alloc ?_ ?_ _; rotate_left; · first | omega | (simp <;> omega)) | (with_reducible refine Below.setCell ?_ ?_ _; rotate_left; · first | omega | (simp <;> omega))))))
                      | (refine hcell.out _ _ _ ?_ (by first | omega | (simp <;> omega)) (by assumption); (repeat (first | with_reducible exact hb5.out | with_reducible exact hb4.out | with_reducible exact Below.refl _ _ | with_reducible refine Below.drew ?_ | (with_reducible refine Below.alloc ?_ ?_ _; rotate_left; · first | omega | (simp <;> omega)) | (with_reducible refine Below.setCell ?_ ?_ _; rotate_left; · first | omega | (simp <;> omega)))))
                      | go_keep)
                    (first
                      | (go_at_call 17
                         refine (hV.out _ ?_).mono ?_
                         · exact (show Below wr.heap.size wr _ by (repeat (first  | with_reducible exact Below.refl _ _ | with_reducible refine Below.drew ?_ | (with_reducible refine Below.alloc ?_ ?_ _; rotate_left; · first | omega | (simp <;> omega)) | (with_reducible refine Below.setCell ?_ ?_ _; rotate_left; · first | omega | (simp <;> omega)))))
                         rintro e w4 ⟨rfl, hb4'⟩
                         have hb4 := Lib.hid (Below.trans (show Below wr.heap.size wr _ by (repeat (first  | with_reducible exact Below.refl _ _ | with_reducible refine Below.drew ?_ | (with_reducible refine Below.alloc ?_ ?_ _; rotate_left; · first | omega | (simp <;> omega)) | (with_reducible refine Below.setCell ?_ ?_ _; rotate_left; · first | omega | (simp <;> omega))))) (hb4'.mono (by first | omega | (simp <;> omega))))
                         have hs4 := hb4.out.size
                         clear hb4')
                      | (go_at_call 14
                         refine (hLq.out _ ?_).mono ?_
                         · exact (show Below wr.heap.size wr _ by (repeat (first | with_reducible exact hb4.out | with_reducible exact Below.refl _ _ | with_reducible refine Below.drew ?_ | (with_reducible refine Below.alloc ?_ ?_ _; rotate_left; · first | omega | (simp <;> omega)) | (with_reducible refine Below.setCell ?_ ?_ _; rotate_left; · first | omega | (simp <;> omega)))))
                         rintro e w5 ⟨rfl, hb5'⟩
                         have hb5 := Lib.hid (Below.trans (show Below wr.heap.size wr _ by (repeat (first | with_reducible exact hb4.out | with_reducible exact Below.refl _ _ | with_reducible refine Below.drew ?_ | (with_reducible refine Below.alloc ?_ ?_ _; rotate_left; · first | omega | (simp <;> omega)) | (with_reducible refine Below.setCell ?_ ?_ _; rotate_left; · first | omega | (simp <;> omega))))) (hb5'.mono (by first | omega | (simp <;> omega))))
                         clear hb5')
                      | fail)
                all_goals (
                  have hfb := Lib.hid (hbr.out.trans (hb5.out.mono hsr))
                  go_wp2
                  go_roundw
                  case rel => exact ⟨i + 1, by go_num, by rw [hsu.out]; first | rfl | simp, by omega, hfb.out⟩
                  case measure => simp [natOf]; omega)
              · have hallk : (false && (List.range i).all fun i => leL up (valF up consts N ls i) (ls.getD i z0)) = (false && (List.range k).all fun i => leL up (valF up consts N ls i) (ls.getD i z0)) := by
                  by_cases hi : i < k
                  · have hfl : (false && (List.range i).all fun i => leL up (valF up consts N ls i) (ls.getD i z0)) = false := by
                      cases h : (false && (List.range i).all fun i => leL up (valF up consts N ls i) (ls.getD i z0)) with
                      | false => rfl
                      | true => exact absurd ⟨hi, h⟩ hgo
                    rw [hfl]
                    symm
                    rw [Bool.and_eq_false_iff] at hfl ⊢
                    rcases hfl with h | h
                    · exact .inl h
                    · refine .inr ?_
                      rw [List.all_eq_false] at h ⊢
                      obtain ⟨j, hj, hp⟩ := h
                      exact ⟨j, List.mem_range.2 (by have := List.mem_range.1 hj; omega), hp⟩
                  · have : i = k := by omega
                    rw [this]
                have hcond2 : (i < k ∧ (false && (List.range k).all fun i => leL up (valF up consts N ls i) (ls.getD i z0)) = false) ∨ ¬ ((i : Int) < (k : Int)) := by
                  by_cases hi : i < k
                  · refine .inl ⟨hi, ?_⟩
                    rw [← hallk]
                    cases h : (false && (List.range i).all fun i => leL up (valF up consts N ls i) (ls.getD i z0)) with
                    | false => rfl
                    | true => exact absurd ⟨hi, h⟩ hgo
                  · exact .inr (by omega)
                rw [hallk]
                have hBo : ∀ (W : World) (A1 : Option Addr) (c1 : Nat) (A2 : Option Addr) (c2 : Nat) (A3 : Option Addr) (c3 : Nat) (A4 : Option Addr) (c4 : Nat) (hb : Below w.heap.size w W) (q1 : Reads W W.heap.size 1 A1 n (u64s up)) (q2 : Reads W W.heap.size 2 A2 k (lbVals consts)) (q3 : NRows W W.heap.size A3 m (N.map casts)) (q4 : Reads W W.heap.size 2 A4 k (lbVals ls)),
                    Calls Tryd.prog 18 #[.slice A1 n c1, .agg #[.slice A2 k c2, .slice A3 m c3], .slice A4 k c4] W fun e w' => e = .returned (.bool (false && (List.range k).all fun i => leL up (valF up consts N ls i) (ls.getD i z0))) ∧ Below W.heap.size W w' := by
                  intro W A1 c1 A2 c2 A3 c3 A4 c4 hb q1 q2 q3 q4
                  have h := hBo0.out W A1 c1 A2 c2 A3 c3 A4 c4 hb q1 q2 q3 q4
                  rw [he.out] at h
                  exact h
                generalize (false && (List.range k).all fun i => leL up (valF up consts N ls i) (ls.getD i z0)) = bb at *
                obtain ⟨Y, hbW, rfl⟩ : ∃ Z, Below w3.heap.size w3 Z ∧ Z = wr := ⟨_, hbr, rfl⟩
                have hBY := Lib.hid hBr
                have hwY := kr.lt
                have hrY := Lib.hid ((hr.out.below hBY.out).more hBY.out.size)
                have hlsY := Lib.hid ((hls.out.below hBY.out).more hBY.out.size)
                have hcell := Lib.hid (fun (W : World) (p : Addr) (v : Value) (h : Below Y.heap.size Y W) (hp : p.block < Y.heap.size) (hv : Y.cell? p = some v) => (h.cell hp).trans hv)
                have kY := Lib.hid kr
                replace hBo := Lib.hid hBo
                replace hallk := Lib.hid hallk
                replace hsu := Lib.hid hsu
                replace hgo := Lib.hid hgo
                clear hbW hbr hBr kr
                rcases hcond2 with ⟨hi2, hbf2⟩ | hlt2
                · have hlt2 : ((i : Int) < (k : Int)) := by omega
                  subst hbf2
                  go_upto_region 12 with fail
                  go_region_held3 (fun w' => w'.cell? ⟨w.heap.size, 0, none⟩ = some (.slice C k lc) ∧ w'.cell? ⟨w.heap.size, 1, none⟩ = some (.slice D m mc))
                    (first
                        | (refine ⟨?_, ?_, ?_, ?_⟩ <;> (refine hcell.out _ _ _ ?_ (by first | omega | (simp <;> omega)) (by assumption); (repeat (first | with_reducible exact hb5.out | with_reducible exact hb4.out | with_reducible exact hb3.out | with_reducible exact hb2.out | with_reducible exact hb1.out | with_reducible exact Below.refl _ _ | with_reducible refine Below.drew ?_ | (with_reducible refine Below.alloc ?_ ?_ _; rotate_left; · first | omega | (simp <;> omega)) | (with_reducible refine Below.setCell ?_ ?_ _; rotate_left; · first | omega | (simp <;> omega))))))
                        | (refine ⟨?_, ?_⟩ <;> (refine hcell.out _ _ _ ?_ (by first | omega | (simp <;> omega)) (by assumption); (repeat (first | with_reducible exact hb5.out | with_reducible exact hb4.out | with_reducible exact hb3.out | with_reducible exact hb2.out | with_reducible exact hb1.out | with_reducible exact Below.refl _ _ | with_reducible refine Below.drew ?_ | (with_reducible refine Below.alloc ?_ ?_ _; rotate_left; · first | omega | (simp <;> omega)) | (with_reducible refine Below.setCell ?_ ?_ _; rotate_left; · first | omega | (simp <;> omega))))))
                        | (refine hcell.out _ _ _ ?_ (by first | omega | (simp <;> omega)) (by assumption); (repeat (first | with_reducible exact hb5.out | with_reducible exact hb4.out | with_reducible exact hb3.out | with_reducible exact hb2.out | with_reducible exact hb1.out | with_reducible exact Below.refl _ _ | with_reducible refine Below.drew ?_ | (with_reducible refine Below.alloc ?_ ?_ _; rotate_left; · first | omega | (simp <;> omega)) | (with_reducible refine Below.setCell ?_ ?_ _; rotate_left; · first | omega | (simp <;> omega)))))
                        | go_keep)
                    (first
                      | (refine step_append_any _ (by rfl) _ _ _ (by rfl) Y.heap.size 27 i0 _ 1 8 Tryd.underlying22 hi0 hz0 hz1 hz2 rfl (by decide) (.slice (some ⟨_, 0, none⟩) 0 0) 0 [] (by rfl) (own_emptyV (base := Y.heap.size) (g := _) (by ((repeat (first | exact Blk.new_at _ _ _ _ (by first | rfl | (simp <;> omega)) | with_reducible refine Blk.drew ?_ | with_reducible refine Blk.alloc ?_ _)); done)) (by first | omega | (simp <;> omega))) Y.heap.size A n c (u64s up) (by rfl) (by (repeat (first | with_reducible exact hrY.out | with_reducible refine Reads.drew ?_ | (with_reducible refine Reads.alloc ?_ ?_ _; rotate_left; · first | omega | (simp <;> omega))))) h1.out (by first | omega | (simp <;> omega)) (by first | omega | (simp <;> omega)) (by first | omega | (simp <;> omega)) ?_
                         intro v1 w1 hown1 hg1 hat1
                         rw [Nat.zero_add, List.nil_append] at hown1
                         obtain ⟨A1, c1, rfl⟩ := ownsRow_slice hown1
                         have hb1 := Lib.hid ((show Below Y.heap.size Y _ by (repeat (first  | with_reducible exact Below.refl _ _ | with_reducible refine Below.drew ?_ | (with_reducible refine Below.alloc ?_ ?_ _; rotate_left; · first | omega | (simp <;> omega)) | (with_reducible refine Below.setCell ?_ ?_ _; rotate_left; · first | omega | (simp <;> omega))))).grown hg1 (by first | omega | (simp <;> omega)) (fun j hj => by simp [Value.ownBlock] at hj; omega))
                         have hrA := Lib.hid (Reads.of_own hown1)
                         have hs1 := hb1.out.size
                         first
                           | have kL := Blk.grown (Blk.drew (Blk.new_at _ 29 #[] (Y.heap.size + 1) (by simp))) hg1 (by simp [Value.ownBlock])
                           | have kL := Blk.grown (Blk.drew (Blk.alloc (Blk.new_at _ 29 #[] Y.heap.size rfl) _)) hg1 (by simp [Value.ownBlock])
                           | skip
                         clear hown1 hg1 hat1)
                      | (go_at_call 12
                         refine (hCop.out _ ?_).mono ?_
                         · exact hBY.out.trans ((show Below Y.heap.size Y _ by (repeat (first | with_reducible exact hb1.out | with_reducible exact Below.refl _ _ | with_reducible refine Below.drew ?_ | (with_reducible refine Below.alloc ?_ ?_ _; rotate_left; · first | omega | (simp <;> omega)) | (with_reducible refine Below.setCell ?_ ?_ _; rotate_left; · first | omega | (simp <;> omega))))).mono hBY.out.size)
                         rintro e w2 ⟨A2, c2, A3, c3, row, rfl, hO2, hR2, hb2'⟩
                         have hb2 := Lib.hid (Below.trans (show Below Y.heap.size Y _ by (repeat (first | with_reducible exact hb1.out | with_reducible exact Below.refl _ _ | with_reducible refine Below.drew ?_ | (with_reducible refine Below.alloc ?_ ?_ _; rotate_left; · first | omega | (simp <;> omega)) | (with_reducible refine Below.setCell ?_ ?_ _; rotate_left; · first | omega | (simp <;> omega))))) (hb2'.mono (by first | omega | (simp <;> omega))))
                         have hrA2 : RowKit.Hid (Reads w2 w2.heap.size 1 A1 n (u64s up)) := by
                           refine Lib.hid ?_
                           first
                             | exact (hrA.out.below hb2').more hb2'.size
                             | exact ((hrA.out.alloc (Nat.le_refl _) _).below (hb2'.mono (by simp))).more (by have := hb2'.size; simp at this; omega)
                         have hc2 := Lib.hid (Reads.of_own hO2)
                         have hd2 := Lib.hid (hR2.nrows hlenm.out)
                         have hs2 := hb2.out.size
                         first
                           | have kM := Blk.below kL hb2' kL.lt
                           | have kM := Blk.below (Blk.new_at _ 29 #[] w1.heap.size rfl) hb2' (by simp)
                           | skip
                         clear hO2 hR2 hb2')
                      | (refine step_append_any _ (by rfl) _ _ _ (by rfl) Y.heap.size 29 j0 _ 2 16 Tryd.underlying23 hj0 hy0 hy1 hy2 rfl (by decide) (.slice (some ⟨_, 0, none⟩) 0 0) 0 [] (by rfl) (own_emptyV (base := Y.heap.size) (g := _) (by first | exact kM | ((repeat (first | exact Blk.new_at _ _ _ _ (by first | rfl | (simp <;> omega)) | with_reducible refine Blk.drew ?_ | with_reducible refine Blk.alloc ?_ _)); done)) (by first | omega | (simp <;> omega))) Y.heap.size E k kc (lbVals ls) (by rfl) (by (repeat (first | with_reducible exact (hlsY.out.below hb2.out) | with_reducible refine Reads.drew ?_ | (with_reducible refine Reads.alloc ?_ ?_ _; rotate_left; · first | omega | (simp <;> omega))))) h2l.out (by first | omega | (simp <;> omega)) (by first | omega | (simp <;> omega)) (by first | omega | (simp <;> omega)) ?_
                         intro v3 w3 hown3 hg3 hat3
                         rw [Nat.zero_add, List.nil_append] at hown3
                         obtain ⟨A4, c4, rfl⟩ := ownsRow_slice hown3
                         have hb3 := Lib.hid ((show Below Y.heap.size Y _ by (repeat (first | with_reducible exact hb2.out | with_reducible exact Below.refl _ _ | with_reducible refine Below.drew ?_ | (with_reducible refine Below.alloc ?_ ?_ _; rotate_left; · first | omega | (simp <;> omega)) | (with_reducible refine Below.setCell ?_ ?_ _; rotate_left; · first | omega | (simp <;> omega))))).grown hg3 (by first | omega | (simp <;> omega)) (fun j hj => by simp [Value.ownBlock] at hj; omega))
                         have hs3 := hg3.size
                         have hr3 : RowKit.Hid (Reads w3 w3.heap.size 1 A1 n (u64s up) ∧ Reads w3 w3.heap.size 2 A2 k (lbVals consts) ∧ NRows w3 w3.heap.size A3 m (N.map casts)) := by
                           refine Lib.hid ?_
                           first
                             | exact ⟨(reads_empty hrA2.out kM hg3 (by decide)).more hs3, (reads_empty hc2.out kM hg3 (by decide)).more hs3, (rows_empty hd2.out kM hg3).more hs3⟩
                             | (simp at hs3
                                exact ⟨(reads_empty (hrA2.out.alloc (Nat.le_refl _) _) (Blk.new_at _ 29 #[] _ rfl) hg3 (by decide)).more (by omega), (reads_empty (hc2.out.alloc (Nat.le_refl _) _) (Blk.new_at _ 29 #[] _ rfl) hg3 (by decide)).more (by omega), (rows_empty (hd2.out.below (Below.alloc (Below.refl _ _) (Nat.le_refl _) _)) (Blk.new_at _ 29 #[] _ rfl) hg3).more (by omega)⟩)
                         have hr4 := Lib.hid (Reads.of_own hown3)
                         have hs3' := hb3.out.size
                         clear hown3 hg3 hat3 hs3)
                      | (go_at_call 18
                         refine (hBo.out _ A1 c1 A2 c2 A3 c3 A4 c4 ?_ ?_ ?_ ?_ ?_).mono ?_
                         · exact hBY.out.trans ((show Below Y.heap.size Y _ by (repeat (first | with_reducible exact hb3.out | with_reducible exact Below.refl _ _ | with_reducible refine Below.drew ?_ | (with_reducible refine Below.alloc ?_ ?_ _; rotate_left; · first | omega | (simp <;> omega)) | (with_reducible refine Below.setCell ?_ ?_ _; rotate_left; · first | omega | (simp <;> omega))))).mono hBY.out.size)
                         · exact hr3.out.1
                         · exact hr3.out.2.1
                         · exact hr3.out.2.2
                         · exact hr4.out
                         rintro e w4 ⟨rfl, hb4'⟩
                         have hb4 := Lib.hid (Below.trans (show Below Y.heap.size Y _ by (repeat (first | with_reducible exact hb3.out | with_reducible exact Below.refl _ _ | with_reducible refine Below.drew ?_ | (with_reducible refine Below.alloc ?_ ?_ _; rotate_left; · first | omega | (simp <;> omega)) | (with_reducible refine Below.setCell ?_ ?_ _; rotate_left; · first | omega | (simp <;> omega))))) (hb4'.mono (by first | omega | (simp <;> omega))))
                         have hs4 := hb4.out.size
                         clear hb4')
                      | (go_at_call 11
                         refine (hAw.out _ ?_).mono ?_
                         · exact hBY.out.trans ((show Below Y.heap.size Y _ by (repeat (first | with_reducible exact hb4.out | with_reducible exact Below.refl _ _ | with_reducible refine Below.drew ?_ | (with_reducible refine Below.alloc ?_ ?_ _; rotate_left; · first | omega | (simp <;> omega)) | (with_reducible refine Below.setCell ?_ ?_ _; rotate_left; · first | omega | (simp <;> omega))))).mono hBY.out.size)
                         rintro e w5 ⟨rfl, hb5'⟩
                         have hb5 := Lib.hid (Below.trans (show Below Y.heap.size Y _ by (repeat (first | with_reducible exact hb4.out | with_reducible exact Below.refl _ _ | with_reducible refine Below.drew ?_ | (with_reducible refine Below.alloc ?_ ?_ _; rotate_left; · first | omega | (simp <;> omega)) | (with_reducible refine Below.setCell ?_ ?_ _; rotate_left; · first | omega | (simp <;> omega))))) (hb5'.mono (by first | omega | (simp <;> omega))))
                         clear hb5')
                      | fail)
                  all_goals (
                    go_wp2
                    go_ret
                    exact ⟨by simp, hBY.out.trans (hb5.out.mono hBY.out.size)⟩)
                · go_upto_region 12 with fail
                  go_region_held3 (fun w' => w'.cell? ⟨w.heap.size, 0, none⟩ = some (.slice C k lc) ∧ w'.cell? ⟨w.heap.size, 1, none⟩ = some (.slice D m mc))
                    (first
                        | (refine ⟨?_, ?_, ?_, ?_⟩ <;> (refine hcell.out _ _ _ ?_ (by first | omega | (simp <;> omega)) (by assumption); (repeat (first | with_reducible exact hb5.out | with_reducible exact hb4.out | with_reducible exact hb3.out | with_reducible exact hb2.out | with_reducible exact hb1.out | with_reducible exact Below.refl _ _ | with_reducible refine Below.drew ?_ | (with_reducible refine Below.alloc ?_ ?_ _; rotate_left; · first | omega | (simp <;> omega)) | (with_reducible refine Below.setCell ?_ ?_ _; rotate_left; · first | omega | (simp <;> omega))))))
                        | (refine ⟨?_, ?_⟩ <;> (refine hcell.out _ _ _ ?_ (by first | omega | (simp <;> omega)) (by assumption); (repeat (first | with_reducible exact hb5.out | with_reducible exact hb4.out | with_reducible exact hb3.out | with_reducible exact hb2.out | with_reducible exact hb1.out | with_reducible exact Below.refl _ _ | with_reducible refine Below.drew ?_ | (with_reducible refine Below.alloc ?_ ?_ _; rotate_left; · first | omega | (simp <;> omega)) | (with_reducible refine Below.setCell ?_ ?_ _; rotate_left; · first | omega | (simp <;> omega))))))
                        | (refine hcell.out _ _ _ ?_ (by first | omega | (simp <;> omega)) (by assumption); (repeat (first | with_reducible exact hb5.out | with_reducible exact hb4.out | with_reducible exact hb3.out | with_reducible exact hb2.out | with_reducible exact hb1.out | with_reducible exact Below.refl _ _ | with_reducible refine Below.drew ?_ | (with_reducible refine Below.alloc ?_ ?_ _; rotate_left; · first | omega | (simp <;> omega)) | (with_reducible refine Below.setCell ?_ ?_ _; rotate_left; · first | omega | (simp <;> omega)))))
                        | go_keep)
                    (first
                      | (refine step_append_any _ (by rfl) _ _ _ (by rfl) Y.heap.size 27 i0 _ 1 8 Tryd.underlying22 hi0 hz0 hz1 hz2 rfl (by decide) (.slice (some ⟨_, 0, none⟩) 0 0) 0 [] (by rfl) (own_emptyV (base := Y.heap.size) (g := _) (by ((repeat (first | exact Blk.new_at _ _ _ _ (by first | rfl | (simp <;> omega)) | with_reducible refine Blk.drew ?_ | with_reducible refine Blk.alloc ?_ _)); done)) (by first | omega | (simp <;> omega))) Y.heap.size A n c (u64s up) (by rfl) (by (repeat (first | with_reducible exact hrY.out | with_reducible refine Reads.drew ?_ | (with_reducible refine Reads.alloc ?_ ?_ _; rotate_left; · first | omega | (simp <;> omega))))) h1.out (by first | omega | (simp <;> omega)) (by first | omega | (simp <;> omega)) (by first | omega | (simp <;> omega)) ?_
                         intro v1 w1 hown1 hg1 hat1
                         rw [Nat.zero_add, List.nil_append] at hown1
                         obtain ⟨A1, c1, rfl⟩ := ownsRow_slice hown1
                         have hb1 := Lib.hid ((show Below Y.heap.size Y _ by (repeat (first  | with_reducible exact Below.refl _ _ | with_reducible refine Below.drew ?_ | (with_reducible refine Below.alloc ?_ ?_ _; rotate_left; · first | omega | (simp <;> omega)) | (with_reducible refine Below.setCell ?_ ?_ _; rotate_left; · first | omega | (simp <;> omega))))).grown hg1 (by first | omega | (simp <;> omega)) (fun j hj => by simp [Value.ownBlock] at hj; omega))
                         have hrA := Lib.hid (Reads.of_own hown1)
                         have hs1 := hb1.out.size
                         first
                           | have kL := Blk.grown (Blk.drew (Blk.new_at _ 29 #[] (Y.heap.size + 1) (by simp))) hg1 (by simp [Value.ownBlock])
                           | have kL := Blk.grown (Blk.drew (Blk.alloc (Blk.new_at _ 29 #[] Y.heap.size rfl) _)) hg1 (by simp [Value.ownBlock])
                           | skip
                         clear hown1 hg1 hat1)
                      | (go_at_call 12
                         refine (hCop.out _ ?_).mono ?_
                         · exact hBY.out.trans ((show Below Y.heap.size Y _ by (repeat (first | with_reducible exact hb1.out | with_reducible exact Below.refl _ _ | with_reducible refine Below.drew ?_ | (with_reducible refine Below.alloc ?_ ?_ _; rotate_left; · first | omega | (simp <;> omega)) | (with_reducible refine Below.setCell ?_ ?_ _; rotate_left; · first | omega | (simp <;> omega))))).mono hBY.out.size)
                         rintro e w2 ⟨A2, c2, A3, c3, row, rfl, hO2, hR2, hb2'⟩
                         have hb2 := Lib.hid (Below.trans (show Below Y.heap.size Y _ by (repeat (first | with_reducible exact hb1.out | with_reducible exact Below.refl _ _ | with_reducible refine Below.drew ?_ | (with_reducible refine Below.alloc ?_ ?_ _; rotate_left; · first | omega | (simp <;> omega)) | (with_reducible refine Below.setCell ?_ ?_ _; rotate_left; · first | omega | (simp <;> omega))))) (hb2'.mono (by first | omega | (simp <;> omega))))
                         have hrA2 : RowKit.Hid (Reads w2 w2.heap.size 1 A1 n (u64s up)) := by
                           refine Lib.hid ?_
                           first
                             | exact (hrA.out.below hb2').more hb2'.size
                             | exact ((hrA.out.alloc (Nat.le_refl _) _).below (hb2'.mono (by simp))).more (by have := hb2'.size; simp at this; omega)
                         have hc2 := Lib.hid (Reads.of_own hO2)
                         have hd2 := Lib.hid (hR2.nrows hlenm.out)
                         have hs2 := hb2.out.size
                         first
                           | have kM := Blk.below kL hb2' kL.lt
                           | have kM := Blk.below (Blk.new_at _ 29 #[] w1.heap.size rfl) hb2' (by simp)
                           | skip
                         clear hO2 hR2 hb2')
                      | (refine step_append_any _ (by rfl) _ _ _ (by rfl) Y.heap.size 29 j0 _ 2 16 Tryd.underlying23 hj0 hy0 hy1 hy2 rfl (by decide) (.slice (some ⟨_, 0, none⟩) 0 0) 0 [] (by rfl) (own_emptyV (base := Y.heap.size) (g := _) (by first | exact kM | ((repeat (first | exact Blk.new_at _ _ _ _ (by first | rfl | (simp <;> omega)) | with_reducible refine Blk.drew ?_ | with_reducible refine Blk.alloc ?_ _)); done)) (by first | omega | (simp <;> omega))) Y.heap.size E k kc (lbVals ls) (by rfl) (by (repeat (first | with_reducible exact (hlsY.out.below hb2.out) | with_reducible refine Reads.drew ?_ | (with_reducible refine Reads.alloc ?_ ?_ _; rotate_left; · first | omega | (simp <;> omega))))) h2l.out (by first | omega | (simp <;> omega)) (by first | omega | (simp <;> omega)) (by first | omega | (simp <;> omega)) ?_
                         intro v3 w3 hown3 hg3 hat3
                         rw [Nat.zero_add, List.nil_append] at hown3
                         obtain ⟨A4, c4, rfl⟩ := ownsRow_slice hown3
                         have hb3 := Lib.hid ((show Below Y.heap.size Y _ by (repeat (first | with_reducible exact hb2.out | with_reducible exact Below.refl _ _ | with_reducible refine Below.drew ?_ | (with_reducible refine Below.alloc ?_ ?_ _; rotate_left; · first | omega | (simp <;> omega)) | (with_reducible refine Below.setCell ?_ ?_ _; rotate_left; · first | omega | (simp <;> omega))))).grown hg3 (by first | omega | (simp <;> omega)) (fun j hj => by simp [Value.ownBlock] at hj; omega))
                         have hs3 := hg3.size
                         have hr3 : RowKit.Hid (Reads w3 w3.heap.size 1 A1 n (u64s up) ∧ Reads w3 w3.heap.size 2 A2 k (lbVals consts) ∧ NRows w3 w3.heap.size A3 m (N.map casts)) := by
                           refine Lib.hid ?_
                           first
                             | exact ⟨(reads_empty hrA2.out kM hg3 (by decide)).more hs3, (reads_empty hc2.out kM hg3 (by decide)).more hs3, (rows_empty hd2.out kM hg3).more hs3⟩
                             | (simp at hs3
                                exact ⟨(reads_empty (hrA2.out.alloc (Nat.le_refl _) _) (Blk.new_at _ 29 #[] _ rfl) hg3 (by decide)).more (by omega), (reads_empty (hc2.out.alloc (Nat.le_refl _) _) (Blk.new_at _ 29 #[] _ rfl) hg3 (by decide)).more (by omega), (rows_empty (hd2.out.below (Below.alloc (Below.refl _ _) (Nat.le_refl _) _)) (Blk.new_at _ 29 #[] _ rfl) hg3).more (by omega)⟩)
                         have hr4 := Lib.hid (Reads.of_own hown3)
                         have hs3' := hb3.out.size
                         clear hown3 hg3 hat3 hs3)
                      | (go_at_call 18
                         refine (hBo.out _ A1 c1 A2 c2 A3 c3 A4 c4 ?_ ?_ ?_ ?_ ?_).mono ?_
                         · exact hBY.out.trans ((show Below Y.heap.size Y _ by (repeat (first | with_reducible exact hb3.out | with_reducible exact Below.refl _ _ | with_reducible refine Below.drew ?_ | (with_reducible refine Below.alloc ?_ ?_ _; rotate_left; · first | omega | (simp <;> omega)) | (with_reducible refine Below.setCell ?_ ?_ _; rotate_left; · first | omega | (simp <;> omega))))).mono hBY.out.size)
                         · exact hr3.out.1
                         · exact hr3.out.2.1
                         · exact hr3.out.2.2
                         · exact hr4.out
                         rintro e w4 ⟨rfl, hb4'⟩
                         have hb4 := Lib.hid (Below.trans (show Below Y.heap.size Y _ by (repeat (first | with_reducible exact hb3.out | with_reducible exact Below.refl _ _ | with_reducible refine Below.drew ?_ | (with_reducible refine Below.alloc ?_ ?_ _; rotate_left; · first | omega | (simp <;> omega)) | (with_reducible refine Below.setCell ?_ ?_ _; rotate_left; · first | omega | (simp <;> omega))))) (hb4'.mono (by first | omega | (simp <;> omega))))
                         have hs4 := hb4.out.size
                         clear hb4')
                      | (go_at_call 11
                         refine (hAw.out _ ?_).mono ?_
                         · exact hBY.out.trans ((show Below Y.heap.size Y _ by (repeat (first | with_reducible exact hb4.out | with_reducible exact Below.refl _ _ | with_reducible refine Below.drew ?_ | (with_reducible refine Below.alloc ?_ ?_ _; rotate_left; · first | omega | (simp <;> omega)) | (with_reducible refine Below.setCell ?_ ?_ _; rotate_left; · first | omega | (simp <;> omega))))).mono hBY.out.size)
                         rintro e w5 ⟨rfl, hb5'⟩
                         have hb5 := Lib.hid (Below.trans (show Below Y.heap.size Y _ by (repeat (first | with_reducible exact hb4.out | with_reducible exact Below.refl _ _ | with_reducible refine Below.drew ?_ | (with_reducible refine Below.alloc ?_ ?_ _; rotate_left; · first | omega | (simp <;> omega)) | (with_reducible refine Below.setCell ?_ ?_ _; rotate_left; · first | omega | (simp <;> omega))))) (hb5'.mono (by first | omega | (simp <;> omega))))
                         clear hb5')
                      | fail)
                  all_goals (
                    go_wp2
                    go_ret
                    exact ⟨by simp, hBY.out.trans (hb5.out.mono hBY.out.size)⟩)
          · go_wp2
            go_loopw [7, 9] (fun u v wr => ∃ i : Nat, v = .int .i64 (i : Nat) ∧ u = .bool (b0 && (List.range i).all fun i => leL up (valF up consts N ls i) (ls.getD i z0)) ∧ i ≤ k ∧ Below w3.heap.size w3 wr) (fun u v wr => k - natOf v)
            case atStart => exact ⟨0, rfl, by simp, by omega, Below.refl _ _⟩
            case round =>
              obtain ⟨i, rfl, rfl, hik, hbr⟩ := hrel
              have hBr := hB3.out.trans (hbr.mono hB3.out.size)
              have hsr := hbr.size
              have kr := k3.out.below hbr k3.out.lt
              clear a0 a1
              obtain ⟨a0, a1⟩ := pair_cells kr
              have hsu := all_succV i (fun i => leL up (valF up consts N ls i) (ls.getD i z0))
              by_cases hgo : i < k ∧ (b0 && (List.range i).all fun i => leL up (valF up consts N ls i) (ls.getD i z0)) = true
              · obtain ⟨hi, hall⟩ := hgo
                have hlt2 : ((i : Int) < (k : Int)) := by omega
                have hb0t := (Bool.and_eq_true_iff.1 hall).1
                have hLb2 := hLb.out hb0t
                rw [(Bool.and_eq_true_iff.1 hall).2, Bool.true_and] at hsu
                rw [hall]
                have hfin : ∀ b : Bool, ((List.range (i + 1)).all fun i => leL up (valF up consts N ls i) (ls.getD i z0)) = b → (b0 && (List.range (i + 1)).all fun i => leL up (valF up consts N ls i) (ls.getD i z0)) = b := fun b h => by rw [h, hb0t]; rfl
                replace hsu := hfin _ hsu
                obtain ⟨ad, hE, hbk, x0, x1⟩ := reads_label hk.out ((hls.out.below hBr).more hBr.size) hi
                subst hE
                change wr.cell? (ad.add (i * 2)) = some (Value.int .i64 (ls.getD i z0).lv) at x0
                change _ = some (Value.int .u64 ((ls.getD i z0).ms : Nat)) at x1
                have hV := fun (W : World) (hb : Below wr.heap.size wr W) => rvalue_any A n c up C D (some ad) k lc m mc kc consts N ls i W hn.out hM.out ((hr.out.below (hBr.trans (hb.mono hBr.size))).more (hBr.trans (hb.mono hBr.size)).size) hS.out (fun k _ => hcm.out k) hl.out (by omega) ((hc.out.below (hBr.trans (hb.mono hBr.size))).more (hBr.trans (hb.mono hBr.size)).size) ((hd.out.below (hBr.trans (hb.mono hBr.size))).more (hBr.trans (hb.mono hBr.size)).size) hLb2 (fun k _ => hlm.out k) ((hls.out.below (hBr.trans (hb.mono hBr.size))).more (hBr.trans (hb.mono hBr.size)).size) hi
                have hgv := hS.out.val_gd (l := ls) (by rw [hl.out]; exact hLb2) (i := i) (by rw [hl.out]; exact hi)
                have hmv : (valF up consts N ls i).ms < 2 ^ 64 := valTo_ms _ _ (hcm.out i) fun k hk => hlm.out k
                have hLq := fun (W : World) (hb : Below wr.heap.size wr W) => rleqL_any A n c up (valF up consts N ls i) (ls.getD i z0) W hn.out (by omega) hM.out ((hr.out.below (hBr.trans (hb.mono hBr.size))).more (hBr.trans (hb.mono hBr.size)).size) hgv (hLb2.gd i hi) hmv (hlm.out i)
                have hcell := Lib.hid (fun (W : World) (p : Addr) (v : Value) (h : Below wr.heap.size wr W) (hp : p.block < wr.heap.size) (hv : wr.cell? p = some v) => (h.cell hp).trans hv)
                have hwr := kr.lt
                have hbk2 : (ad.add (i * 2)).block < wr.heap.size := by rw [block_of_add]; exact hbk
                replace hV := Lib.hid hV
                replace hLq := Lib.hid hLq
                replace hsu := Lib.hid hsu
                replace hfin := Lib.hid hfin
                replace hbr := Lib.hid hbr
                replace hBr := Lib.hid hBr
                replace kr := Lib.hid kr
                replace hgv := Lib.hid hgv
                replace hLb2 := Lib.hid hLb2
                replace hall := Lib.hid hall
                replace hb0t := Lib.hid hb0t
                go_upto_region 11 with fail
                go_region_held3 (fun w' => w'.cell? ⟨w.heap.size, 0, none⟩ = some (.slice C k lc) ∧ w'.cell? ⟨w.heap.size, 1, none⟩ = some (.slice D m mc) ∧ w'.cell? (ad.add (i * 2)) = some (.int .i64 (ls.getD i z0).lv) ∧ w'.cell? ⟨(ad.add (i * 2)).block, (ad.add (i * 2)).off + 1, none⟩ = some (.int .u64 ((ls.getD i z0).ms : Nat)))
                    (first
                      | (refine ⟨?_, ?_, ?_, ?_⟩ <;> (refine hcell.out _ _ _ ?_ (by first | omega | (simp <;> omega)) (by assumption); (repeat (first | with_reducible exact hb5.out | with_reducible exact hb4.out | with_reducible exact Below.refl _ _ | with_reducible refine Below.drew ?_ | (with_reducible refine Below.alloc ?_ ?_ _; rotate_left; · first | omega | (simp <;> omega)) | (with_reducible refine Below.setCell ?_ ?_ _; rotate_left; · first | omega | (simp <;> omega))))))
                      | (refine ⟨?_, ?_, ?_⟩ <;> (refine hcell.out _ _ _ ?_ (by first | omega | (simp <;> omega)) (by assumption); (repeat (first | with_reducible exact hb5.out | with_reducible exact hb4.out | with_reducible exact Below.refl _ _ | with_reducible refine Below.drew ?_ | (with_reducible refine Below.alloc ?_ ?_ _; rotate_left; · first | omega | (simp <;> omega)) | (with_reducible refine Below.setCell ?_ ?_ _; rotate_left; · first | omega | (simp <;> omega))))))
                      | (refine ⟨?_, ?_⟩ <;> (refine hcell.out _ _ _ ?_ (by first | omega | (simp <;> omega)) (by assumption); (repeat (first | with_reducible exact hb5.out | with_reducible exact hb4.out | with_reducible exact Below.refl _ _ | with_reducible refine Below.drew ?_ | (with_reducible refine Below.alloc ?_ ?_ _; rotate_left; · first | omega | (simp <;> omega)) | (with_reducible refine Below.setCell ?_ ?_ _; rotate_left; · first | omega | (simp <;> omega))))))
                      | (refine hcell.out _ _ _ ?_ (by first | omega | (simp <;> omega)) (by assumption); (repeat (first | with_reducible exact hb5.out | with_reducible exact hb4.out | with_reducible exact Below.refl _ _ | with_reducible refine Below.drew ?_ | (with_reducible refine Below.alloc ?_ ?_ _; rotate_left; · first | omega | (simp <;> omega)) | (with_reducible refine Below.setCell ?_ ?_ _; rotate_left; · first | omega | (simp <;> omega)))))
                      | go_keep)
                    (first
                      | (go_at_call 17
                         refine (hV.out _ ?_).mono ?_
                         · exact (show Below wr.heap.size wr _ by (repeat (first  | with_reducible exact Below.refl _ _ | with_reducible refine Below.drew ?_ | (with_reducible refine Below.alloc ?_ ?_ _; rotate_left; · first | omega | (simp <;> omega)) | (with_reducible refine Below.setCell ?_ ?_ _; rotate_left; · first | omega | (simp <;> omega)))))
                         rintro e w4 ⟨rfl, hb4'⟩
                         have hb4 := Lib.hid (Below.trans (show Below wr.heap.size wr _ by (repeat (first  | with_reducible exact Below.refl _ _ | with_reducible refine Below.drew ?_ | (with_reducible refine Below.alloc ?_ ?_ _; rotate_left; · first | omega | (simp <;> omega)) | (with_reducible refine Below.setCell ?_ ?_ _; rotate_left; · first | omega | (simp <;> omega))))) (hb4'.mono (by first | omega | (simp <;> omega))))
                         have hs4 := hb4.out.size
                         clear hb4')
                      | (go_at_call 14
                         refine (hLq.out _ ?_).mono ?_
                         · exact (show Below wr.heap.size wr _ by (repeat (first | with_reducible exact hb4.out | with_reducible exact Below.refl _ _ | with_reducible refine Below.drew ?_ | (with_reducible refine Below.alloc ?_ ?_ _; rotate_left; · first | omega | (simp <;> omega)) | (with_reducible refine Below.setCell ?_ ?_ _; rotate_left; · first | omega | (simp <;> omega)))))
                         rintro e w5 ⟨rfl, hb5'⟩
                         have hb5 := Lib.hid (Below.trans (show Below wr.heap.size wr _ by (repeat (first | with_reducible exact hb4.out | with_reducible exact Below.refl _ _ | with_reducible refine Below.drew ?_ | (with_reducible refine Below.alloc ?_ ?_ _; rotate_left; · first | omega | (simp <;> omega)) | (with_reducible refine Below.setCell ?_ ?_ _; rotate_left; · first | omega | (simp <;> omega))))) (hb5'.mono (by first | omega | (simp <;> omega))))
                         clear hb5')
                      | fail)
                all_goals (
                  have hfb := Lib.hid (hbr.out.trans (hb5.out.mono hsr))
                  go_wp2
                  go_roundw
                  case rel => exact ⟨i + 1, by go_num, by rw [hsu.out]; first | rfl | simp, by omega, hfb.out⟩
                  case measure => simp [natOf]; omega)
              · have hallk : (b0 && (List.range i).all fun i => leL up (valF up consts N ls i) (ls.getD i z0)) = (b0 && (List.range k).all fun i => leL up (valF up consts N ls i) (ls.getD i z0)) := by
                  by_cases hi : i < k
                  · have hfl : (b0 && (List.range i).all fun i => leL up (valF up consts N ls i) (ls.getD i z0)) = false := by
                      cases h : (b0 && (List.range i).all fun i => leL up (valF up consts N ls i) (ls.getD i z0)) with
                      | false => rfl
                      | true => exact absurd ⟨hi, h⟩ hgo
                    rw [hfl]
                    symm
                    rw [Bool.and_eq_false_iff] at hfl ⊢
                    rcases hfl with h | h
                    · exact .inl h
                    · refine .inr ?_
                      rw [List.all_eq_false] at h ⊢
                      obtain ⟨j, hj, hp⟩ := h
                      exact ⟨j, List.mem_range.2 (by have := List.mem_range.1 hj; omega), hp⟩
                  · have : i = k := by omega
                    rw [this]
                have hcond2 : (i < k ∧ (b0 && (List.range k).all fun i => leL up (valF up consts N ls i) (ls.getD i z0)) = false) ∨ ¬ ((i : Int) < (k : Int)) := by
                  by_cases hi : i < k
                  · refine .inl ⟨hi, ?_⟩
                    rw [← hallk]
                    cases h : (b0 && (List.range i).all fun i => leL up (valF up consts N ls i) (ls.getD i z0)) with
                    | false => rfl
                    | true => exact absurd ⟨hi, h⟩ hgo
                  · exact .inr (by omega)
                rw [hallk]
                have hBo : ∀ (W : World) (A1 : Option Addr) (c1 : Nat) (A2 : Option Addr) (c2 : Nat) (A3 : Option Addr) (c3 : Nat) (A4 : Option Addr) (c4 : Nat) (hb : Below w.heap.size w W) (q1 : Reads W W.heap.size 1 A1 n (u64s up)) (q2 : Reads W W.heap.size 2 A2 k (lbVals consts)) (q3 : NRows W W.heap.size A3 m (N.map casts)) (q4 : Reads W W.heap.size 2 A4 k (lbVals ls)),
                    Calls Tryd.prog 18 #[.slice A1 n c1, .agg #[.slice A2 k c2, .slice A3 m c3], .slice A4 k c4] W fun e w' => e = .returned (.bool (b0 && (List.range k).all fun i => leL up (valF up consts N ls i) (ls.getD i z0))) ∧ Below W.heap.size W w' := by
                  intro W A1 c1 A2 c2 A3 c3 A4 c4 hb q1 q2 q3 q4
                  have h := hBo0.out W A1 c1 A2 c2 A3 c3 A4 c4 hb q1 q2 q3 q4
                  rw [he.out] at h
                  exact h
                generalize (b0 && (List.range k).all fun i => leL up (valF up consts N ls i) (ls.getD i z0)) = bb at *
                obtain ⟨Y, hbW, rfl⟩ : ∃ Z, Below w3.heap.size w3 Z ∧ Z = wr := ⟨_, hbr, rfl⟩
                have hBY := Lib.hid hBr
                have hwY := kr.lt
                have hrY := Lib.hid ((hr.out.below hBY.out).more hBY.out.size)
                have hlsY := Lib.hid ((hls.out.below hBY.out).more hBY.out.size)
                have hcell := Lib.hid (fun (W : World) (p : Addr) (v : Value) (h : Below Y.heap.size Y W) (hp : p.block < Y.heap.size) (hv : Y.cell? p = some v) => (h.cell hp).trans hv)
                have kY := Lib.hid kr
                replace hBo := Lib.hid hBo
                replace hallk := Lib.hid hallk
                replace hsu := Lib.hid hsu
                replace hgo := Lib.hid hgo
                clear hbW hbr hBr kr
                rcases hcond2 with ⟨hi2, hbf2⟩ | hlt2
                · have hlt2 : ((i : Int) < (k : Int)) := by omega
                  subst hbf2
                  go_upto_region 12 with fail
                  go_region_held3 (fun w' => w'.cell? ⟨w.heap.size, 0, none⟩ = some (.slice C k lc) ∧ w'.cell? ⟨w.heap.size, 1, none⟩ = some (.slice D m mc))
                    (first
                        | (refine ⟨?_, ?_, ?_, ?_⟩ <;> (refine hcell.out _ _ _ ?_ (by first | omega | (simp <;> omega)) (by assumption); (repeat (first | with_reducible exact hb5.out | with_reducible exact hb4.out | with_reducible exact hb3.out | with_reducible exact hb2.out | with_reducible exact hb1.out | with_reducible exact Below.refl _ _ | with_reducible refine Below.drew ?_ | (with_reducible refine Below.alloc ?_ ?_ _; rotate_left; · first | omega | (simp <;> omega)) | (with_reducible refine Below.setCell ?_ ?_ _; rotate_left; · first | omega | (simp <;> omega))))))
                        | (refine ⟨?_, ?_⟩ <;> (refine hcell.out _ _ _ ?_ (by first | omega | (simp <;> omega)) (by assumption); (repeat (first | with_reducible exact hb5.out | with_reducible exact hb4.out | with_reducible exact hb3.out | with_reducible exact hb2.out | with_reducible exact hb1.out | with_reducible exact Below.refl _ _ | with_reducible refine Below.drew ?_ | (with_reducible refine Below.alloc ?_ ?_ _; rotate_left; · first | omega | (simp <;> omega)) | (with_reducible refine Below.setCell ?_ ?_ _; rotate_left; · first | omega | (simp <;> omega))))))
                        | (refine hcell.out _ _ _ ?_ (by first | omega | (simp <;> omega)) (by assumption); (repeat (first | with_reducible exact hb5.out | with_reducible exact hb4.out | with_reducible exact hb3.out | with_reducible exact hb2.out | with_reducible exact hb1.out | with_reducible exact Below.refl _ _ | with_reducible refine Below.drew ?_ | (with_reducible refine Below.alloc ?_ ?_ _; rotate_left; · first | omega | (simp <;> omega)) | (with_reducible refine Below.setCell ?_ ?_ _; rotate_left; · first | omega | (simp <;> omega)))))
                        | go_keep)
                    (first
                      | (refine step_append_any _ (by rfl) _ _ _ (by rfl) Y.heap.size 27 i0 _ 1 8 Tryd.underlying22 hi0 hz0 hz1 hz2 rfl (by decide) (.slice (some ⟨_, 0, none⟩) 0 0) 0 [] (by rfl) (own_emptyV (base := Y.heap.size) (g := _) (by ((repeat (first | exact Blk.new_at _ _ _ _ (by first | rfl | (simp <;> omega)) | with_reducible refine Blk.drew ?_ | with_reducible refine Blk.alloc ?_ _)); done)) (by first | omega | (simp <;> omega))) Y.heap.size A n c (u64s up) (by rfl) (by (repeat (first | with_reducible exact hrY.out | with_reducible refine Reads.drew ?_ | (with_reducible refine Reads.alloc ?_ ?_ _; rotate_left; · first | omega | (simp <;> omega))))) h1.out (by first | omega | (simp <;> omega)) (by first | omega | (simp <;> omega)) (by first | omega | (simp <;> omega)) ?_
                         intro v1 w1 hown1 hg1 hat1
                         rw [Nat.zero_add, List.nil_append] at hown1
                         obtain ⟨A1, c1, rfl⟩ := ownsRow_slice hown1
                         have hb1 := Lib.hid ((show Below Y.heap.size Y _ by (repeat (first  | with_reducible exact Below.refl _ _ | with_reducible refine Below.drew ?_ | (with_reducible refine Below.alloc ?_ ?_ _; rotate_left; · first | omega | (simp <;> omega)) | (with_reducible refine Below.setCell ?_ ?_ _; rotate_left; · first | omega | (simp <;> omega))))).grown hg1 (by first | omega | (simp <;> omega)) (fun j hj => by simp [Value.ownBlock] at hj; omega))
                         have hrA := Lib.hid (Reads.of_own hown1)
                         have hs1 := hb1.out.size
                         first
                           | have kL := Blk.grown (Blk.drew (Blk.new_at _ 29 #[] (Y.heap.size + 1) (by simp))) hg1 (by simp [Value.ownBlock])
                           | have kL := Blk.grown (Blk.drew (Blk.alloc (Blk.new_at _ 29 #[] Y.heap.size rfl) _)) hg1 (by simp [Value.ownBlock])
                           | skip
                         clear hown1 hg1 hat1)
                      | (go_at_call 12
                         refine (hCop.out _ ?_).mono ?_
                         · exact hBY.out.trans ((show Below Y.heap.size Y _ by (repeat (first | with_reducible exact hb1.out | with_reducible exact Below.refl _ _ | with_reducible refine Below.drew ?_ | (with_reducible refine Below.alloc ?_ ?_ _; rotate_left; · first | omega | (simp <;> omega)) | (with_reducible refine Below.setCell ?_ ?_ _; rotate_left; · first | omega | (simp <;> omega))))).mono hBY.out.size)
                         rintro e w2 ⟨A2, c2, A3, c3, row, rfl, hO2, hR2, hb2'⟩
                         have hb2 := Lib.hid (Below.trans (show Below Y.heap.size Y _ by (repeat (first | with_reducible exact hb1.out | with_reducible exact Below.refl _ _ | with_reducible refine Below.drew ?_ | (with_reducible refine Below.alloc ?_ ?_ _; rotate_left; · first | omega | (simp <;> omega)) | (with_reducible refine Below.setCell ?_ ?_ _; rotate_left; · first | omega | (simp <;> omega))))) (hb2'.mono (by first | omega | (simp <;> omega))))
                         have hrA2 : RowKit.Hid (Reads w2 w2.heap.size 1 A1 n (u64s up)) := by
                           refine Lib.hid ?_
                           first
                             | exact (hrA.out.below hb2').more hb2'.size
                             | exact ((hrA.out.alloc (Nat.le_refl _) _).below (hb2'.mono (by simp))).more (by have := hb2'.size; simp at this; omega)
                         have hc2 := Lib.hid (Reads.of_own hO2)
                         have hd2 := Lib.hid (hR2.nrows hlenm.out)
                         have hs2 := hb2.out.size
                         first
                           | have kM := Blk.below kL hb2' kL.lt
                           | have kM := Blk.below (Blk.new_at _ 29 #[] w1.heap.size rfl) hb2' (by simp)
                           | skip
                         clear hO2 hR2 hb2')
                      | (refine step_append_any _ (by rfl) _ _ _ (by rfl) Y.heap.size 29 j0 _ 2 16 Tryd.underlying23 hj0 hy0 hy1 hy2 rfl (by decide) (.slice (some ⟨_, 0, none⟩) 0 0) 0 [] (by rfl) (own_emptyV (base := Y.heap.size) (g := _) (by first | exact kM | ((repeat (first | exact Blk.new_at _ _ _ _ (by first | rfl | (simp <;> omega)) | with_reducible refine Blk.drew ?_ | with_reducible refine Blk.alloc ?_ _)); done)) (by first | omega | (simp <;> omega))) Y.heap.size E k kc (lbVals ls) (by rfl) (by (repeat (first | with_reducible exact (hlsY.out.below hb2.out) | with_reducible refine Reads.drew ?_ | (with_reducible refine Reads.alloc ?_ ?_ _; rotate_left; · first | omega | (simp <;> omega))))) h2l.out (by first | omega | (simp <;> omega)) (by first | omega | (simp <;> omega)) (by first | omega | (simp <;> omega)) ?_
                         intro v3 w3 hown3 hg3 hat3
                         rw [Nat.zero_add, List.nil_append] at hown3
                         obtain ⟨A4, c4, rfl⟩ := ownsRow_slice hown3
                         have hb3 := Lib.hid ((show Below Y.heap.size Y _ by (repeat (first | with_reducible exact hb2.out | with_reducible exact Below.refl _ _ | with_reducible refine Below.drew ?_ | (with_reducible refine Below.alloc ?_ ?_ _; rotate_left; · first | omega | (simp <;> omega)) | (with_reducible refine Below.setCell ?_ ?_ _; rotate_left; · first | omega | (simp <;> omega))))).grown hg3 (by first | omega | (simp <;> omega)) (fun j hj => by simp [Value.ownBlock] at hj; omega))
                         have hs3 := hg3.size
                         have hr3 : RowKit.Hid (Reads w3 w3.heap.size 1 A1 n (u64s up) ∧ Reads w3 w3.heap.size 2 A2 k (lbVals consts) ∧ NRows w3 w3.heap.size A3 m (N.map casts)) := by
                           refine Lib.hid ?_
                           first
                             | exact ⟨(reads_empty hrA2.out kM hg3 (by decide)).more hs3, (reads_empty hc2.out kM hg3 (by decide)).more hs3, (rows_empty hd2.out kM hg3).more hs3⟩
                             | (simp at hs3
                                exact ⟨(reads_empty (hrA2.out.alloc (Nat.le_refl _) _) (Blk.new_at _ 29 #[] _ rfl) hg3 (by decide)).more (by omega), (reads_empty (hc2.out.alloc (Nat.le_refl _) _) (Blk.new_at _ 29 #[] _ rfl) hg3 (by decide)).more (by omega), (rows_empty (hd2.out.below (Below.alloc (Below.refl _ _) (Nat.le_refl _) _)) (Blk.new_at _ 29 #[] _ rfl) hg3).more (by omega)⟩)
                         have hr4 := Lib.hid (Reads.of_own hown3)
                         have hs3' := hb3.out.size
                         clear hown3 hg3 hat3 hs3)
                      | (go_at_call 18
                         refine (hBo.out _ A1 c1 A2 c2 A3 c3 A4 c4 ?_ ?_ ?_ ?_ ?_).mono ?_
                         · exact hBY.out.trans ((show Below Y.heap.size Y _ by (repeat (first | with_reducible exact hb3.out | with_reducible exact Below.refl _ _ | with_reducible refine Below.drew ?_ | (with_reducible refine Below.alloc ?_ ?_ _; rotate_left; · first | omega | (simp <;> omega)) | (with_reducible refine Below.setCell ?_ ?_ _; rotate_left; · first | omega | (simp <;> omega))))).mono hBY.out.size)
                         · exact hr3.out.1
                         · exact hr3.out.2.1
                         · exact hr3.out.2.2
                         · exact hr4.out
                         rintro e w4 ⟨rfl, hb4'⟩
                         have hb4 := Lib.hid (Below.trans (show Below Y.heap.size Y _ by (repeat (first | with_reducible exact hb3.out | with_reducible exact Below.refl _ _ | with_reducible refine Below.drew ?_ | (with_reducible refine Below.alloc ?_ ?_ _; rotate_left; · first | omega | (simp <;> omega)) | (with_reducible refine Below.setCell ?_ ?_ _; rotate_left; · first | omega | (simp <;> omega))))) (hb4'.mono (by first | omega | (simp <;> omega))))
                         have hs4 := hb4.out.size
                         clear hb4')
                      | (go_at_call 11
                         refine (hAw.out _ ?_).mono ?_
                         · exact hBY.out.trans ((show Below Y.heap.size Y _ by (repeat (first | with_reducible exact hb4.out | with_reducible exact Below.refl _ _ | with_reducible refine Below.drew ?_ | (with_reducible refine Below.alloc ?_ ?_ _; rotate_left; · first | omega | (simp <;> omega)) | (with_reducible refine Below.setCell ?_ ?_ _; rotate_left; · first | omega | (simp <;> omega))))).mono hBY.out.size)
                         rintro e w5 ⟨rfl, hb5'⟩
                         have hb5 := Lib.hid (Below.trans (show Below Y.heap.size Y _ by (repeat (first | with_reducible exact hb4.out | with_reducible exact Below.refl _ _ | with_reducible refine Below.drew ?_ | (with_reducible refine Below.alloc ?_ ?_ _; rotate_left; · first | omega | (simp <;> omega)) | (with_reducible refine Below.setCell ?_ ?_ _; rotate_left; · first | omega | (simp <;> omega))))) (hb5'.mono (by first | omega | (simp <;> omega))))
                         clear hb5')
                      | fail)
                  all_goals (
                    go_wp2
                    go_ret
                    exact ⟨by simp, hBY.out.trans (hb5.out.mono hBY.out.size)⟩)
                · go_upto_region 12 with fail
                  go_region_held3 (fun w' => w'.cell? ⟨w.heap.size, 0, none⟩ = some (.slice C k lc) ∧ w'.cell? ⟨w.heap.size, 1, none⟩ = some (.slice D m mc))
                    (first
                        | (refine ⟨?_, ?_, ?_, ?_⟩ <;> (refine hcell.out _ _ _ ?_ (by first | omega | (simp <;> omega)) (by assumption); (repeat (first | with_reducible exact hb5.out | with_reducible exact hb4.out | with_reducible exact hb3.out | with_reducible exact hb2.out | with_reducible exact hb1.out | with_reducible exact Below.refl _ _ | with_reducible refine Below.drew ?_ | (with_reducible refine Below.alloc ?_ ?_ _; rotate_left; · first | omega | (simp <;> omega)) | (with_reducible refine Below.setCell ?_ ?_ _; rotate_left; · first | omega | (simp <;> omega))))))
                        | (refine ⟨?_, ?_⟩ <;> (refine hcell.out _ _ _ ?_ (by first | omega | (simp <;> omega)) (by assumption); (repeat (first | with_reducible exact hb5.out | with_reducible exact hb4.out | with_reducible exact hb3.out | with_reducible exact hb2.out | with_reducible exact hb1.out | with_reducible exact Below.refl _ _ | with_reducible refine Below.drew ?_ | (with_reducible refine Below.alloc ?_ ?_ _; rotate_left; · first | omega | (simp <;> omega)) | (with_reducible refine Below.setCell ?_ ?_ _; rotate_left; · first | omega | (simp <;> omega))))))
                        | (refine hcell.out _ _ _ ?_ (by first | omega | (simp <;> omega)) (by assumption); (repeat (first | with_reducible exact hb5.out | with_reducible exact hb4.out | with_reducible exact hb3.out | with_reducible exact hb2.out | with_reducible exact hb1.out | with_reducible exact Below.refl _ _ | with_reducible refine Below.drew ?_ | (with_reducible refine Below.alloc ?_ ?_ _; rotate_left; · first | omega | (simp <;> omega)) | (with_reducible refine Below.setCell ?_ ?_ _; rotate_left; · first | omega | (simp <;> omega)))))
                        | go_keep)
                    (first
                      | (refine step_append_any _ (by rfl) _ _ _ (by rfl) Y.heap.size 27 i0 _ 1 8 Tryd.underlying22 hi0 hz0 hz1 hz2 rfl (by decide) (.slice (some ⟨_, 0, none⟩) 0 0) 0 [] (by rfl) (own_emptyV (base := Y.heap.size) (g := _) (by ((repeat (first | exact Blk.new_at _ _ _ _ (by first | rfl | (simp <;> omega)) | with_reducible refine Blk.drew ?_ | with_reducible refine Blk.alloc ?_ _)); done)) (by first | omega | (simp <;> omega))) Y.heap.size A n c (u64s up) (by rfl) (by (repeat (first | with_reducible exact hrY.out | with_reducible refine Reads.drew ?_ | (with_reducible refine Reads.alloc ?_ ?_ _; rotate_left; · first | omega | (simp <;> omega))))) h1.out (by first | omega | (simp <;> omega)) (by first | omega | (simp <;> omega)) (by first | omega | (simp <;> omega)) ?_
                         intro v1 w1 hown1 hg1 hat1
                         rw [Nat.zero_add, List.nil_append] at hown1
                         obtain ⟨A1, c1, rfl⟩ := ownsRow_slice hown1
                         have hb1 := Lib.hid ((show Below Y.heap.size Y _ by (repeat (first  | with_reducible exact Below.refl _ _ | with_reducible refine Below.drew ?_ | (with_reducible refine Below.alloc ?_ ?_ _; rotate_left; · first | omega | (simp <;> omega)) | (with_reducible refine Below.setCell ?_ ?_ _; rotate_left; · first | omega | (simp <;> omega))))).grown hg1 (by first | omega | (simp <;> omega)) (fun j hj => by simp [Value.ownBlock] at hj; omega))
                         have hrA := Lib.hid (Reads.of_own hown1)
                         have hs1 := hb1.out.size
                         first
                           | have kL := Blk.grown (Blk.drew (Blk.new_at _ 29 #[] (Y.heap.size + 1) (by simp))) hg1 (by simp [Value.ownBlock])
                           | have kL := Blk.grown (Blk.drew (Blk.alloc (Blk.new_at _ 29 #[] Y.heap.size rfl) _)) hg1 (by simp [Value.ownBlock])
                           | skip
                         clear hown1 hg1 hat1)
                      | (go_at_call 12
                         refine (hCop.out _ ?_).mono ?_
                         · exact hBY.out.trans ((show Below Y.heap.size Y _ by (repeat (first | with_reducible exact hb1.out | with_reducible exact Below.refl _ _ | with_reducible refine Below.drew ?_ | (with_reducible refine Below.alloc ?_ ?_ _; rotate_left; · first | omega | (simp <;> omega)) | (with_reducible refine Below.setCell ?_ ?_ _; rotate_left; · first | omega | (simp <;> omega))))).mono hBY.out.size)
                         rintro e w2 ⟨A2, c2, A3, c3, row, rfl, hO2, hR2, hb2'⟩
                         have hb2 := Lib.hid (Below.trans (show Below Y.heap.size Y _ by (repeat (first | with_reducible exact hb1.out | with_reducible exact Below.refl _ _ | with_reducible refine Below.drew ?_ | (with_reducible refine Below.alloc ?_ ?_ _; rotate_left; · first | omega | (simp <;> omega)) | (with_reducible refine Below.setCell ?_ ?_ _; rotate_left; · first | omega | (simp <;> omega))))) (hb2'.mono (by first | omega | (simp <;> omega))))
                         have hrA2 : RowKit.Hid (Reads w2 w2.heap.size 1 A1 n (u64s up)) := by
                           refine Lib.hid ?_
                           first
                             | exact (hrA.out.below hb2').more hb2'.size
                             | exact ((hrA.out.alloc (Nat.le_refl _) _).below (hb2'.mono (by simp))).more (by have := hb2'.size; simp at this; omega)
                         have hc2 := Lib.hid (Reads.of_own hO2)
                         have hd2 := Lib.hid (hR2.nrows hlenm.out)
                         have hs2 := hb2.out.size
                         first
                           | have kM := Blk.below kL hb2' kL.lt
                           | have kM := Blk.below (Blk.new_at _ 29 #[] w1.heap.size rfl) hb2' (by simp)
                           | skip
                         clear hO2 hR2 hb2')
                      | (refine step_append_any _ (by rfl) _ _ _ (by rfl) Y.heap.size 29 j0 _ 2 16 Tryd.underlying23 hj0 hy0 hy1 hy2 rfl (by decide) (.slice (some ⟨_, 0, none⟩) 0 0) 0 [] (by rfl) (own_emptyV (base := Y.heap.size) (g := _) (by first | exact kM | ((repeat (first | exact Blk.new_at _ _ _ _ (by first | rfl | (simp <;> omega)) | with_reducible refine Blk.drew ?_ | with_reducible refine Blk.alloc ?_ _)); done)) (by first | omega | (simp <;> omega))) Y.heap.size E k kc (lbVals ls) (by rfl) (by (repeat (first | with_reducible exact (hlsY.out.below hb2.out) | with_reducible refine Reads.drew ?_ | (with_reducible refine Reads.alloc ?_ ?_ _; rotate_left; · first | omega | (simp <;> omega))))) h2l.out (by first | omega | (simp <;> omega)) (by first | omega | (simp <;> omega)) (by first | omega | (simp <;> omega)) ?_
                         intro v3 w3 hown3 hg3 hat3
                         rw [Nat.zero_add, List.nil_append] at hown3
                         obtain ⟨A4, c4, rfl⟩ := ownsRow_slice hown3
                         have hb3 := Lib.hid ((show Below Y.heap.size Y _ by (repeat (first | with_reducible exact hb2.out | with_reducible exact Below.refl _ _ | with_reducible refine Below.drew ?_ | (with_reducible refine Below.alloc ?_ ?_ _; rotate_left; · first | omega | (simp <;> omega)) | (with_reducible refine Below.setCell ?_ ?_ _; rotate_left; · first | omega | (simp <;> omega))))).grown hg3 (by first | omega | (simp <;> omega)) (fun j hj => by simp [Value.ownBlock] at hj; omega))
                         have hs3 := hg3.size
                         have hr3 : RowKit.Hid (Reads w3 w3.heap.size 1 A1 n (u64s up) ∧ Reads w3 w3.heap.size 2 A2 k (lbVals consts) ∧ NRows w3 w3.heap.size A3 m (N.map casts)) := by
                           refine Lib.hid ?_
                           first
                             | exact ⟨(reads_empty hrA2.out kM hg3 (by decide)).more hs3, (reads_empty hc2.out kM hg3 (by decide)).more hs3, (rows_empty hd2.out kM hg3).more hs3⟩
                             | (simp at hs3
                                exact ⟨(reads_empty (hrA2.out.alloc (Nat.le_refl _) _) (Blk.new_at _ 29 #[] _ rfl) hg3 (by decide)).more (by omega), (reads_empty (hc2.out.alloc (Nat.le_refl _) _) (Blk.new_at _ 29 #[] _ rfl) hg3 (by decide)).more (by omega), (rows_empty (hd2.out.below (Below.alloc (Below.refl _ _) (Nat.le_refl _) _)) (Blk.new_at _ 29 #[] _ rfl) hg3).more (by omega)⟩)
                         have hr4 := Lib.hid (Reads.of_own hown3)
                         have hs3' := hb3.out.size
                         clear hown3 hg3 hat3 hs3)
                      | (go_at_call 18
                         refine (hBo.out _ A1 c1 A2 c2 A3 c3 A4 c4 ?_ ?_ ?_ ?_ ?_).mono ?_
                         · exact hBY.out.trans ((show Below Y.heap.size Y _ by (repeat (first | with_reducible exact hb3.out | with_reducible exact Below.refl _ _ | with_reducible refine Below.drew ?_ | (with_reducible refine Below.alloc ?_ ?_ _; rotate_left; · first | omega | (simp <;> omega)) | (with_reducible refine Below.setCell ?_ ?_ _; rotate_left; · first | omega | (simp <;> omega))))).mono hBY.out.size)
                         · exact hr3.out.1
                         · exact hr3.out.2.1
                         · exact hr3.out.2.2
                         · exact hr4.out
                         rintro e w4 ⟨rfl, hb4'⟩
                         have hb4 := Lib.hid (Below.trans (show Below Y.heap.size Y _ by (repeat (first | with_reducible exact hb3.out | with_reducible exact Below.refl _ _ | with_reducible refine Below.drew ?_ | (with_reducible refine Below.alloc ?_ ?_ _; rotate_left; · first | omega | (simp <;> omega)) | (with_reducible refine Below.setCell ?_ ?_ _; rotate_left; · first | omega | (simp <;> omega))))) (hb4'.mono (by first | omega | (simp <;> omega))))
                         have hs4 := hb4.out.size
                         clear hb4')
                      | (go_at_call 11
                         refine (hAw.out _ ?_).mono ?_
                         · exact hBY.out.trans ((show Below Y.heap.size Y _ by (repeat (first | with_reducible exact hb4.out | with_reducible exact Below.refl _ _ | with_reducible refine Below.drew ?_ | (with_reducible refine Below.alloc ?_ ?_ _; rotate_left; · first | omega | (simp <;> omega)) | (with_reducible refine Below.setCell ?_ ?_ _; rotate_left; · first | omega | (simp <;> omega))))).mono hBY.out.size)
                         rintro e w5 ⟨rfl, hb5'⟩
                         have hb5 := Lib.hid (Below.trans (show Below Y.heap.size Y _ by (repeat (first | with_reducible exact hb4.out | with_reducible exact Below.refl _ _ | with_reducible refine Below.drew ?_ | (with_reducible refine Below.alloc ?_ ?_ _; rotate_left; · first | omega | (simp <;> omega)) | (with_reducible refine Below.setCell ?_ ?_ _; rotate_left; · first | omega | (simp <;> omega))))) (hb5'.mono (by first | omega | (simp <;> omega))))
                         clear hb5')
                      | fail)
                  all_goals (
                    go_wp2
                    go_ret
                    exact ⟨by simp, hBY.out.trans (hb5.out.mono hBY.out.size)⟩)
end Go.Proofs.YtleckdbdhkgcpaaDoor
