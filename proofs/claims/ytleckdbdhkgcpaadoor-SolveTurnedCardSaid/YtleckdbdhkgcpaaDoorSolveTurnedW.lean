/- The walk of SolveTurned. -/
import Derived.Deep.RegionHeld3
import Derived.Deep.DeepCutAuto
import Derived.BigQuiet
import Derived.Test.YtleckdbdhkgcpaaDoorVt
import Derived.Test.YtleckdbdhkgcpaaDoorVg
import Derived.Test.YtleckdbdhkgcpaaDoorQh
import Derived.Test.YtleckdbdhkgcpaaDoorVa
import Derived.Test.YtleckdbdhkgcpaaDoorRl
namespace Go.Proofs.YtleckdbdhkgcpaaDoor
open Go.RowKit Go.Shelf Go.Idl
set_option linter.unusedSimpArgs false
set_option linter.unusedVariables false

/-- The copy while it is turned. -/
structure TurnI (w4 : World) (xb m l c1 c2 : Nat) (A1 A2 : Option Addr) (consts : List Lb) (F : Nat → List Int) (row : Nat → Value) (wr : World) : Prop where
  rows : TRows wr 3 40 w4.heap.size (.slice A2 m c2) m F row
  labs : wr.ownsRow w4.heap.size 29 2 (.slice A1 l c1) l (lbVals consts)
  box : Blk wr xb 26 #[.slice A1 l c1, .slice A2 m c2]
  low : Below w4.heap.size w4 wr
theorem TurnI.grow {w4 w w1 : World} {xb m l c1 c2 g2 a : Nat} {A1 : Option Addr} {consts : List Lb} {F : Nat → List Int} {row : Nat → Value} {o : Obj} {v : Value} {x : Int} (h : TurnI w4 xb m l c1 c2 A1 (some ⟨g2, 0, none⟩) consts F row w) (ha : a < m)
    (ho : TailRow w1 w4.heap.size 3 v ((F a).length + 1) (nums (F a ++ [x]))) (hg : (w.alloc o).grownBy w1 (row a).ownBlock) (hat : v.ownBlock = (row a).ownBlock ∨ ∃ b, v.ownBlock = some b ∧ (w.alloc o).heap.size ≤ b) :
    TurnI w4 xb m l c1 c2 A1 (some ⟨g2, 0, none⟩) consts (fun k => if k = a then F a ++ [x] else F k) (fun k => if k = a then v else row k) (w1.setCell ⟨g2, a, none⟩ v) ∧ Blk w1 xb 26 #[.slice A1 l c1, .slice (some ⟨g2, 0, none⟩) m c2] ∧ w1.cell? ⟨g2, a, none⟩ = some (row a) ∧ w1.frozen? ⟨g2, a, none⟩ = false := by
  obtain ⟨b1, b2, b3, b4, b5, b6, b7⟩ := TRows.grow h.rows h.labs h.box (by decide) (by decide) (by decide) (by decide) (by decide) h.low.size ha ho hg hat
  exact ⟨⟨b1, b3, b4, h.low.trans b2⟩, b5, b6, b7⟩
theorem TurnI.cut {w4 w : World} {xb m l c1 c2 g2 a : Nat} {A1 : Option Addr} {consts : List Lb} {F : Nat → List Int} {row : Nat → Value} {v : Value} {zs : List Int} (h : TurnI w4 xb m l c1 c2 A1 (some ⟨g2, 0, none⟩) consts F row w) (ha : a < m)
    (ho : TailRow w w4.heap.size 3 v zs.length (nums zs)) (hat : v.ownBlock = (row a).ownBlock) :
    TurnI w4 xb m l c1 c2 A1 (some ⟨g2, 0, none⟩) consts (fun k => if k = a then zs else F k) (fun k => if k = a then v else row k) (w.setCell ⟨g2, a, none⟩ v) := by
  obtain ⟨b1, b2, b3, b4⟩ := TRows.cut h.rows h.labs h.box (by decide) (by decide) (by decide) ha ho hat
  exact ⟨b1, b3, b4, h.low.trans b2⟩
theorem TurnI.drewT {w4 w : World} {xb m l c1 c2 : Nat} {A1 A2 : Option Addr} {consts : List Lb} {F : Nat → List Int} {row : Nat → Value} (h : TurnI w4 xb m l c1 c2 A1 A2 consts F row w) : TurnI w4 xb m l c1 c2 A1 A2 consts F row w.drew :=
  ⟨⟨World.ownsRow.drew h.rows.own, fun k hk => (h.rows.rows k hk).drewT, h.rows.far⟩, World.ownsRow.drew h.labs, Blk.drew h.box, Below.drew h.low⟩
theorem TurnI.at_ {w4 w : World} {xb m l c1 c2 g2 a : Nat} {A1 : Option Addr} {consts : List Lb} {F : Nat → List Int} {row : Nat → Value} (h : TurnI w4 xb m l c1 c2 A1 (some ⟨g2, 0, none⟩) consts F row w) (ha : a < m) :
    w.cell? ⟨g2, a, none⟩ = some (row a) ∧ w.frozen? ⟨g2, a, none⟩ = false ∧ g2 < w.heap.size ∧ xb < w.heap.size := by
  obtain ⟨cur, k, hc⟩ := h.rows.blk
  exact ⟨by rw [k.cell]; exact hc a ha, k.frozen a, k.lt, h.box.lt⟩

set_option maxHeartbeats 40000000 in
set_option maxRecDepth 100000 in
theorem walkSolveTurned (A : Option Addr) (n c : Nat) (up : List Nat) (C D : Option Addr) (l lc m mc : Nat) (consts : List Lb) (needs : List (List Int)) (w : World) (hT : Tab w) (hn : up.length = n) (hn63 : n ≤ maxLen) (hM : Masks up) (hr : Reads w w.heap.size 1 A n (u64s up))
    (hl : consts.length = l) (hl63 : l ≤ maxLen) (hc : Reads w w.heap.size 2 C l (lbVals consts)) (hcm : ∀ k, (consts.getD k z0).ms < 2 ^ 64) (hm63 : m ≤ maxLen) (hd : NRows w w.heap.size D m needs) :
    Calls Tryd.prog 4 #[.slice A n c, .agg #[.slice C l lc, .slice D m mc]] w fun e w' => e = .returned (.bool true) ∧ Below w.heap.size w w' := by
  have hml : maxLen = 9223372036854775807 := rfl
  obtain ⟨i1, hi1, hz0, hz1, hz2⟩ := info_parts1 int_info1
  obtain ⟨X, hX⟩ : ∃ X, w.alloc (.cells #[.slice C l lc, .slice D m mc] 26) = X := ⟨_, rfl⟩
  have hB0 : Below w.heap.size w X := by rw [← hX]; exact (Below.refl _ w).alloc (Nat.le_refl _) _
  have k0 : Blk X w.heap.size 26 #[.slice C l lc, .slice D m mc] := by rw [← hX]; exact Blk.new w _ _
  have hsz : X.heap.size = w.heap.size + 1 := by rw [← hX]; simp
  obtain ⟨s0, s1⟩ := pair_cells k0
  have hcell := Lib.hid (fun (W : World) (p : Addr) (v : Value) (h : Below X.heap.size X W) (hp : p.block < X.heap.size) (hv : X.cell? p = some v) => (h.cell hp).trans hv)
  have hFew := few_any C D l lc m mc needs X hm63 ((hd.below hB0).more hB0.size)
  have hAw := fun (W : World) (hb : Below w.heap.size w W) => awake_any W (hT.later hb)
  have hSame := fun (W : World) (B1 B2 : Option Addr) (d1 d2 : Nat) (a b : List Lb) (ha : a.length = l) (hb : b.length = l) (h1 : Reads W W.heap.size 2 B1 l (lbVals a)) (h2 : Reads W W.heap.size 2 B2 l (lbVals b)) => same_any B1 B2 l d1 l d2 a b W ha hb hl63 h1 h2
  have hSameN := fun (W : World) => same_any none none 0 0 0 0 [] [] W rfl rfl (Nat.zero_le _) Reads.none_ Reads.none_
  have hSolN := fun (W : World) (hb : Below w.heap.size w W) (C' D' : Option Addr) (lc' mc' : Nat) (needs' : List (List Int)) (h1 : Reads W W.heap.size 2 C' l (lbVals consts)) (h2 : NRows W W.heap.size D' m needs') (h : sysB up consts needs' = false) => solve_no A n c up C' D' l lc' m mc' consts needs' W (hT.later hb) hn hn63 hM ((hr.below hb).more hb.size) hl hl63 h1 hm63 h2 h
  have hup : ∀ W, Below X.heap.size X W → Below w.heap.size w W := fun W h => hB0.trans (h.mono hB0.size)
  replace hup := Lib.hid hup
  replace hFew := Lib.hid hFew
  replace hAw := Lib.hid hAw
  replace hSame := Lib.hid hSame
  replace hSameN := Lib.hid hSameN
  replace hSolN := Lib.hid hSolN
  replace hB0 := Lib.hid hB0
  replace k0 := Lib.hid k0
  replace hr := Lib.hid hr
  replace hM := Lib.hid hM
  replace hT := Lib.hid hT
  replace hc := Lib.hid hc
  replace hcm := Lib.hid hcm
  replace hd := Lib.hid hd
  replace hn := Lib.hid hn
  replace hl := Lib.hid hl
  cases hf : fewB l m needs with
  | false =>
    replace hf := Lib.hid hf
    go_enter Tryd.func4, Tryd.ntmps4
    go_wp2_with fail
    refine hFew.out.mono ?_
    rintro e w1 ⟨rfl, hb1⟩
    rw [hf.out]
    replace hb1 := Lib.hid hb1
    go_wp2
    go_ret
    exact ⟨rfl, hup.out _ hb1.out⟩
  | true =>
    by_cases hbig : 8 < n
    · have h2 : ((8 : Int) < (n : Int)) := by omega
      replace hf := Lib.hid hf
      go_enter Tryd.func4, Tryd.ntmps4
      go_wp2_with fail
      refine hFew.out.mono ?_
      rintro e w1 ⟨rfl, hb1⟩
      rw [hf.out]
      replace hb1 := Lib.hid hb1
      go_wp2
      go_ret
      exact ⟨rfl, hup.out _ hb1.out⟩
    have h2 : ¬ ((8 : Int) < (n : Int)) := by omega
    obtain ⟨hl60, hm60, hlen60⟩ := fewB_iff.1 hf
    have hCop := fun (W : World) (hb : Below w.heap.size w W) => copied_any C D l lc m mc consts needs W hl.out hl60 hm60 hlen60 ((hc.out.below hb).more hb.size) ((hd.out.below hb).more hb.size)
    have hN : needs.length = m := hd.out.1
    replace hCop := Lib.hid hCop
    replace hlen60 := Lib.hid hlen60
    replace hf := Lib.hid hf
    replace hN := Lib.hid hN
    go_enter Tryd.func4, Tryd.ntmps4
    go_wp2_with fail
    refine hFew.out.mono ?_
    rintro e w1 ⟨rfl, hb1⟩
    rw [hf.out]
    replace hb1 := Lib.hid hb1
    have a0 := hcell.out _ _ _ hb1.out (by simp <;> omega) s0
    have a1 := hcell.out _ _ _ hb1.out (by simp <;> omega) s1
    go_wp2_with fail
    refine (hCop.out _ (hup.out _ hb1.out)).mono ?_
    rintro e w2 ⟨A1, c1, A2, c2, row0, rfl, hO2, hR2, hb2'⟩
    obtain ⟨Y, hY⟩ : ∃ Y, w2.alloc (.cells #[.slice A1 l c1, .slice A2 m c2] 26) = Y := ⟨_, rfl⟩
    have kY : Blk Y w2.heap.size 26 #[.slice A1 l c1, .slice A2 m c2] := by rw [← hY]; exact Blk.new _ _ _
    have hI0 : TurnI w1 w2.heap.size m l c1 c2 A1 A2 consts (turnF needs 0 0) row0 Y := by
      rw [turnF_0]
      refine ⟨TRows.of_own ?_, ?_, kY, ?_⟩
      · rw [← hY]; exact hR2.below ((Below.refl _ _).alloc (Nat.le_refl _) _)
      · rw [← hY]; exact hO2.alloc _
      · rw [← hY]; exact hb2'.alloc hb2'.size _
    obtain ⟨xb, hxb⟩ : ∃ xb, w2.heap.size = xb := ⟨_, rfl⟩
    rw [hxb] at hI0
    replace hI0 := Lib.hid hI0
    clear hO2 hR2 hb2' kY a0 a1
    go_wp2
    go_loopw [6] (fun v wr => ∃ (i : Nat) (row : Nat → Value), v = .int .i64 (i : Nat) ∧ i ≤ m ∧ TurnI w1 xb m l c1 c2 A1 A2 consts (turnF needs i 0) row wr) (fun v wr => m - natOf v)
    case atStart => exact ⟨0, row0, rfl, by omega, hI0.out⟩
    case round =>
      obtain ⟨i, row, rfl, him, hI⟩ := hrel
      have hBX : Below X.heap.size X wr := hb1.out.trans (hI.low.mono hb1.out.size)
      have hBw := hup.out _ hBX
      obtain ⟨t0, t1⟩ := pair_cells hI.box
      by_cases hi : i < m
      · have hlti : ((i : Int) < (m : Int)) := by omega
        obtain ⟨g2, hA2⟩ := hI.rows.at0 (by omega)
        subst hA2
        obtain ⟨ad, A0, c0, hD, hadb, hcr, hl0, hc0, hrd⟩ := hd.out.at_ hi
        subst hD
        have hlen0 := hlen60.out i hi
        obtain ⟨LN, hLN⟩ : ∃ LN, (needs.getD i []).length = LN := ⟨_, rfl⟩
        rw [hLN] at hlen0 hcr hl0 hrd
        have z_0 := hcell.out _ _ _ (hBX) (by simp <;> omega) s0
        have z_1 := hcell.out _ _ _ (hBX) (by simp <;> omega) s1
        have z_r : wr.cell? (ad.add i) = some (.slice A0 LN c0) := (hBw.cell (by rw [block_of_add]; exact hadb)).trans hcr
        replace hrd := Lib.hid hrd
        replace hBX := Lib.hid hBX
        replace hBw := Lib.hid hBw
        have hI' := Lib.hid hI
        clear hI
        obtain ⟨wo, rfl⟩ : ∃ wo : World, wo = wr := ⟨_, rfl⟩
        go_wp2
        go_loopw [7] (fun v wr => ∃ (j : Nat) (row : Nat → Value), v = .int .i64 ((LN : Int) - 1 - (j : Nat)) ∧ j ≤ LN ∧ TurnI w1 xb m l c1 c2 A1 (some ⟨g2, 0, none⟩) consts (turnF needs i j) row wr) (fun v wr => (intOf v + 1).toNat)
        case atStart => exact ⟨0, row, by go_num, by omega, hI'.out⟩
        case round =>
          clear row hI' t0 t1 z_0 z_1 z_r hBX hBw
          obtain ⟨j, row, rfl, hjn, hI⟩ := hrel
          have hBX : Below X.heap.size X wr := hb1.out.trans (hI.low.mono hb1.out.size)
          have hBw := hup.out _ hBX
          have z_0 := hcell.out _ _ _ (hBX) (by simp <;> omega) s0
          have z_1 := hcell.out _ _ _ (hBX) (by simp <;> omega) s1
          have z_r : wr.cell? (ad.add i) = some (.slice A0 LN c0) := (hBw.cell (by rw [block_of_add]; exact hadb)).trans hcr
          by_cases hj : j < LN
          · obtain ⟨kk, hkk⟩ : ∃ kk, LN = kk + j + 1 := ⟨LN - 1 - j, by omega⟩
            have hkv : (LN : Int) - 1 - (j : Nat) = (kk : Nat) := by omega
            have hkn : kk < LN := by omega
            rw [hkv]
            have hge : ((0 : Int) ≤ (kk : Int)) := by omega
            have hlk : ((kk : Int) < (LN : Int)) := by omega
            have hle0 : (((kk : Nat) : Int) ≥ 0) := by omega
            obtain ⟨x, hx⟩ : ∃ x, (needs.getD i [])[kk]? = some x := ⟨_, List.getElem?_eq_getElem (by rw [hLN]; exact hkn)⟩
            have hxr : (nums (needs.getD i []))[kk]? = some (.int .i64 x) := by unfold nums; rw [List.getElem?_map, hx]; rfl
            obtain ⟨ad2, hA0, hadb2, hread⟩ := hrd.out.2 (by omega)
            subst hA0
            have z_x : wr.cell? (ad2.add kk) = some (.int .i64 x) := (hBw.cell (by rw [block_of_add]; exact hadb2)).trans (by have := hread kk _ hxr; exact this)
            have hlenF : (turnF needs i j i).length = LN + j := by rw [turnF_len needs i j (by omega), hLN]
            have hstep : (fun k => if k = i then turnF needs i j i ++ [x] else turnF needs i j k) = turnF needs i (j + 1) := turnF_step needs i (by omega) (by rw [hLN, show LN - 1 - j = kk by omega]; exact hx)
            have hro := hI.rows.rows i hi
            obtain ⟨Aa, ca, er, hca, hcm2⟩ := hro.slice_
            have hfl := fun (w6 : World) (v' : Value) => @TurnI.grow w1 wr w6 xb m l c1 c2 g2 i A1 consts _ _ (.cells [Value.int .i64 x].toArray 3) v' x hI hi
            obtain ⟨v0, fr0, hg2s, hxbs⟩ := hI.at_ hi
            rw [er] at v0 hro hfl
            have a0 : (⟨g2, 0, none⟩ : Addr).add i = ⟨g2, i, none⟩ := addT g2 0 i |>.trans (by rw [Nat.zero_add])
            obtain ⟨t0, t1⟩ := pair_cells hI.box
            have hlowV := hI.low
            have e9 : ∀ z : List Int, nums (z ++ [x]) = nums z ++ [.int .i64 x] := fun z => by simp [nums]
            simp only [e9] at hfl
            clear e9
            have hcellV := Lib.hid (fun (W : World) (p : Addr) (v : Value) (h : Below wr.heap.size wr W) (hp : p.block < wr.heap.size) (hv : wr.cell? p = some v) => (h.cell hp).trans hv)
            rw [hstep] at hfl
            rw [hlenF] at hfl hro v0 er hca
            obtain ⟨LJ, hLJ⟩ : ∃ LJ, LJ = LN + j := ⟨_, rfl⟩
            rw [← hLJ] at hfl hro v0 er hca
            have hLJb : LJ ≤ 120 := by omega
            obtain ⟨fl, hfl0⟩ : ∃ fl, fl = turnF needs i j i := ⟨_, rfl⟩
            rw [← hfl0] at hfl hro
            replace hread := Lib.hid hread
            replace hfl := Lib.hid hfl
            replace hro := Lib.hid hro
            replace hlowV := Lib.hid hlowV
            replace hBX := Lib.hid hBX
            replace hBw := Lib.hid hBw
            replace hI := Lib.hid hI
            replace er := Lib.hid er
            replace hstep := Lib.hid hstep
            replace hlenF := Lib.hid hlenF
            replace hfl0 := Lib.hid hfl0
            replace hxr := Lib.hid hxr
            replace hx := Lib.hid hx
            replace hLJ := Lib.hid hLJ
            replace hkk := Lib.hid hkk
            replace hkv := Lib.hid hkv
            replace hLN := Lib.hid hLN
            go_upto_region 11 with fail
            refine wp_region_T 11 (S := (fun w' => w'.cell? ⟨xb, 1, none⟩ = some (.slice (some ⟨g2, 0, none⟩) m c2) ∧ w'.cell? ⟨g2, i, none⟩ = some (.slice Aa LJ ca))) (by kernel_rfl) (by (first | exact ⟨t1x, f3⟩ | (refine ⟨?_, ?_⟩ <;> refine hcellV.out _ _ _ ?_ (by first | omega | (simp <;> omega)) (by assumption) <;> (repeat (first  | with_reducible exact Below.refl _ _ | with_reducible refine Below.drew ?_ | (with_reducible refine Below.alloc ?_ ?_ _; rotate_left; · first | omega | (simp <;> omega)) | (with_reducible refine Below.setCell ?_ ?_ _; rotate_left; · first | omega | (simp <;> omega))))))) (fun hHeld => ?_)
            refine wpAnyT_take (i := 0) (v := ?_) rfl (by decide) (by kernel_rfl) (by kernel_rfl) (by kernel_rfl) (by kernel_rfl) (fun _ _ _ h => h) (Or.inl ⟨by rfl, ?_⟩) hHeld ?_
            rotate_left
            · intro w' hSw
              (try dsimp only at hSw)
              go_simp
              try with_reducible rfl
            try simp only [Act.put, List.setIfInBounds_toArray, List.set_cons_zero, List.set_cons_succ]
            refine wpAnyT_take (i := 1) (v := ?_) rfl (by decide) (by kernel_rfl) (by kernel_rfl) (by kernel_rfl) (by kernel_rfl) (fun _ _ _ h => h) (Or.inl ⟨by rfl, ?_⟩) hHeld ?_
            rotate_left
            · intro w' hSw
              (try dsimp only at hSw)
              go_simp
              try with_reducible rfl
            try simp only [Act.put, List.setIfInBounds_toArray, List.set_cons_zero, List.set_cons_succ]
            refine wpAnyT_take (i := 2) (v := ?_) rfl (by decide) (by kernel_rfl) (by kernel_rfl) (by kernel_rfl) (by kernel_rfl) (fun _ _ _ h => h) (Or.inl ⟨by rfl, ?_⟩) hHeld ?_
            rotate_left
            · intro w' hSw
              (try dsimp only at hSw)
              go_simp
              try with_reducible rfl
            try simp only [Act.put, List.setIfInBounds_toArray, List.set_cons_zero, List.set_cons_succ]
            refine wpAnyT_take (i := 3) (v := ?_) rfl (by decide) (by kernel_rfl) (by kernel_rfl) (by kernel_rfl) (by kernel_rfl) (fun _ _ _ h => h) (Or.inl ⟨by rfl, ?_⟩) hHeld ?_
            rotate_left
            · intro w' hSw
              (try dsimp only at hSw)
              go_simp
              try with_reducible rfl
            try simp only [Act.put, List.setIfInBounds_toArray, List.set_cons_zero, List.set_cons_succ]
            refine wpAnyT_take (i := 4) (v := ?_) rfl (by decide) (by kernel_rfl) (by kernel_rfl) (by kernel_rfl) (by kernel_rfl) (fun _ _ _ h => h) (Or.inl ⟨by rfl, ?_⟩) hHeld ?_
            rotate_left
            · intro w' hSw
              (try dsimp only at hSw)
              go_simp
              try with_reducible rfl
            try simp only [Act.put, List.setIfInBounds_toArray, List.set_cons_zero, List.set_cons_succ]
            refine wpAnyT_take (i := 5) (v := ?_) rfl (by decide) (by kernel_rfl) (by kernel_rfl) (by kernel_rfl) (by kernel_rfl) (fun _ _ _ h => h) (Or.inl ⟨by rfl, ?_⟩) hHeld ?_
            rotate_left
            · intro w' hSw
              (try dsimp only at hSw)
              go_simp
              try with_reducible rfl
            try simp only [Act.put, List.setIfInBounds_toArray, List.set_cons_zero, List.set_cons_succ]
            refine wpAnyT_take (i := 6) (v := ?_) rfl (by decide) (by kernel_rfl) (by kernel_rfl) (by kernel_rfl) (by kernel_rfl) (fun _ _ _ h => h) (Or.inl ⟨by rfl, ?_⟩) hHeld ?_
            rotate_left
            · intro w' hSw
              (try dsimp only at hSw)
              go_simp
              try with_reducible rfl
            try simp only [Act.put, List.setIfInBounds_toArray, List.set_cons_zero, List.set_cons_succ]
            refine wpAnyT_take (i := 7) (v := ?_) rfl (by decide) (by kernel_rfl) (by kernel_rfl) (by kernel_rfl) (by kernel_rfl) (fun _ _ _ h => h) (Or.inl ⟨by rfl, ?_⟩) hHeld ?_
            rotate_left
            · intro w' hSw
              (try dsimp only at hSw)
              go_simp
              try with_reducible rfl
            try simp only [Act.put, List.setIfInBounds_toArray, List.set_cons_zero, List.set_cons_succ]
            refine wpAnyT_take (i := 8) (v := ?_) rfl (by decide) (by kernel_rfl) (by kernel_rfl) (by kernel_rfl) (by kernel_rfl) (fun _ _ _ h => h) (Or.inl ⟨by rfl, ?_⟩) hHeld ?_
            rotate_left
            · intro w' hSw
              (try dsimp only at hSw)
              go_simp
              try with_reducible rfl
            try simp only [Act.put, List.setIfInBounds_toArray, List.set_cons_zero, List.set_cons_succ]
            refine wpAnyT_head (i := 9) (by kernel_rfl) rfl (fun K hK => ?_)
            go_simp
            refine hK.out _ _ (by (first | exact ⟨t1x, f3⟩ | (refine ⟨?_, ?_⟩ <;> refine hcellV.out _ _ _ ?_ (by first | omega | (simp <;> omega)) (by assumption) <;> (repeat (first  | with_reducible exact Below.refl _ _ | with_reducible refine Below.drew ?_ | (with_reducible refine Below.alloc ?_ ?_ _; rotate_left; · first | omega | (simp <;> omega)) | (with_reducible refine Below.setCell ?_ ?_ _; rotate_left; · first | omega | (simp <;> omega))))))) (fun hHeld => ?_)
            clear hK K
            try simp only [Act.put, List.setIfInBounds_toArray, List.set_cons_zero, List.set_cons_succ]
            refine wpAnyT_head (i := 10) (by kernel_rfl) rfl (fun K hK => ?_)
            refine step_append_tail (by rfl) _ _ _ (by rfl) w1.heap.size 3 i1 (.int .i64 0) 8 Tryd.underlying40 hi1 hz0 hz1 hz2 rfl (.slice Aa LJ ca) LJ (nums fl) (by rfl) (hro.out.drewT.alloc _) _ 1 (.int .i64 x) (by rfl) (by first | exact (Blk.new _ _ _).cell 0 | go_simp) (by simp [Value.oneCell']) (by first | omega | (simp <;> omega)) (by first | omega | (simp <;> omega)) (Nat.le_trans hlowV.out.size (by simp)) ?_
            intro v' w6 ho6 hg6 hat6
            obtain ⟨A5, c5, rfl, _, _⟩ := ho6.slice_
            obtain ⟨f1, f2, f3, f4⟩ := hfl.out w6 _ ho6 (grown_of hg6 rfl rfl rfl rfl) hat6
            obtain ⟨t0x, t1x⟩ := pair_cells f2
            replace f1 := Lib.hid f1
            replace f2 := Lib.hid f2
            clear ho6 hg6 hat6
            refine hK.out _ _ (by (first | exact ⟨t1x, f3⟩ | (refine ⟨?_, ?_⟩ <;> refine hcellV.out _ _ _ ?_ (by first | omega | (simp <;> omega)) (by assumption) <;> (repeat (first  | with_reducible exact Below.refl _ _ | with_reducible refine Below.drew ?_ | (with_reducible refine Below.alloc ?_ ?_ _; rotate_left; · first | omega | (simp <;> omega)) | (with_reducible refine Below.setCell ?_ ?_ _; rotate_left; · first | omega | (simp <;> omega))))))) (fun hHeld => ?_)
            clear hK K
            try simp only [Act.put, List.setIfInBounds_toArray, List.set_cons_zero, List.set_cons_succ]
            refine wpAnyT_tail (i := 11) (by kernel_rfl) (by decide) rfl (fun K hK => ?_)
            go_simp
            refine hK.out _ _ ?_
            clear hK K
            try simp only [Act.put, List.setIfInBounds_toArray, List.set_cons_zero, List.set_cons_succ]
            refine wpAnyT_tail (i := 12) (by kernel_rfl) (by decide) rfl (fun K hK => ?_)
            go_simp
            refine hK.out _ _ ?_
            clear hK K
            try simp only [Act.put, List.setIfInBounds_toArray, List.set_cons_zero, List.set_cons_succ]
            refine wpAnyT_done (by kernel_rfl) ?_ _
            go_wp2
            go_roundw
            case rel =>
              have hkk2 := hkk.out
              exact ⟨j + 1, _, by go_num, by omega, f1.out⟩
            case measure =>
              have hkk2 := hkk.out
              simp [intOf] <;> omega
          · have hje : j = LN := by omega
            have hkv : (LN : Int) - 1 - (j : Nat) = -1 := by omega
            rw [hkv]
            rw [hje] at hI
            clear hje hkv hj hjn j
            have hlenF : (turnF needs i LN i).length = LN + LN := by rw [turnF_len needs i LN (by omega), hLN]
            have hro := hI.rows.rows i hi
            obtain ⟨Aa, ca, er, hca, hcm2⟩ := hro.slice_
            rw [er, hlenF] at hro
            rw [hlenF] at er hca
            obtain ⟨hct, hcb⟩ := hro.cut (l := LN) (by omega)
            have hz : ((turnF needs i LN i).drop LN).length = LN + LN - LN := by rw [List.length_drop, hlenF]
            have hzn : (nums (turnF needs i LN i)).drop LN = nums ((turnF needs i LN i).drop LN) := by simp [nums, List.map_drop]
            rw [hzn] at hct
            have hIc := (hI.cut (zs := (turnF needs i LN i).drop LN) hi (by rw [hz]; exact hct) (by rw [er]; exact hcb)).drewT
            have hcF : (fun k => if k = i then (turnF needs i LN i).drop LN else turnF needs i LN k) = cutF needs i := by rw [← hLN]; exact turnF_cut needs i
            rw [hcF] at hIc
            rw [show LN + LN - LN = LN by omega] at hIc
            obtain ⟨v0, fr0, hg2s, hxbs⟩ := hI.at_ hi
            obtain ⟨v0d, fr1, _, _⟩ := hI.drewT.at_ hi
            rw [er] at v0 v0d
            obtain ⟨LJ, hLJ⟩ : ∃ LJ, LJ = LN + LN := ⟨_, rfl⟩
            rw [← hLJ] at v0 v0d hca er
            have hcl : LN ≤ ca := by omega
            have hcl2 : ((LN : Int) ≤ (ca : Int)) := by omega
            have hcl3 : ((LN : Int) ≤ (LJ : Int)) := by omega
            have hjl : LJ - LN = LN := by omega
            have hLJb : LJ ≤ 120 := by omega
            have a0 : (⟨g2, 0, none⟩ : Addr).add i = ⟨g2, i, none⟩ := addT g2 0 i |>.trans (by rw [Nat.zero_add])
            obtain ⟨t0, t1⟩ := pair_cells hI.box
            have hlowV := hI.low
            have hcellV := Lib.hid (fun (W : World) (p : Addr) (v : Value) (h : Below wr.heap.size wr W) (hp : p.block < wr.heap.size) (hv : wr.cell? p = some v) => (h.cell hp).trans hv)
            have hads : (ad.add i).block < wr.heap.size := by rw [block_of_add]; exact Nat.lt_of_lt_of_le hadb hBw.size
            have hwrs : w.heap.size < wr.heap.size := Nat.lt_of_lt_of_le (show w.heap.size < X.heap.size by omega) hBX.size
            replace hro := Lib.hid hro
            replace hct := Lib.hid hct
            replace hcb := Lib.hid hcb
            replace hz := Lib.hid hz
            replace hzn := Lib.hid hzn
            replace hIc := Lib.hid hIc
            replace hcF := Lib.hid hcF
            replace hlenF := Lib.hid hlenF
            replace er := Lib.hid er
            replace hI := Lib.hid hI
            replace hlowV := Lib.hid hlowV
            replace hBX := Lib.hid hBX
            replace hBw := Lib.hid hBw
            replace hLJ := Lib.hid hLJ
            replace hLN := Lib.hid hLN
            go_upto_region 12 with fail
            refine wp_region_T 15 (S := (fun w' => w'.cell? ⟨xb, 1, none⟩ = some (.slice (some ⟨g2, 0, none⟩) m c2) ∧ w'.cell? ⟨g2, i, none⟩ = some (.slice Aa LJ ca) ∧ w'.cell? ⟨w.heap.size, 1, none⟩ = some (.slice (some ad) m mc) ∧ w'.cell? (ad.add i) = some (.slice A0 LN c0))) (by kernel_rfl) (by (refine ⟨?_, ?_, ?_, ?_⟩ <;> refine hcellV.out _ _ _ ?_ (by first | omega | (simp <;> omega)) (by assumption) <;> (repeat (first  | with_reducible exact Below.refl _ _ | with_reducible refine Below.drew ?_ | (with_reducible refine Below.alloc ?_ ?_ _; rotate_left; · first | omega | (simp <;> omega)) | (with_reducible refine Below.setCell ?_ ?_ _; rotate_left; · first | omega | (simp <;> omega)))))) (fun hHeld => ?_)
            refine wpAnyT_take (i := 0) (v := ?_) rfl (by decide) (by kernel_rfl) (by kernel_rfl) (by kernel_rfl) (by kernel_rfl) (fun _ _ _ h => h) (Or.inl ⟨by rfl, ?_⟩) hHeld ?_
            rotate_left
            · intro w' hSw
              (try dsimp only at hSw)
              go_simp
              try with_reducible rfl
            try simp only [Act.put, List.setIfInBounds_toArray, List.set_cons_zero, List.set_cons_succ]
            refine wpAnyT_take (i := 1) (v := ?_) rfl (by decide) (by kernel_rfl) (by kernel_rfl) (by kernel_rfl) (by kernel_rfl) (fun _ _ _ h => h) (Or.inl ⟨by rfl, ?_⟩) hHeld ?_
            rotate_left
            · intro w' hSw
              (try dsimp only at hSw)
              go_simp
              try with_reducible rfl
            try simp only [Act.put, List.setIfInBounds_toArray, List.set_cons_zero, List.set_cons_succ]
            refine wpAnyT_take (i := 2) (v := ?_) rfl (by decide) (by kernel_rfl) (by kernel_rfl) (by kernel_rfl) (by kernel_rfl) (fun _ _ _ h => h) (Or.inl ⟨by rfl, ?_⟩) hHeld ?_
            rotate_left
            · intro w' hSw
              (try dsimp only at hSw)
              go_simp
              try with_reducible rfl
            try simp only [Act.put, List.setIfInBounds_toArray, List.set_cons_zero, List.set_cons_succ]
            refine wpAnyT_take (i := 3) (v := ?_) rfl (by decide) (by kernel_rfl) (by kernel_rfl) (by kernel_rfl) (by kernel_rfl) (fun _ _ _ h => h) (Or.inl ⟨by rfl, ?_⟩) hHeld ?_
            rotate_left
            · intro w' hSw
              (try dsimp only at hSw)
              go_simp
              try with_reducible rfl
            try simp only [Act.put, List.setIfInBounds_toArray, List.set_cons_zero, List.set_cons_succ]
            refine wpAnyT_take (i := 4) (v := ?_) rfl (by decide) (by kernel_rfl) (by kernel_rfl) (by kernel_rfl) (by kernel_rfl) (fun _ _ _ h => h) (Or.inl ⟨by rfl, ?_⟩) hHeld ?_
            rotate_left
            · intro w' hSw
              (try dsimp only at hSw)
              go_simp
              try with_reducible rfl
            try simp only [Act.put, List.setIfInBounds_toArray, List.set_cons_zero, List.set_cons_succ]
            refine wpAnyT_take (i := 5) (v := ?_) rfl (by decide) (by kernel_rfl) (by kernel_rfl) (by kernel_rfl) (by kernel_rfl) (fun _ _ _ h => h) (Or.inl ⟨by rfl, ?_⟩) hHeld ?_
            rotate_left
            · intro w' hSw
              (try dsimp only at hSw)
              go_simp
              try with_reducible rfl
            try simp only [Act.put, List.setIfInBounds_toArray, List.set_cons_zero, List.set_cons_succ]
            refine wpAnyT_take (i := 6) (v := ?_) rfl (by decide) (by kernel_rfl) (by kernel_rfl) (by kernel_rfl) (by kernel_rfl) (fun _ _ _ h => h) (Or.inl ⟨by rfl, ?_⟩) hHeld ?_
            rotate_left
            · intro w' hSw
              (try dsimp only at hSw)
              go_simp
              try with_reducible rfl
            try simp only [Act.put, List.setIfInBounds_toArray, List.set_cons_zero, List.set_cons_succ]
            refine wpAnyT_take (i := 7) (v := ?_) rfl (by decide) (by kernel_rfl) (by kernel_rfl) (by kernel_rfl) (by kernel_rfl) (fun _ _ _ h => h) (Or.inl ⟨by rfl, ?_⟩) hHeld ?_
            rotate_left
            · intro w' hSw
              (try dsimp only at hSw)
              go_simp
              try with_reducible rfl
            try simp only [Act.put, List.setIfInBounds_toArray, List.set_cons_zero, List.set_cons_succ]
            refine wpAnyT_take (i := 8) (v := ?_) rfl (by decide) (by kernel_rfl) (by kernel_rfl) (by kernel_rfl) (by kernel_rfl) (fun _ _ _ h => h) (Or.inl ⟨by rfl, ?_⟩) hHeld ?_
            rotate_left
            · intro w' hSw
              (try dsimp only at hSw)
              go_simp
              try with_reducible rfl
            try simp only [Act.put, List.setIfInBounds_toArray, List.set_cons_zero, List.set_cons_succ]
            refine wpAnyT_take (i := 9) (v := ?_) rfl (by decide) (by kernel_rfl) (by kernel_rfl) (by kernel_rfl) (by kernel_rfl) (fun _ _ _ h => h) (Or.inl ⟨by rfl, ?_⟩) hHeld ?_
            rotate_left
            · intro w' hSw
              (try dsimp only at hSw)
              go_simp
              try with_reducible rfl
            try simp only [Act.put, List.setIfInBounds_toArray, List.set_cons_zero, List.set_cons_succ]
            refine wpAnyT_take (i := 10) (v := ?_) rfl (by decide) (by kernel_rfl) (by kernel_rfl) (by kernel_rfl) (by kernel_rfl) (fun _ _ _ h => h) (Or.inl ⟨by rfl, ?_⟩) hHeld ?_
            rotate_left
            · intro w' hSw
              (try dsimp only at hSw)
              go_simp
              try with_reducible rfl
            try simp only [Act.put, List.setIfInBounds_toArray, List.set_cons_zero, List.set_cons_succ]
            refine wpAnyT_take (i := 11) (v := ?_) rfl (by decide) (by kernel_rfl) (by kernel_rfl) (by kernel_rfl) (by kernel_rfl) (fun _ _ _ h => h) (Or.inl ⟨by rfl, ?_⟩) hHeld ?_
            rotate_left
            · intro w' hSw
              (try dsimp only at hSw)
              go_simp
              try with_reducible rfl
            try simp only [Act.put, List.setIfInBounds_toArray, List.set_cons_zero, List.set_cons_succ]
            refine wpAnyT_take (i := 12) (v := ?_) rfl (by decide) (by kernel_rfl) (by kernel_rfl) (by kernel_rfl) (by kernel_rfl) (fun _ _ _ h => h) (Or.inl ⟨by rfl, ?_⟩) hHeld ?_
            rotate_left
            · intro w' hSw
              (try dsimp only at hSw)
              go_simp
              try with_reducible rfl
            try simp only [Act.put, List.setIfInBounds_toArray, List.set_cons_zero, List.set_cons_succ]
            refine wpAnyT_take (i := 13) (v := ?_) rfl (by decide) (by kernel_rfl) (by kernel_rfl) (by kernel_rfl) (by kernel_rfl) (fun _ _ _ h => h) (Or.inl ⟨by rfl, ?_⟩) hHeld ?_
            rotate_left
            · intro w' hSw
              (try dsimp only at hSw)
              go_simp
              try with_reducible rfl
            try simp only [Act.put, List.setIfInBounds_toArray, List.set_cons_zero, List.set_cons_succ]
            refine wpAnyT_take (i := 14) (v := ?_) rfl (by decide) (by kernel_rfl) (by kernel_rfl) (by kernel_rfl) (by kernel_rfl) (fun _ _ _ h => h) (Or.inl ⟨by rfl, ?_⟩) hHeld ?_
            rotate_left
            · intro w' hSw
              (try dsimp only at hSw)
              go_simp
              try with_reducible rfl
            try simp only [Act.put, List.setIfInBounds_toArray, List.set_cons_zero, List.set_cons_succ]
            refine wpAnyT_tail (i := 15) (by kernel_rfl) (by decide) rfl (fun K hK => ?_)
            go_simp
            refine hK.out _ _ ?_
            clear hK K
            try simp only [Act.put, List.setIfInBounds_toArray, List.set_cons_zero, List.set_cons_succ]
            refine wpAnyT_tail (i := 16) (by kernel_rfl) (by decide) rfl (fun K hK => ?_)
            go_simp
            refine hK.out _ _ ?_
            clear hK K
            try simp only [Act.put, List.setIfInBounds_toArray, List.set_cons_zero, List.set_cons_succ]
            refine wpAnyT_done (by kernel_rfl) ?_ _
            have hIc := hIc.out
            go_upto_region 13 with fail
            generalize (World.drew (wr.setCell ⟨g2, i, none⟩ (.slice (if ca = LN then Aa else Option.map (fun x => x.add LN) Aa) LN (ca - LN)))) = V at *
            obtain ⟨row2, hIc⟩ : ∃ row2, TurnI w1 xb m l c1 c2 A1 (some ⟨g2, 0, none⟩) consts (cutF needs i) row2 V := ⟨_, hIc⟩
            clear hro hct hcb hI hlowV hcellV hBX hBw t0 t1 v0 v0d fr0 fr1 z_0 z_1 z_r er hcl hcl2 hcl3 hjl hLJb hca hcm2 hLJ
            have hBX : Below X.heap.size X V := hb1.out.trans (hIc.low.mono hb1.out.size)
            have hBw := hup.out _ hBX
            have z_0 := hcell.out _ _ _ (hBX) (by simp <;> omega) s0
            have z_1 := hcell.out _ _ _ (hBX) (by simp <;> omega) s1
            have z_r : V.cell? (ad.add i) = some (.slice A0 LN c0) := (hBw.cell (by rw [block_of_add]; exact hadb)).trans hcr
            by_cases hL0 : LN = 0
            · subst hL0
              have hfin := cutF_none needs i hLN.out
              rw [hfin] at hIc
              replace hIc := Lib.hid hIc
              replace hBX := Lib.hid hBX
              replace hBw := Lib.hid hBw
              replace hfin := Lib.hid hfin
              go_wp2
              go_roundw
              case rel => exact ⟨i + 1, _, by go_num, by omega, hIc.out⟩
              case measure => simp [natOf] <;> omega
            · have hgt : ((LN : Int) > 0) := by omega
              have hgt2 : ((0 : Int) < (LN : Int)) := by omega
              obtain ⟨x, hx⟩ : ∃ x, (needs.getD i [])[0]? = some x := ⟨_, List.getElem?_eq_getElem (by rw [hLN.out]; omega)⟩
              have hxr : (nums (needs.getD i []))[0]? = some (.int .i64 x) := by unfold nums; rw [List.getElem?_map, hx]; rfl
              obtain ⟨ad2, hA0, hadb2, hread⟩ := hrd.out.2 (by omega)
              subst hA0
              have z_x : V.cell? ad2 = some (.int .i64 x) := (hBw.cell hadb2).trans (by have := hread 0 _ hxr; exact this)
              have hlenF : (cutF needs i i).length = LN := by rw [cutF_at, List.length_reverse]; exact hLN.out
              have hstep : (fun k => if k = i then cutF needs i i ++ [x] else cutF needs i k) = turnF needs (i + 1) 0 := cutF_first needs i hx
              have hro := hIc.rows.rows i hi
              obtain ⟨Aa, ca, er, hca, hcm2⟩ := hro.slice_
              have hfl := fun (w6 : World) (v' : Value) => @TurnI.grow w1 V w6 xb m l c1 c2 g2 i A1 consts _ _ (.cells [Value.int .i64 x].toArray 3) v' x hIc hi
              obtain ⟨v0, fr0, hg2s, hxbs⟩ := hIc.at_ hi
              rw [er] at v0 hro hfl
              have a0 : (⟨g2, 0, none⟩ : Addr).add i = ⟨g2, i, none⟩ := addT g2 0 i |>.trans (by rw [Nat.zero_add])
              obtain ⟨t0, t1⟩ := pair_cells hIc.box
              have hlowV := hIc.low
              have e9 : ∀ z : List Int, nums (z ++ [x]) = nums z ++ [.int .i64 x] := fun z => by simp [nums]
              simp only [e9] at hfl
              clear e9
              have hcellV := Lib.hid (fun (W : World) (p : Addr) (v : Value) (h : Below V.heap.size V W) (hp : p.block < V.heap.size) (hv : V.cell? p = some v) => (h.cell hp).trans hv)
              rw [hstep] at hfl
              rw [hlenF] at hfl hro v0 er hca
              obtain ⟨LJ, hLJ⟩ : ∃ LJ, LJ = LN := ⟨_, rfl⟩
              rw [← hLJ] at hfl hro v0 er hca
              have hLJb : LJ ≤ 120 := by omega
              obtain ⟨fl, hfl0⟩ : ∃ fl, fl = cutF needs i i := ⟨_, rfl⟩
              rw [← hfl0] at hfl hro
              replace hread := Lib.hid hread
              replace hfl := Lib.hid hfl
              replace hro := Lib.hid hro
              replace hlowV := Lib.hid hlowV
              replace hBX := Lib.hid hBX
              replace hBw := Lib.hid hBw
              replace hIc := Lib.hid hIc
              replace er := Lib.hid er
              replace hstep := Lib.hid hstep
              replace hlenF := Lib.hid hlenF
              replace hfl0 := Lib.hid hfl0
              replace hxr := Lib.hid hxr
              replace hx := Lib.hid hx
              replace hLJ := Lib.hid hLJ
              go_upto_region 15 with fail
              refine wp_region_T 11 (S := (fun w' => w'.cell? ⟨xb, 1, none⟩ = some (.slice (some ⟨g2, 0, none⟩) m c2) ∧ w'.cell? ⟨g2, i, none⟩ = some (.slice Aa LJ ca))) (by kernel_rfl) (by (first | exact ⟨t1x, f3⟩ | (refine ⟨?_, ?_⟩ <;> refine hcellV.out _ _ _ ?_ (by first | omega | (simp <;> omega)) (by assumption) <;> (repeat (first  | with_reducible exact Below.refl _ _ | with_reducible refine Below.drew ?_ | (with_reducible refine Below.alloc ?_ ?_ _; rotate_left; · first | omega | (simp <;> omega)) | (with_reducible refine Below.setCell ?_ ?_ _; rotate_left; · first | omega | (simp <;> omega))))))) (fun hHeld => ?_)
              refine wpAnyT_take (i := 0) (v := ?_) rfl (by decide) (by kernel_rfl) (by kernel_rfl) (by kernel_rfl) (by kernel_rfl) (fun _ _ _ h => h) (Or.inl ⟨by rfl, ?_⟩) hHeld ?_
              rotate_left
              · intro w' hSw
                (try dsimp only at hSw)
                go_simp
                try with_reducible rfl
              try simp only [Act.put, List.setIfInBounds_toArray, List.set_cons_zero, List.set_cons_succ]
              refine wpAnyT_take (i := 1) (v := ?_) rfl (by decide) (by kernel_rfl) (by kernel_rfl) (by kernel_rfl) (by kernel_rfl) (fun _ _ _ h => h) (Or.inl ⟨by rfl, ?_⟩) hHeld ?_
              rotate_left
              · intro w' hSw
                (try dsimp only at hSw)
                go_simp
                try with_reducible rfl
              try simp only [Act.put, List.setIfInBounds_toArray, List.set_cons_zero, List.set_cons_succ]
              refine wpAnyT_take (i := 2) (v := ?_) rfl (by decide) (by kernel_rfl) (by kernel_rfl) (by kernel_rfl) (by kernel_rfl) (fun _ _ _ h => h) (Or.inl ⟨by rfl, ?_⟩) hHeld ?_
              rotate_left
              · intro w' hSw
                (try dsimp only at hSw)
                go_simp
                try with_reducible rfl
              try simp only [Act.put, List.setIfInBounds_toArray, List.set_cons_zero, List.set_cons_succ]
              refine wpAnyT_take (i := 3) (v := ?_) rfl (by decide) (by kernel_rfl) (by kernel_rfl) (by kernel_rfl) (by kernel_rfl) (fun _ _ _ h => h) (Or.inl ⟨by rfl, ?_⟩) hHeld ?_
              rotate_left
              · intro w' hSw
                (try dsimp only at hSw)
                go_simp
                try with_reducible rfl
              try simp only [Act.put, List.setIfInBounds_toArray, List.set_cons_zero, List.set_cons_succ]
              refine wpAnyT_take (i := 4) (v := ?_) rfl (by decide) (by kernel_rfl) (by kernel_rfl) (by kernel_rfl) (by kernel_rfl) (fun _ _ _ h => h) (Or.inl ⟨by rfl, ?_⟩) hHeld ?_
              rotate_left
              · intro w' hSw
                (try dsimp only at hSw)
                go_simp
                try with_reducible rfl
              try simp only [Act.put, List.setIfInBounds_toArray, List.set_cons_zero, List.set_cons_succ]
              refine wpAnyT_take (i := 5) (v := ?_) rfl (by decide) (by kernel_rfl) (by kernel_rfl) (by kernel_rfl) (by kernel_rfl) (fun _ _ _ h => h) (Or.inl ⟨by rfl, ?_⟩) hHeld ?_
              rotate_left
              · intro w' hSw
                (try dsimp only at hSw)
                go_simp
                try with_reducible rfl
              try simp only [Act.put, List.setIfInBounds_toArray, List.set_cons_zero, List.set_cons_succ]
              refine wpAnyT_take (i := 6) (v := ?_) rfl (by decide) (by kernel_rfl) (by kernel_rfl) (by kernel_rfl) (by kernel_rfl) (fun _ _ _ h => h) (Or.inl ⟨by rfl, ?_⟩) hHeld ?_
              rotate_left
              · intro w' hSw
                (try dsimp only at hSw)
                go_simp
                try with_reducible rfl
              try simp only [Act.put, List.setIfInBounds_toArray, List.set_cons_zero, List.set_cons_succ]
              refine wpAnyT_take (i := 7) (v := ?_) rfl (by decide) (by kernel_rfl) (by kernel_rfl) (by kernel_rfl) (by kernel_rfl) (fun _ _ _ h => h) (Or.inl ⟨by rfl, ?_⟩) hHeld ?_
              rotate_left
              · intro w' hSw
                (try dsimp only at hSw)
                go_simp
                try with_reducible rfl
              try simp only [Act.put, List.setIfInBounds_toArray, List.set_cons_zero, List.set_cons_succ]
              refine wpAnyT_take (i := 8) (v := ?_) rfl (by decide) (by kernel_rfl) (by kernel_rfl) (by kernel_rfl) (by kernel_rfl) (fun _ _ _ h => h) (Or.inl ⟨by rfl, ?_⟩) hHeld ?_
              rotate_left
              · intro w' hSw
                (try dsimp only at hSw)
                go_simp
                try with_reducible rfl
              try simp only [Act.put, List.setIfInBounds_toArray, List.set_cons_zero, List.set_cons_succ]
              refine wpAnyT_head (i := 9) (by kernel_rfl) rfl (fun K hK => ?_)
              go_simp
              refine hK.out _ _ (by (first | exact ⟨t1x, f3⟩ | (refine ⟨?_, ?_⟩ <;> refine hcellV.out _ _ _ ?_ (by first | omega | (simp <;> omega)) (by assumption) <;> (repeat (first  | with_reducible exact Below.refl _ _ | with_reducible refine Below.drew ?_ | (with_reducible refine Below.alloc ?_ ?_ _; rotate_left; · first | omega | (simp <;> omega)) | (with_reducible refine Below.setCell ?_ ?_ _; rotate_left; · first | omega | (simp <;> omega))))))) (fun hHeld => ?_)
              clear hK K
              try simp only [Act.put, List.setIfInBounds_toArray, List.set_cons_zero, List.set_cons_succ]
              refine wpAnyT_head (i := 10) (by kernel_rfl) rfl (fun K hK => ?_)
              refine step_append_tail (by rfl) _ _ _ (by rfl) w1.heap.size 3 i1 (.int .i64 0) 8 Tryd.underlying40 hi1 hz0 hz1 hz2 rfl (.slice Aa LJ ca) LJ (nums fl) (by rfl) (hro.out.drewT.alloc _) _ 1 (.int .i64 x) (by rfl) (by first | exact (Blk.new _ _ _).cell 0 | go_simp) (by simp [Value.oneCell']) (by first | omega | (simp <;> omega)) (by first | omega | (simp <;> omega)) (Nat.le_trans hlowV.out.size (by simp)) ?_
              intro v' w6 ho6 hg6 hat6
              obtain ⟨A5, c5, rfl, _, _⟩ := ho6.slice_
              obtain ⟨f1, f2, f3, f4⟩ := hfl.out w6 _ ho6 (grown_of hg6 rfl rfl rfl rfl) hat6
              obtain ⟨t0x, t1x⟩ := pair_cells f2
              replace f1 := Lib.hid f1
              replace f2 := Lib.hid f2
              clear ho6 hg6 hat6
              refine hK.out _ _ (by (first | exact ⟨t1x, f3⟩ | (refine ⟨?_, ?_⟩ <;> refine hcellV.out _ _ _ ?_ (by first | omega | (simp <;> omega)) (by assumption) <;> (repeat (first  | with_reducible exact Below.refl _ _ | with_reducible refine Below.drew ?_ | (with_reducible refine Below.alloc ?_ ?_ _; rotate_left; · first | omega | (simp <;> omega)) | (with_reducible refine Below.setCell ?_ ?_ _; rotate_left; · first | omega | (simp <;> omega))))))) (fun hHeld => ?_)
              clear hK K
              try simp only [Act.put, List.setIfInBounds_toArray, List.set_cons_zero, List.set_cons_succ]
              refine wpAnyT_tail (i := 11) (by kernel_rfl) (by decide) rfl (fun K hK => ?_)
              go_simp
              refine hK.out _ _ ?_
              clear hK K
              try simp only [Act.put, List.setIfInBounds_toArray, List.set_cons_zero, List.set_cons_succ]
              refine wpAnyT_tail (i := 12) (by kernel_rfl) (by decide) rfl (fun K hK => ?_)
              go_simp
              refine hK.out _ _ ?_
              clear hK K
              try simp only [Act.put, List.setIfInBounds_toArray, List.set_cons_zero, List.set_cons_succ]
              refine wpAnyT_done (by kernel_rfl) ?_ _
              go_wp2
              go_roundw
              case rel => exact ⟨i + 1, _, by go_num, by omega, f1.out⟩
              case measure => simp [natOf] <;> omega
      · have hlti : ¬ ((i : Int) < (m : Int)) := by omega
        obtain rfl : i = m := by omega
        have z_0 := hcell.out _ _ _ (hBX) (by simp <;> omega) s0
        have z_1 := hcell.out _ _ _ (hBX) (by simp <;> omega) s1
        rw [turnF_end needs hN.out] at hI
        have hC2 : Reads wr wr.heap.size 2 A1 l (lbVals consts) := Reads.of_own hI.labs
        have hD2 : NRows wr wr.heap.size A2 i (needs.map turnL) := hI.rows.nrows (by rw [List.length_map]; exact hN.out)
        have hkx := hI.box
        have hc3 := (hc.out.below hBw).more hBw.size
        have hd3 := (hd.out.below hBw).more hBw.size
        replace hkx := Lib.hid hkx
        replace hC2 := Lib.hid hC2
        replace hD2 := Lib.hid hD2
        replace hBX := Lib.hid hBX
        replace hBw := Lib.hid hBw
        replace hc3 := Lib.hid hc3
        replace hd3 := Lib.hid hd3
        clear hI
        cases hq : sysB up consts needs with
        | false =>
          have hq2 : sysB up consts (needs.map turnL) = false := by rw [sysB_turn]; exact hq
          replace hq := Lib.hid hq
          replace hq2 := Lib.hid hq2
          go_wp2_with fail
          refine (hSolN.out _ hBw.out _ _ _ _ _ hc3.out hd3.out hq.out).mono ?_
          rintro e w3 ⟨rfl, hb3⟩
          have hBx3 := Lib.hid (hBX.out.trans (hb3.mono hBX.out.size))
          obtain ⟨b0, b1⟩ := pair_cells (hkx.out.below hb3 hkx.out.lt)
          have hC3 := Lib.hid ((hC2.out.below hb3).more hb3.size)
          have hD3 := Lib.hid ((hD2.out.below hb3).more hb3.size)
          clear hb3 z_0 z_1 t0 t1
          go_wp2_with fail
          refine (hSolN.out _ (hup.out _ hBx3.out) _ _ _ _ _ hC3.out hD3.out hq2.out).mono ?_
          rintro e w4 ⟨rfl, hb4⟩
          have hBx4 := Lib.hid (hBx3.out.trans (hb4.mono hBx3.out.size))
          clear hb4 b0 b1
          go_wp2_with fail
          refine (hSameN.out _).mono ?_
          rintro e w5 ⟨rfl, hb5⟩
          have hBx5 := Lib.hid (hBx4.out.trans (hb5.mono hBx4.out.size))
          clear hb5
          have hsm : sameB [] [] = true := rfl
          rw [hsm]
          clear hsm
          go_wp2_with fail
          refine (hAw.out _ (hup.out _ hBx5.out)).mono ?_
          rintro e0 wz ⟨rfl, hbz⟩
          have hbz := Lib.hid (hBx5.out.trans (hbz.mono hBx5.out.size))
          go_wp2
          go_ret
          exact ⟨rfl, hup.out _ hbz.out⟩
        | true =>
          obtain ⟨N, rfl, hS⟩ := sysB_sys hM.out hq
          have hNm : N.length = i := by have := hN.out; rw [List.length_map] at this; exact this
          have hli : l = i := by have := hS.len; rw [hl.out] at this; omega
          have hST := sys_turn hS
          have hq2 : sysB up consts ((N.map turnL).map casts) = true := by rw [← turn_casts, sysB_turn]; exact hq
          have h6 : ∀ k, k < i → (N.getD k []).length ≤ 60 := fun k hk => by
            have h := hlen60.out k hk
            rw [castss_getD, casts_len'] at h
            exact h
          have hfan : fanF N ≤ 1000000 := fan_61 (by omega) fun k hk => by have := h6 k (by omega); omega
          have hfan2 : fanF (N.map turnL) ≤ 1000000 := fan_61 (by rw [List.length_map]; omega) fun k hk => by
            rw [List.length_map] at hk
            have := h6 k (by omega)
            rw [turn_getD]
            exact Nat.le_trans (turnL_len _) (by omega)
          rw [turn_casts] at hD2
          have hSol := fun (W : World) (hb : Below w.heap.size w W) (C' D' : Option Addr) (lc' mc' : Nat) (h1 : Reads W W.heap.size 2 C' l (lbVals consts)) (h2 : NRows W W.heap.size D' i (N.map casts)) => solve_yes A n c up C' D' l lc' i mc' consts N W (hT.out.later hb) hn.out hn63 hM.out ((hr.out.below hb).more hb.size) hl.out (by omega) h1 hm63 h2 hq hS (fun k _ => hcm.out k) hfan
          have hSol2 := fun (W : World) (hb : Below w.heap.size w W) (C' D' : Option Addr) (lc' mc' : Nat) (h1 : Reads W W.heap.size 2 C' l (lbVals consts)) (h2 : NRows W W.heap.size D' i ((N.map turnL).map casts)) => solve_yes A n c up C' D' l lc' i mc' consts (N.map turnL) W (hT.out.later hb) hn.out hn63 hM.out ((hr.out.below hb).more hb.size) hl.out (by omega) h1 hm63 h2 hq2 hST (fun k _ => hcm.out k) hfan2
          replace hSol := Lib.hid hSol
          replace hSol2 := Lib.hid hSol2
          replace hS := Lib.hid hS
          replace hq := Lib.hid hq
          replace hq2 := Lib.hid hq2
          replace hST := Lib.hid hST
          replace h6 := Lib.hid h6
          replace hli := Lib.hid hli
          replace hNm := Lib.hid hNm
          replace hD2 := Lib.hid hD2.out
          go_wp2_with fail
          refine (hSol.out _ hBw.out _ _ _ _ hc3.out hd3.out).mono ?_
          rintro e w3 ⟨L, lL, lbs, looks, rfl, hL, hlL1, hlL2, hlst, hlbm, hlo, hhi, hb3⟩
          have hBx3 := Lib.hid (hBX.out.trans (hb3.mono hBX.out.size))
          obtain ⟨b0, b1⟩ := pair_cells (hkx.out.below hb3 hkx.out.lt)
          have hC3 := Lib.hid ((hC2.out.below hb3).more hb3.size)
          have hD3 := Lib.hid ((hD2.out.below hb3).more hb3.size)
          have hlen : lbs.length = l := hlst.lbs.len.trans hl.out
          replace hlen := Lib.hid hlen
          replace hlst := Lib.hid hlst
          replace hL := Lib.hid hL
          replace hlbm := Lib.hid hlbm
          clear hb3 z_0 z_1 t0 t1 hlo hhi
          go_wp2_with fail
          refine (hSol2.out _ (hup.out _ hBx3.out) _ _ _ _ hC3.out hD3.out).mono ?_
          rintro e w4 ⟨L2, lL2, lbs2, looks2, rfl, hM2, hlL3, hlL4, hlst2, hlbm2, hlo, hhi, hb4⟩
          have hBx4 := Lib.hid (hBx3.out.trans (hb4.mono hBx3.out.size))
          have hL4 := Lib.hid ((hL.out.below hb4).more hb4.size)
          have hlen2 : lbs2.length = l := hlst2.lbs.len.trans hl.out
          have hsm : sameB lbs lbs2 = true := by
            rw [turn_same hS.out hlst.out hlst2]
            unfold sameB
            simp
          replace hlen2 := Lib.hid hlen2
          replace hlst2 := Lib.hid hlst2
          replace hM2 := Lib.hid hM2
          replace hlbm2 := Lib.hid hlbm2
          replace hsm := Lib.hid hsm
          clear hb4 b0 b1 hlo hhi
          go_wp2_with fail
          refine (hSame.out _ L L2 lL lL2 lbs lbs2 hlen.out hlen2.out hL4.out hM2.out).mono ?_
          rintro e w5 ⟨rfl, hb5⟩
          rw [hsm.out]
          have hBx5 := Lib.hid (hBx4.out.trans (hb5.mono hBx4.out.size))
          clear hb5
          go_wp2_with fail
          refine (hAw.out _ (hup.out _ hBx5.out)).mono ?_
          rintro e0 wz ⟨rfl, hbz⟩
          have hbz := Lib.hid (hBx5.out.trans (hbz.mono hBx5.out.size))
          go_wp2
          go_ret
          exact ⟨rfl, hup.out _ hbz.out⟩
end Go.Proofs.YtleckdbdhkgcpaaDoor
