/- lattice.order: may an order be? -/
import Derived.Test.YtleckdbdhkgcpaaDoorLs
import Derived.Test.YtleckdbdhkgcpaaDoorMa
import Derived.Test.YtleckdbdhkgcpaaDoorQt
import Derived.Test.YtleckdbdhkgcpaaDoorTu
namespace Go.Idl

/-- What the program asks of one level above another. -/
def kP (up : List Nat) (i k : Nat) : Bool := subB (up.getD k 0) (up.getD i 0) && (k == i || !(le up k i))
/-- .. and of a row. -/
def rowP (up : List Nat) (i : Nat) : Bool := le up i i && (subB (up.getD i 0) (belowN up.length) && (bitsOf (up.getD i 0)).all (kP up i))
theorem sub_below (m n : Nat) (hn : n ≤ 64) : subB m (belowN n) = true ↔ ∀ k, m.testBit k = true → k < n := by
  rw [subB_iff]
  constructor
  · intro h k hk
    have := h k hk
    rw [testBit_belowN] at this
    simp at this
    omega
  · intro h k hk
    rw [testBit_belowN]
    have := h k hk
    simp
    omega
theorem rowP_eq (up : List Nat) (hM : Masks up) (h64 : up.length ≤ 64) (i : Nat) : rowP up i = rowB up i := by
  rw [Bool.eq_iff_iff]
  unfold rowP rowB
  rw [Bool.and_eq_true, Bool.and_eq_true, Bool.and_eq_true, sub_below _ _ h64, List.all_eq_true, List.all_eq_true]
  constructor
  · rintro ⟨h1, h2, h3⟩
    refine ⟨h1, fun k _ => ?_⟩
    cases hk : le up i k with
    | false => rfl
    | true =>
      have h4 := h2 k hk
      have h5 := h3 k (mem_bitsOf.2 ⟨by omega, hk⟩)
      unfold kP at h5
      rw [Bool.and_eq_true] at h5
      rw [h5.1, h5.2]
      simp [h4]
  · rintro ⟨h1, h2⟩
    refine ⟨h1, fun k hk => ?_, fun k hk => ?_⟩
    · have h3 := h2 k (by simpa using hM.le64 (a := i) hk)
      unfold le at h3
      rw [hk] at h3
      simp at h3
      exact h3.1.1
    · have hk' := (mem_bitsOf.1 hk).2
      have h3 := h2 k (by simpa using (mem_bitsOf.1 hk).1)
      unfold le at h3
      rw [hk'] at h3
      unfold kP le
      simp only [Bool.not_true, Bool.false_or, Bool.and_eq_true] at h3
      rw [h3.1.2, h3.2]
      rfl
theorem ordB_no {up : List Nat} (hM : Masks up) (h64 : up.length ≤ 64) {i : Nat} (hi : i < up.length) (h : rowP up i = false) : ordB up = false := by
  unfold ordB
  have h2 : (List.range up.length).all (rowB up) = false := by
    rw [List.all_eq_false]
    exact ⟨i, List.mem_range.2 hi, by rw [← rowP_eq up hM h64, h]; simp⟩
  rw [h2, Bool.and_false]
theorem has_le (up : List Nat) (a b : Nat) (hb : b < 64) : hasB (up.getD a 0) (b : Int) = le up a b := by
  unfold hasB le
  have h1 : decide (0 ≤ (b : Int)) = true := by simp
  have h2 : decide ((b : Int) < 64) = true := by simp; omega
  rw [h1, h2, Int.toNat_natCast]
  rfl
end Go.Idl
namespace Go.Proofs.YtleckdbdhkgcpaaDoor
open Go.RowKit Go.Shelf Go.Idl
attribute [local go_sem] Oper.semAt_some

set_option maxRecDepth 100000 in
set_option maxHeartbeats 4000000 in
theorem order_any (A : Option Addr) (n c : Nat) (up : List Nat) (w : World) (hT : Tab w) (hn : up.length = n) (hn63 : n ≤ maxLen) (hM : Masks up) (hr : Reads w w.heap.size 1 A n (u64s up)) :
    Calls Tryd.prog 48 #[.slice A n c] w fun e w' => e = .returned (.bool (ordB up)) ∧ Below w.heap.size w w' := by
  refine (callsIn_wide (n := 9)).1 ?_
  have hw0 := hT.1
  have hml : maxLen = 9223372036854775807 := rfl
  by_cases hn1 : n < 1
  · have e : ordB up = false := by unfold ordB; rw [hn]; simp; omega
    have h1 : (n : Int) < 1 := by omega
    replace hT := Lib.hid hT
    replace hr := Lib.hid hr
    replace hM := Lib.hid hM
    replace hn := Lib.hid hn
    replace e := Lib.hid e
    refine callsIn_of_wp_marks Tryd.func48 rfl trivial ?_ rfl
    simp only [Tryd.ntmps48, List.size_toArray, List.length_cons, List.length_nil, Nat.reduceAdd, Nat.reduceSub, Array.replicate_succ, Array.replicate_zero, List.push_toArray, List.append_toArray, List.nil_append, List.cons_append]
    gi_wp2
    refine leaves_of_marks (Marks.nil w.heap.size w.heap.size _) ?_
    intro W' hW'
    have hc5 := (hW'.blk _ _ _ ((Blk.new_at (w.alloc (.cells #[.slice A n c] 22)) 4 #[.bool false] (w.heap.size + 1) (by simp)))).cell0
    refine ⟨.bool false, by simp [results, Tryd.f48, go_sem, hc5], by rw [e.out], (((Below.refl _ w).alloc (Nat.le_refl _) _).alloc (by simp) _).trans hW'.below⟩
  by_cases hn64 : 64 < n
  · have e : ordB up = false := by
      unfold ordB
      rw [show decide (up.length ≤ 64) = false by simp; omega]
      simp
    have h1 : ¬ ((n : Int) < 1) := by omega
    have h2 : (64 : Int) < (n : Int) := by omega
    replace hT := Lib.hid hT
    replace hr := Lib.hid hr
    replace hM := Lib.hid hM
    replace hn := Lib.hid hn
    replace e := Lib.hid e
    refine callsIn_of_wp_marks Tryd.func48 rfl trivial ?_ rfl
    simp only [Tryd.ntmps48, List.size_toArray, List.length_cons, List.length_nil, Nat.reduceAdd, Nat.reduceSub, Array.replicate_succ, Array.replicate_zero, List.push_toArray, List.append_toArray, List.nil_append, List.cons_append]
    gi_wp2
    refine leaves_of_marks (Marks.nil w.heap.size w.heap.size _) ?_
    intro W' hW'
    have hc5 := (hW'.blk _ _ _ ((Blk.new_at (w.alloc (.cells #[.slice A n c] 22)) 4 #[.bool false] (w.heap.size + 1) (by simp)))).cell0
    refine ⟨.bool false, by simp [results, Tryd.f48, go_sem, hc5], by rw [e.out], (((Below.refl _ w).alloc (Nat.le_refl _) _).alloc (by simp) _).trans hW'.below⟩
  have h1 : ¬ ((n : Int) < 1) := by omega
  have h2 : ¬ ((64 : Int) < (n : Int)) := by omega
  have hall := belowN_lt (n : Int)
  have hsuball := fun m => sub_below m n (by omega)
  replace hT := Lib.hid hT
  replace hr := Lib.hid hr
  replace hM := Lib.hid hM
  replace hn := Lib.hid hn
  replace hsuball := Lib.hid hsuball
  refine callsIn_of_wp_marks Tryd.func48 rfl trivial ?_ rfl
  simp only [Tryd.ntmps48, List.size_toArray, List.length_cons, List.length_nil, Nat.reduceAdd, Nat.reduceSub, Array.replicate_succ, Array.replicate_zero, List.push_toArray, List.append_toArray, List.nil_append, List.cons_append]
  gi_wp2_with (refine ⟨trivial, ?_⟩; gi_at_call 56; refine (callsIn_wide.2 (below_any _ _ (by omega))).mono ?_; rintro e w' ⟨rfl, rfl⟩)
  rename_i Q' K hK
  obtain ⟨W1, hW1⟩ : ∃ W1, ((w.alloc (.cells #[.slice A n c] 22)).alloc (.cells #[.bool false] 4)) = W1 := ⟨_, rfl⟩
  rw [hW1]
  refine wpIn_loop (fun a W => ∃ (i : Nat) (ds : List Deferred) (v4 v5 v6 v21 v22 v23 v24 v25 v26 v27 v28 v29 v30 v31 v32 v33 v34 v35 v36 v37 v38 v39 v40 v41 v42 v43 v44 v45 v46 v47 v48 v49 v50 v51 v52 v53 v54 v55 v56 v57 v58 : Value), i ≤ n ∧ (∀ j, j < i → rowP up j = true) ∧
      a = { tmps := #[.slice A n c, .pointer (some ⟨w.heap.size, 0, none⟩), .pointer (some ⟨w.heap.size + 1, 0, none⟩), .int .u64 (belowN (n : Nat) : Nat), v4, v5, v6, .slice A n c, .int .i64 (n : Nat), .bool false, .bool false, .slice A n c, .int .i64 (n : Nat), .bool false, .bool false, .slice A n c, .int .i64 (n : Nat), .int .u64 (belowN (n : Nat) : Nat), .slice A n c, .int .i64 (n : Nat), .int .i64 (i : Nat), v21, v22, v23, v24, v25, v26, v27, v28, v29, v30, v31, v32, v33, v34, v35, v36, v37, v38, v39, v40, v41, v42, v43, v44, v45, v46, v47, v48, v49, v50, v51, v52, v53, v54, v55, v56, v57, v58], defers := ds } ∧
      Marks w.heap.size W.heap.size W ds ∧ Blk W w.heap.size 22 #[.slice A n c] ∧ Blk W (w.heap.size + 1) 4 #[.bool false] ∧ Below w.heap.size w W)
    (fun a _ => n - slotNat a 20) ?start ?round
  case start =>
    refine ⟨0, [], undef, undef, undef, undef, undef, undef, undef, undef, undef, undef, undef, undef, undef, undef, undef, undef, undef, undef, undef, undef, undef, undef, undef, undef, undef, undef, undef, undef, undef, undef, undef, undef, undef, undef, undef, undef, undef, undef, undef, undef, undef, by omega, fun j hj => absurd hj (by omega), rfl, Marks.nil _ _ _, ?_, ?_, ?_⟩
    · rw [← hW1]; exact (Blk.new_at w _ _ _ rfl).alloc _
    · rw [← hW1]; exact Blk.new_at _ _ _ _ (by simp)
    · rw [← hW1]; exact ((Below.refl _ w).alloc (Nat.le_refl _) _).alloc (by simp) _
  case round =>
    rintro a W ⟨i, ds, v4, v5, v6, v21, v22, v23, v24, v25, v26, v27, v28, v29, v30, v31, v32, v33, v34, v35, v36, v37, v38, v39, v40, v41, v42, v43, v44, v45, v46, v47, v48, v49, v50, v51, v52, v53, v54, v55, v56, v57, v58, hin, hrow, rfl, hMk, hb1, hb2, hB⟩
    clear hW1
    by_cases hi : i < n
    · have hlt : ((i : Int) < (n : Int)) := by omega
      obtain ⟨ad, hA, hbk, hc⟩ := reads_mask hn.out (hr.out.below hB) hi
      subst hA
      have c1 := hb1.cell0
      have c2 := hb2.cell0
      have f2 := hb2.frozen 0
      have hm := hM.out i
      have hq := has_le up i i (by omega)
      have hs := andNot_sub (up.getD i 0) (belowN (n : Nat)) hm hall
      have hrow1 : rowP up i = (le up i i && (subB (up.getD i 0) (belowN (n : Nat)) && (bitsOf (up.getD i 0)).all (kP up i))) := by unfold rowP; rw [hn.out]
      have hsb := (hsuball.out (up.getD i 0)).1
      have hws : w.heap.size + 2 ≤ W.heap.size := by have := hb2.lt; omega
      cases hq1 : le up i i with
      | false =>
        rw [hq1] at hq hrow1
        have hno := ordB_no hM.out (by have := hn.out; omega) (i := i) (by have := hn.out; omega) hrow1
        generalize hgm : up.getD i 0 = m at hm hq hc hs hsb hrow1
        clear hgm
        have hbW : Below W.heap.size W ((W.alloc (.cells #[.int .i64 (i : Nat)] 3)).alloc (.cells #[.int .u64 m] 27)) := ((Below.refl _ W).alloc (Nat.le_refl _) _).alloc (by simp) _
        have hk2 := keeps_below hbW
        have hn1b := (hb1.alloc (.cells #[.int .i64 (i : Nat)] 3)).alloc (.cells #[.int .u64 m] 27)
        have hn2b := (hb2.alloc (.cells #[.int .i64 (i : Nat)] 3)).alloc (.cells #[.int .u64 m] 27)
        have c1n := hn1b.cell0
        have c2n := hn2b.cell0
        have f2n := hn2b.frozen 0
        replace hs := Lib.hid hs
        replace hsb := Lib.hid hsb
        replace hno := Lib.hid hno
        replace hrow := Lib.hid hrow
        replace hrow1 := Lib.hid hrow1
        replace hMk := Lib.hid hMk
        replace hb1 := Lib.hid hb1
        replace hb2 := Lib.hid hb2
        replace hB := Lib.hid hB
        replace hk2 := Lib.hid hk2
        replace hbW := Lib.hid hbW
        replace hn1b := Lib.hid hn1b
        replace hn2b := Lib.hid hn2b
        gi_wp2_with (refine ⟨trivial, ?_⟩; gi_at_call 57; refine (callsIn_wide.2 (has_any _ _ _ hm)).mono ?_; rintro e w' ⟨rfl, rfl⟩)
        refine leaves_of_marks (hMk.out.keeps (hk2.out.trans (KeepsOthers.setCell _ ⟨w.heap.size + 1, 0, none⟩ (.bool false)))) ?_
        intro W' hW'
        have hc5 := (hW'.blk _ _ _ (hn2b.out.set0 (.bool false))).cell0
        refine ⟨.bool false, by simp [results, Tryd.f48, go_sem, hc5], by rw [hno.out], ((hB.out.trans (hbW.out.mono hB.out.size)).setCell (p := ⟨w.heap.size + 1, 0, none⟩) (by simp) _).trans hW'.below⟩
      | true =>
        rw [hq1] at hq hrow1
        cases hq2 : subB (up.getD i 0) (belowN (n : Nat)) with
        | false =>
          rw [hq2] at hrow1 hs
          have hno := ordB_no hM.out (by have := hn.out; omega) (i := i) (by have := hn.out; omega) hrow1
          have hsn : (bits BinOp.andNot IntKind.u64 (up.getD i 0 : Nat) (belowN (n : Nat) : Nat) != 0) = true := by rw [bne, hs]; rfl
          generalize hgm : up.getD i 0 = m at hm hq hc hs hsb hrow1 hsn
          clear hgm
          have hbW : Below W.heap.size W ((W.alloc (.cells #[.int .i64 (i : Nat)] 3)).alloc (.cells #[.int .u64 m] 27)) := ((Below.refl _ W).alloc (Nat.le_refl _) _).alloc (by simp) _
          have hk2 := keeps_below hbW
          have hn1b := (hb1.alloc (.cells #[.int .i64 (i : Nat)] 3)).alloc (.cells #[.int .u64 m] 27)
          have hn2b := (hb2.alloc (.cells #[.int .i64 (i : Nat)] 3)).alloc (.cells #[.int .u64 m] 27)
          have c1n := hn1b.cell0
          have c2n := hn2b.cell0
          have f2n := hn2b.frozen 0
          replace hs := Lib.hid hs
          replace hsb := Lib.hid hsb
          replace hno := Lib.hid hno
          replace hrow := Lib.hid hrow
          replace hrow1 := Lib.hid hrow1
          replace hMk := Lib.hid hMk
          replace hb1 := Lib.hid hb1
          replace hb2 := Lib.hid hb2
          replace hB := Lib.hid hB
          replace hk2 := Lib.hid hk2
          replace hbW := Lib.hid hbW
          replace hn1b := Lib.hid hn1b
          replace hn2b := Lib.hid hn2b
          gi_wp2_with (refine ⟨trivial, ?_⟩; gi_at_call 57; refine (callsIn_wide.2 (has_any _ _ _ hm)).mono ?_; rintro e w' ⟨rfl, rfl⟩)
          refine leaves_of_marks (hMk.out.keeps (hk2.out.trans (KeepsOthers.setCell _ ⟨w.heap.size + 1, 0, none⟩ (.bool false)))) ?_
          intro W' hW'
          have hc5 := (hW'.blk _ _ _ (hn2b.out.set0 (.bool false))).cell0
          refine ⟨.bool false, by simp [results, Tryd.f48, go_sem, hc5], by rw [hno.out], ((hB.out.trans (hbW.out.mono hB.out.size)).setCell (p := ⟨w.heap.size + 1, 0, none⟩) (by simp) _).trans hW'.below⟩
        | true =>
          rw [hq2] at hrow1 hs
          have hsn : (bits BinOp.andNot IntKind.u64 (up.getD i 0 : Nat) (belowN (n : Nat) : Nat) != 0) = false := by rw [bne, hs]; rfl
          generalize hgm : up.getD i 0 = m at hm hq hc hs hsb hrow1 hsn
          have hno : True := trivial
          have hq2m : subB m (belowN (n : Nat)) = true := by rw [← hgm]; exact hq2
          replace hgm := Lib.hid hgm
          clear hq2
          have hbW : Below W.heap.size W ((W.alloc (.cells #[.int .i64 (i : Nat)] 3)).alloc (.cells #[.int .u64 m] 27)) := ((Below.refl _ W).alloc (Nat.le_refl _) _).alloc (by simp) _
          have hk2 := keeps_below hbW
          have hn1b := (hb1.alloc (.cells #[.int .i64 (i : Nat)] 3)).alloc (.cells #[.int .u64 m] 27)
          have hn2b := (hb2.alloc (.cells #[.int .i64 (i : Nat)] 3)).alloc (.cells #[.int .u64 m] 27)
          have c1n := hn1b.cell0
          have c2n := hn2b.cell0
          have f2n := hn2b.frozen 0
          replace hs := Lib.hid hs
          replace hsb := Lib.hid hsb
          replace hno := Lib.hid hno
          replace hrow := Lib.hid hrow
          replace hrow1 := Lib.hid hrow1
          replace hMk := Lib.hid hMk
          replace hb1 := Lib.hid hb1
          replace hb2 := Lib.hid hb2
          replace hB := Lib.hid hB
          replace hk2 := Lib.hid hk2
          replace hbW := Lib.hid hbW
          replace hn1b := Lib.hid hn1b
          replace hn2b := Lib.hid hn2b
          gi_wp2_with (refine ⟨trivial, ?_⟩; first | (gi_at_call 57; refine (callsIn_wide.2 (has_any _ _ _ hm)).mono ?_; rintro e w' ⟨rfl, rfl⟩) | (gi_at_call 46; refine (callsIn_wide.2 (all_makes _ _)).mono ?_; rintro e w' ⟨rfl, rfl⟩))
          obtain ⟨W0, hW0⟩ : ∃ W0, (((W.alloc (.cells #[.int .i64 (i : Nat)] 3)).alloc (.cells #[.int .u64 m] 27)).alloc (.cells #[.int .u64 m] 27)) = W0 := ⟨_, rfl⟩
          rw [hW0]
          have b1 : Blk W0 w.heap.size 22 #[.slice (some ad) n c] := by rw [← hW0]; exact hn1b.out.alloc _
          have b2 : Blk W0 (w.heap.size + 1) 4 #[.bool false] := by rw [← hW0]; exact hn2b.out.alloc _
          have b4 : Blk W0 W.heap.size 3 #[.int .i64 (i : Nat)] := by rw [← hW0]; exact ((Blk.new_at W _ _ _ rfl).alloc _).alloc _
          have b5 : Blk W0 (W.heap.size + 1) 27 #[.int .u64 m] := by rw [← hW0]; exact (Blk.new_at _ _ _ _ (by simp)).alloc _
          have b6 : Blk W0 (W.heap.size + 1 + 1) 27 #[.int .u64 m] := by rw [← hW0]; exact Blk.new_at _ _ _ _ (by simp)
          have hsz : W0.heap.size = W.heap.size + 3 := by rw [← hW0]; simp
          have hBW : Below W.heap.size W W0 := by rw [← hW0]; exact hbW.out.alloc (by simp; omega) _
          have hk0 : KeepsOthers W W0 := keeps_below hBW
          clear hW0 hk2 hn1b hn2b c1n c2n f2n hno c1 c2 f2 hs
          refine wpIn_rangeFunc_ownG rfl (by omega) (gf := 53) (lb := #[.pointer (some ⟨W.heap.size + 1 + 1, 0, none⟩)]) rfl trivial (enters_of Tryd.func53 (by kernel_rfl) rfl)
            (all_stops 8 (by omega) m hm (W.heap.size + 1 + 1) w.heap.size _ hw0 (by omega) (hT.out.later (hB.out.trans (hBW.mono hB.out.size))) b6.cell0) belowK_t (belowK_b (by omega)) (Below.refl _ _) (fun _ => rfl)
            (fun pre X => (∀ y ∈ pre, kP up i y.1 = true) ∧ Marks w.heap.size W.heap.size X ds ∧ Blk X w.heap.size 22 #[.slice (some ad) n c] ∧ Blk X (w.heap.size + 1) 4 #[.bool false] ∧ Blk X W.heap.size 3 #[.int .i64 (i : Nat)] ∧ Blk X (W.heap.size + 1) 27 #[.int .u64 m] ∧ Below w.heap.size w X)
            (fun c pre X => c = .ret ∧ (∃ y : Bit m, kP up i y.1 = false) ∧ Marks w.heap.size W.heap.size X ds ∧ Blk X (w.heap.size + 1) 4 #[.bool false] ∧ Below w.heap.size w X)
            ?hI ?hIx
            ⟨fun y h => (by cases h), hMk.out.keeps hk0, b1, b2, b4, b5, hB.out.trans (hBW.mono hB.out.size)⟩
            (fun x => { tmps := #[.slice (some ad) n c, .pointer (some ⟨w.heap.size, 0, none⟩), .pointer (some ⟨w.heap.size + 1, 0, none⟩), .int .u64 (belowN (n : Nat) : Nat), .pointer (some ⟨W.heap.size, 0, none⟩), .pointer (some ⟨W.heap.size + 1, 0, none⟩), .int .i64 (x.1 : Nat), .slice (some ad) n c, .int .i64 (n : Nat), .bool false, .bool false, .slice (some ad) n c, .int .i64 (n : Nat), .bool false, .bool false, .slice (some ad) n c, .int .i64 (n : Nat), .int .u64 (belowN (n : Nat) : Nat), .slice (some ad) n c, .int .i64 (n : Nat), .int .i64 (i : Nat), .bool true, .int .i64 (i : Nat), .pointer (some (ad.add i)), .int .u64 m, .int .u64 m, .int .i64 (i : Nat), .bool true, .bool false, .bool false, .int .u64 m, .int .u64 (belowN (n : Nat) : Nat), .int .u64 (bits BinOp.andNot IntKind.u64 (m : Nat) (belowN (n : Nat) : Nat)), .bool false, .bool false, .int .u64 m, .func (.func 53) #[] #[.pointer (some ⟨W.heap.size + 1 + 1, 0, none⟩)], .int .i64 (x.1 : Nat), v38, v39, v40, v41, v42, v43, v44, v45, v46, v47, v48, v49, v50, v51, v52, v53, v54, v55, v56, v57, v58], defers := [] }) ?assign ?body ?done ?stop
          case hI =>
            rintro s A' B' row ⟨h0, h1, h2, h3, h4, h5, h6⟩ hg hr'
            exact ⟨h0, h1.own (by omega) hg hr', h2.own hg (fun r e => (hr' r e).2), h3.own hg (fun r e => (hr' r e).2), h4.own hg (fun r e => (hr' r e).2), h5.own hg (fun r e => (hr' r e).2), ownFrom_below (β := Unit) (Nat.le_refl _) (by omega) () A' B' row h6 hg hr'⟩
          case hIx =>
            rintro c' s A' B' row ⟨hc', h0, h1, h3, h6⟩ hg hr'
            exact ⟨hc', h0, h1.own (by omega) hg hr', h3.own hg (fun r e => (hr' r e).2), ownFrom_below (β := Unit) (Nat.le_refl _) (by omega) () A' B' row h6 hg hr'⟩
          case assign =>
            intro l x X K hK
            gi_wp2
            simpa using hK
          case body =>
            rintro l pre x X ⟨hpre, h1, h2, h3, h4, h5, h6⟩ hlen
            have hxn : x.1 < n := hsb.out hq2m x.1 (mem_bitsOf.1 x.2).2
            obtain ⟨ad', hA', hbk', hc'⟩ := reads_mask hn.out (hr.out.below h6) hxn
            injection hA' with hA'
            subst hA'
            have hux := hM.out x.1
            have hsub := andNot_sub (up.getD x.1 0) m hux hm
            have hh := has_le up x.1 i (by omega)
            have hkp : kP up i x.1 = (subB (up.getD x.1 0) m && (x.1 == i || !(le up x.1 i))) := by unfold kP; rw [hgm.out]
            have hxn' : ((x.1 : Int) < (n : Int)) := by omega
            have c1 := h2.cell0
            have c2 := h3.cell0
            have c4 := h4.cell0
            have c5 := h5.cell0
            have f2 := h3.frozen 0
            have hs3 := h3.set0 (.bool false)
            have hkX : KeepsOthers X (X.setCell ⟨w.heap.size + 1, 0, none⟩ (.bool false)) := KeepsOthers.setCell _ _ _
            cases hq3 : subB (up.getD x.1 0) m with
            | false =>
              rw [hq3] at hsub hkp
              rw [Bool.false_and] at hkp
              have hsn' : (bits BinOp.andNot IntKind.u64 (up.getD x.1 0 : Nat) (m : Nat) != 0) = true := by rw [bne, hsub]; rfl
              replace hq3 := Lib.hid hq3
              generalize up.getD x.1 0 = ux at hux hsub hc' hh hsn'
              replace hpre := Lib.hid hpre
              replace h1 := Lib.hid h1
              replace h2 := Lib.hid h2
              replace h3 := Lib.hid h3
              replace h4 := Lib.hid h4
              replace h5 := Lib.hid h5
              replace h6 := Lib.hid h6
              replace hkp := Lib.hid hkp
              replace hux := Lib.hid hux
              replace hs3 := Lib.hid hs3
              replace hkX := Lib.hid hkX
              replace hrow := Lib.hid hrow
              replace hrow1 := Lib.hid hrow1
              replace hMk := Lib.hid hMk
              replace hB := Lib.hid hB
              gi_wp2
              (refine wpIn_region_quiet_r (by kernel_rfl) (by kernel_rfl) ?_; (repeat (first | gi_big_quiet_step (fail) | (refine wpQuietIn_pass (fun _ _ _ _ => trivial) (by rfl) rfl ?_; simp only [List.setIfInBounds_toArray, List.set_cons_succ, List.set_cons_zero]) | (refine wpQuietIn_step (fun _ _ _ _ => trivial) ?_; intro K hK; refine Eq.mpr (if_pos (by rfl)) ?_; gi_big_quiet_op; gi_big_quiet_call ((gi_at_call 57; exact quiet_law (CallsIn.inRound l (callsIn_wide.2 (has_any _ _ _ hux.out)))))))); refine wpQuietIn_nil ?_; intro _ hw'; obtain ⟨nq, hw''⟩ := hw'; subst hw'')
              gi_wp2
              exact ⟨(keeps_drewN hkX.out _).from _, rfl, ⟨x, hkp.out⟩, (h1.out.keeps hkX.out).keeps (keeps_drewN (KeepsOthers.refl _) _), hs3.out.drewN _, below_drewNs (h6.out.setCell (p := ⟨w.heap.size + 1, 0, none⟩) (by simp) _) _⟩
            | true =>
              rw [hq3] at hsub hkp
              rw [Bool.true_and] at hkp
              have hsn' : (bits BinOp.andNot IntKind.u64 (up.getD x.1 0 : Nat) (m : Nat) != 0) = false := by rw [bne, hsub]; rfl
              replace hq3 := Lib.hid hq3
              by_cases hxi : x.1 = i
              · have hne : ((x.1 : Int) != (i : Int)) = false := by rw [hxi]; simp
                rw [show (x.1 == i) = true by simpa using hxi, Bool.true_or] at hkp
                replace hxi := Lib.hid hxi
                generalize up.getD x.1 0 = ux at hux hsub hc' hh hsn'
                replace hpre := Lib.hid hpre
                replace h1 := Lib.hid h1
                replace h2 := Lib.hid h2
                replace h3 := Lib.hid h3
                replace h4 := Lib.hid h4
                replace h5 := Lib.hid h5
                replace h6 := Lib.hid h6
                replace hkp := Lib.hid hkp
                replace hux := Lib.hid hux
                replace hs3 := Lib.hid hs3
                replace hkX := Lib.hid hkX
                replace hrow := Lib.hid hrow
                replace hrow1 := Lib.hid hrow1
                replace hMk := Lib.hid hMk
                replace hB := Lib.hid hB
                gi_wp2
                (refine wpIn_region_quiet_r (by kernel_rfl) (by kernel_rfl) ?_; (repeat (first | gi_big_quiet_step (fail) | (refine wpQuietIn_pass (fun _ _ _ _ => trivial) (by rfl) rfl ?_; simp only [List.setIfInBounds_toArray, List.set_cons_succ, List.set_cons_zero]) | (refine wpQuietIn_step (fun _ _ _ _ => trivial) ?_; intro K hK; refine Eq.mpr (if_pos (by rfl)) ?_; gi_big_quiet_op; gi_big_quiet_call ((gi_at_call 57; exact quiet_law (CallsIn.inRound l (callsIn_wide.2 (has_any _ _ _ hux.out)))))))); refine wpQuietIn_nil ?_; intro _ hw'; obtain ⟨nq, hw''⟩ := hw'; subst hw'')
                gi_wp2
                refine ⟨(keeps_drewN (KeepsOthers.refl _) _).from _, below_drewNs (Below.refl _ _) _, ?_, h1.out.keeps (keeps_drewN (KeepsOthers.refl _) _), h2.out.drewN _, h3.out.drewN _, h4.out.drewN _, h5.out.drewN _, below_drewNs h6.out _⟩
                intro y hy
                rcases List.mem_append.1 hy with hy | hy
                · exact hpre.out y hy
                · obtain rfl : y = x := by simpa using hy
                  exact hkp.out
              · have hne : ((x.1 : Int) != (i : Int)) = true := by simp; omega
                have hne2 : ¬ ((x.1 : Int) = (i : Int)) := by omega
                rw [show (x.1 == i) = false by simpa using hxi, Bool.false_or] at hkp
                cases hq4 : le up x.1 i with
                | true =>
                  rw [hq4] at hh hkp
                  replace hq4 := Lib.hid hq4
                  generalize up.getD x.1 0 = ux at hux hsub hc' hh hsn'
                  replace hpre := Lib.hid hpre
                  replace h1 := Lib.hid h1
                  replace h2 := Lib.hid h2
                  replace h3 := Lib.hid h3
                  replace h4 := Lib.hid h4
                  replace h5 := Lib.hid h5
                  replace h6 := Lib.hid h6
                  replace hkp := Lib.hid hkp
                  replace hux := Lib.hid hux
                  replace hs3 := Lib.hid hs3
                  replace hkX := Lib.hid hkX
                  replace hrow := Lib.hid hrow
                  replace hrow1 := Lib.hid hrow1
                  replace hMk := Lib.hid hMk
                  replace hB := Lib.hid hB
                  gi_wp2
                  (refine wpIn_region_quiet_r (by kernel_rfl) (by kernel_rfl) ?_; (repeat (first | gi_big_quiet_step (fail) | (refine wpQuietIn_pass (fun _ _ _ _ => trivial) (by rfl) rfl ?_; simp only [List.setIfInBounds_toArray, List.set_cons_succ, List.set_cons_zero]) | (refine wpQuietIn_step (fun _ _ _ _ => trivial) ?_; intro K hK; refine Eq.mpr (if_pos (by rfl)) ?_; gi_big_quiet_op; gi_big_quiet_call ((gi_at_call 57; exact quiet_law (CallsIn.inRound l (callsIn_wide.2 (has_any _ _ _ hux.out)))))))); refine wpQuietIn_nil ?_; intro _ hw'; obtain ⟨nq, hw''⟩ := hw'; subst hw'')
                  gi_wp2
                  exact ⟨(keeps_drewN hkX.out _).from _, rfl, ⟨x, hkp.out⟩, (h1.out.keeps hkX.out).keeps (keeps_drewN (KeepsOthers.refl _) _), hs3.out.drewN _, below_drewNs (h6.out.setCell (p := ⟨w.heap.size + 1, 0, none⟩) (by simp) _) _⟩
                | false =>
                  rw [hq4] at hh hkp
                  replace hq4 := Lib.hid hq4
                  generalize up.getD x.1 0 = ux at hux hsub hc' hh hsn'
                  replace hpre := Lib.hid hpre
                  replace h1 := Lib.hid h1
                  replace h2 := Lib.hid h2
                  replace h3 := Lib.hid h3
                  replace h4 := Lib.hid h4
                  replace h5 := Lib.hid h5
                  replace h6 := Lib.hid h6
                  replace hkp := Lib.hid hkp
                  replace hux := Lib.hid hux
                  replace hs3 := Lib.hid hs3
                  replace hkX := Lib.hid hkX
                  replace hrow := Lib.hid hrow
                  replace hrow1 := Lib.hid hrow1
                  replace hMk := Lib.hid hMk
                  replace hB := Lib.hid hB
                  gi_wp2
                  (refine wpIn_region_quiet_r (by kernel_rfl) (by kernel_rfl) ?_; (repeat (first | gi_big_quiet_step (fail) | (refine wpQuietIn_pass (fun _ _ _ _ => trivial) (by rfl) rfl ?_; simp only [List.setIfInBounds_toArray, List.set_cons_succ, List.set_cons_zero]) | (refine wpQuietIn_step (fun _ _ _ _ => trivial) ?_; intro K hK; refine Eq.mpr (if_pos (by rfl)) ?_; gi_big_quiet_op; gi_big_quiet_call ((gi_at_call 57; exact quiet_law (CallsIn.inRound l (callsIn_wide.2 (has_any _ _ _ hux.out)))))))); refine wpQuietIn_nil ?_; intro _ hw'; obtain ⟨nq, hw''⟩ := hw'; subst hw'')
                  gi_wp2
                  refine ⟨(keeps_drewN (KeepsOthers.refl _) _).from _, below_drewNs (Below.refl _ _) _, ?_, h1.out.keeps (keeps_drewN (KeepsOthers.refl _) _), h2.out.drewN _, h3.out.drewN _, h4.out.drewN _, h5.out.drewN _, below_drewNs h6.out _⟩
                  intro y hy
                  rcases List.mem_append.1 hy with hy | hy
                  · exact hpre.out y hy
                  · obtain rfl : y = x := by simpa using hy
                    exact hkp.out
          case done =>
            rintro D ys X hD hys ⟨hpre, h1, h2, h3, h4, h5, h6⟩ hK
            have hmk' := Lib.hid (h1.cons (by omega) (by omega) hK)
            have hall' : rowP up i = true := by
              rw [hrow1.out, Bool.true_and, Bool.true_and, List.all_eq_true]
              intro y hy
              rw [← hys] at hy
              obtain ⟨z, hz, rfl⟩ := List.mem_map.1 hy
              exact hpre z hz
            have hrow' : ∀ j, j < i + 1 → rowP up j = true := by
              intro j hj
              by_cases hji : j < i
              · exact hrow.out j hji
              · have hje : j = i := by omega
                rw [hje]
                exact hall'
            replace hrow' := Lib.hid hrow'
            replace hall' := Lib.hid hall'
            replace h2 := Lib.hid h2
            replace h3 := Lib.hid h3
            replace h6 := Lib.hid h6
            clear h1 h4 h5 hK hpre hys
            gi_wp2
            refine ⟨⟨i + 1, _, _, _, _, _, _, _, _, _, _, _, _, _, _, _, _, _, _, _, _, _, _, _, _, _, _, _, _, _, _, _, _, _, _, _, _, _, _, _, _, _, _, by omega, hrow'.out, rfl, hmk'.out, h2.out, h3.out, h6.out⟩, ?_⟩
            simp only [slotNat, List.getElem?_toArray, List.getElem?_cons_succ, List.getElem?_cons_zero, Int.toNat_natCast]
            omega
          case stop =>
            rintro D c0 pre X hD _ ⟨rfl, ⟨y, hy⟩, h1, h3, h6⟩ hK
            have hmk' := Lib.hid (h1.cons (by omega) (by omega) hK)
            have hno : ordB up = false := by
              refine ordB_no hM.out (by have := hn.out; omega) (i := i) (by have := hn.out; omega) ?_
              rw [hrow1.out, Bool.true_and, Bool.true_and, List.all_eq_false]
              exact ⟨y.1, y.2, by rw [hy]; simp⟩
            replace hno := Lib.hid hno
            replace h3 := Lib.hid h3
            replace h6 := Lib.hid h6
            clear h1 hK hy
            gi_wp2
            refine leaves_of_marks hmk'.out ?_
            intro W' hW'
            have hc5 := (hW'.blk _ _ _ h3.out).cell0
            refine ⟨.bool false, by simp [results, Tryd.f48, go_sem, hc5], by rw [hno.out], h6.out.trans hW'.below⟩
    · have c2 := hb2.cell0
      have f2 := hb2.frozen 0
      have hie : i = n := by omega
      subst hie
      have hlt : ¬ ((i : Int) < (i : Int)) := by omega
      have e : ordB up = true := by
        unfold ordB
        rw [show decide (1 ≤ up.length) = true by simp; have := hn.out; omega, show decide (up.length ≤ 64) = true by simp; have := hn.out; omega]
        simp only [Bool.true_and, List.all_eq_true, List.mem_range]
        intro j hj
        rw [← rowP_eq up hM.out (by have := hn.out; omega)]
        exact hrow j (by have := hn.out; omega)
      replace e := Lib.hid e
      replace hrow := Lib.hid hrow
      replace hMk := Lib.hid (hMk.keeps (KeepsOthers.setCell W ⟨w.heap.size + 1, 0, none⟩ (.bool true)))
      replace hb1 := Lib.hid hb1
      replace hb2 := Lib.hid (hb2.set0 (.bool true))
      replace hB := Lib.hid (hB.setCell (p := ⟨w.heap.size + 1, 0, none⟩) (by simp) (.bool true))
      gi_wp2
      refine leaves_of_marks hMk.out ?_
      intro W' hW'
      have hc5 := (hW'.blk _ _ _ hb2.out).cell0
      refine ⟨.bool true, by simp [results, Tryd.f48, go_sem, hc5], by rw [e.out], hB.out.trans hW'.below⟩

end Go.Proofs.YtleckdbdhkgcpaaDoor
