/- lattice.both, Leq, Join, Meet, Bottom, Top. -/
import Derived.Test.YtfloonpchjbmnaaDoorRi
namespace Go.Idl
/-- Are two numbers those of a lattice's levels? -/
def bothL (up : List Nat) (a b : Int) : Bool := decide (0 ≤ a) && (decide (0 ≤ b) && (decide (a < (up.length : Int)) && (decide (b < (up.length : Int)) && latB up)))
theorem bothL_iff {up : List Nat} {a b : Int} : bothL up a b = true ↔ 0 ≤ a ∧ 0 ≤ b ∧ a < up.length ∧ b < up.length ∧ latB up = true := by
  unfold bothL
  simp
end Go.Idl
namespace Go.Proofs.YtfloonpchjbmnaaDoor
open Go.RowKit Go.Shelf Go.Idl
attribute [local go_sem] Oper.semAt_some

theorem both_any (A : Option Addr) (n c : Nat) (up : List Nat) (a b : Int) (w : World) (hT : Tab w) (hn : up.length = n) (hn63 : n ≤ maxLen) (hM : Masks up) (hr : Reads w w.heap.size 1 A n (u64s up)) :
    Calls Tryd.prog 39 #[.slice A n c, .int .i64 a, .int .i64 b] w fun e w' => e = .returned (.bool (bothL up a b)) ∧ Below w.heap.size w w' := by
  have e : bothL up a b = (decide (0 ≤ a) && (decide (0 ≤ b) && (decide (a < (n : Int)) && (decide (b < (n : Int)) && latB up)))) := by unfold bothL; rw [hn]
  replace e := Lib.hid e
  have hT := Lib.hid hT
  have hr := Lib.hid hr
  have hM := Lib.hid hM
  have hn := Lib.hid hn
  by_cases h1 : 0 ≤ a
  · by_cases h2 : 0 ≤ b
    · by_cases h3 : a < (n : Int)
      · by_cases h4 : b < (n : Int)
        · go_enter Tryd.func39, Tryd.ntmps39
          go_wp2_with fail
          refine (right_lat A n c up _ hT.out hn.out hn63 hM.out hr.out).mono ?_
          rintro x w1 ⟨rfl, hb1⟩
          replace hb1 := Lib.hid hb1
          go_wp2
          go_ret
          exact ⟨by rw [e.out, decide_eq_true h1, decide_eq_true h2, decide_eq_true h3, decide_eq_true h4]; rfl, hb1.out⟩
        · go_enter Tryd.func39, Tryd.ntmps39
          go_wp2
          go_ret
          exact ⟨by rw [e.out, decide_eq_false (p := b < (n : Int)) (by omega)]; simp, Below.refl _ _⟩
      · go_enter Tryd.func39, Tryd.ntmps39
        go_wp2
        go_ret
        exact ⟨by rw [e.out, decide_eq_false (p := a < (n : Int)) (by omega)]; simp, Below.refl _ _⟩
    · go_enter Tryd.func39, Tryd.ntmps39
      go_wp2
      go_ret
      exact ⟨by rw [e.out, decide_eq_false (p := 0 ≤ b) (by omega)]; simp, Below.refl _ _⟩
  · go_enter Tryd.func39, Tryd.ntmps39
    go_wp2
    go_ret
    exact ⟨by rw [e.out, decide_eq_false (p := 0 ≤ a) (by omega)]; simp, Below.refl _ _⟩

theorem leq_any (A : Option Addr) (n c : Nat) (up : List Nat) (a b : Int) (w : World) (hT : Tab w) (hn : up.length = n) (hn63 : n ≤ maxLen) (hM : Masks up) (hr : Reads w w.heap.size 1 A n (u64s up)) :
    Calls Tryd.prog 26 #[.slice A n c, .int .i64 a, .int .i64 b] w fun e w' => e = .returned (.bool (bothL up a b && le up a.toNat b.toNat)) ∧ Below w.heap.size w w' := by
  have hT := Lib.hid hT
  have hr := Lib.hid hr
  have hM := Lib.hid hM
  have hn' := Lib.hid hn
  cases hb : bothL up a b with
  | false =>
    replace hb := Lib.hid hb
    go_enter Tryd.func26, Tryd.ntmps26
    go_wp2_with fail
    refine (both_any A n c up a b _ hT.out hn'.out hn63 hM.out hr.out).mono ?_
    rintro x w1 ⟨rfl, hb1⟩
    rw [hb.out]
    replace hb1 := Lib.hid hb1
    go_wp2
    go_ret
    exact ⟨rfl, hb1.out⟩
  | true =>
    obtain ⟨h1, h2, h3, h4, h5⟩ := bothL_iff.1 hb
    rw [hn] at h3 h4
    have h64 := (Lat.of hM.out h5).toOrd.n64
    obtain ⟨i, rfl⟩ : ∃ i : Nat, a = i := ⟨a.toNat, by omega⟩
    obtain ⟨j, rfl⟩ : ∃ j : Nat, b = j := ⟨b.toNat, by omega⟩
    have hl := has_le up i j (by omega)
    have hm := hM.out i
    rw [Int.toNat_natCast, Int.toNat_natCast]
    replace hb := Lib.hid hb
    replace h5 := Lib.hid h5
    clear hn
    generalize le up i j = q at *
    go_enter Tryd.func26, Tryd.ntmps26
    go_wp2_with fail
    refine (both_any A n c up i j _ hT.out hn'.out hn63 hM.out hr.out).mono ?_
    rintro x w1 ⟨rfl, hb1⟩
    rw [hb.out]
    obtain ⟨ad, hA, hbk, hc⟩ := reads_mask hn'.out (hr.out.below hb1) (k := i) (by omega)
    subst hA
    replace hb1 := Lib.hid hb1
    generalize up.getD i 0 = m at *
    go_wp2_with fail
    refine (has_any m j _ hm).mono ?_
    rintro x w2 ⟨rfl, rfl⟩
    go_wp2
    go_ret
    exact ⟨by simp, hb1.out⟩

theorem joinB_of {up : List Nat} (hO : Idl.Ord up) (i j : Nat) (hi : i < up.length) (hj : j < up.length) : leastI up (up.getD i 0 &&& up.getD j 0) = joinI up i j := hO.least_join i j hi hj

theorem join_any (A : Option Addr) (n c : Nat) (up : List Nat) (a b : Int) (w : World) (hT : Tab w) (hn : up.length = n) (hn63 : n ≤ maxLen) (hM : Masks up) (hr : Reads w w.heap.size 1 A n (u64s up)) :
    Calls Tryd.prog 36 #[.slice A n c, .int .i64 a, .int .i64 b] w fun e w' => e = .returned (.tuple #[.int .i64 (if bothL up a b = true then joinI up a.toNat b.toNat else 0), .bool (bothL up a b)]) ∧ Below w.heap.size w w' := by
  refine (callsIn_wide (n := 20)).1 ?_
  have hT := Lib.hid hT
  have hr := Lib.hid hr
  have hM := Lib.hid hM
  have hn' := Lib.hid hn
  cases hb : bothL up a b with
  | false =>
    replace hb := Lib.hid hb
    refine callsIn_of_wp Tryd.func36 rfl trivial ?_ rfl
    simp only [Tryd.ntmps36, List.size_toArray, List.length_cons, List.length_nil, Nat.reduceAdd, Nat.reduceSub, Array.replicate_succ, Array.replicate_zero, List.push_toArray, List.append_toArray, List.nil_append, List.cons_append]
    gi_wp2_with (refine ⟨trivial, ?_⟩; gi_at_call 39; refine (callsIn_wide.2 (both_any A n c up a b _ hT.out hn'.out hn63 hM.out hr.out)).mono ?_; rintro x w1 ⟨rfl, hb1⟩; rw [hb.out]; replace hb1 := Lib.hid hb1)
    go_ret2
    exact ⟨rfl, hb1.out⟩
  | true =>
    obtain ⟨h1, h2, h3, h4, h5⟩ := bothL_iff.1 hb
    have hO := (Lat.of hM.out h5).toOrd
    have h64 := hO.n64
    obtain ⟨i, rfl⟩ : ∃ i : Nat, a = i := ⟨a.toNat, by omega⟩
    obtain ⟨j, rfl⟩ : ∃ j : Nat, b = j := ⟨b.toNat, by omega⟩
    have hJ := hO.least_join i j (by omega) (by omega)
    have hbs := ord_bits hO hn (a := i) (by omega) j
    have hand := u64_and_eq (up.getD i 0) (up.getD j 0) (hM.out i) (hM.out j)
    have hlt4 : up.getD i 0 &&& up.getD j 0 < 2 ^ 64 := Nat.lt_of_le_of_lt Nat.and_le_left (hM.out i)
    rw [hn] at h3 h4
    rw [Int.toNat_natCast, Int.toNat_natCast, if_pos rfl, ← hJ]
    replace hb := Lib.hid hb
    replace h5 := Lib.hid h5
    replace hJ := Lib.hid hJ
    replace hbs := Lib.hid hbs
    replace hO := Lib.hid hO
    clear hn
    refine callsIn_of_wp Tryd.func36 rfl trivial ?_ rfl
    simp only [Tryd.ntmps36, List.size_toArray, List.length_cons, List.length_nil, Nat.reduceAdd, Nat.reduceSub, Array.replicate_succ, Array.replicate_zero, List.push_toArray, List.append_toArray, List.nil_append, List.cons_append]
    gi_wp2_with (refine ⟨trivial, ?_⟩; gi_at_call 39; refine (callsIn_wide.2 (both_any A n c up i j _ hT.out hn'.out hn63 hM.out hr.out)).mono ?_; rintro x w1 ⟨rfl, hb1⟩; rw [hb.out]; replace hb1 := Lib.hid hb1)
    obtain ⟨ad, hA, hbk, hc⟩ := reads_mask hn'.out (hr.out.below hb1.out) (k := i) (by omega)
    obtain ⟨ad', hA', hbk', hc'⟩ := reads_mask hn'.out (hr.out.below hb1.out) (k := j) (by omega)
    subst hA
    injection hA' with hA'
    subst hA'
    generalize hx : up.getD i 0 = x at *
    generalize hy : up.getD j 0 = y at *
    have hB3 := Lib.hid (fun k => below_drewNs hb1.out k)
    (refine wpIn_region_quiet_tail 10 (by kernel_rfl) (by kernel_rfl) ?_; simp only [List.take_succ_cons, List.take_zero, List.drop_succ_cons, List.drop_zero]; (repeat (first | gi_big_quiet_step (fail) | (refine wpQuietIn_pass (fun _ _ _ _ => trivial) (by rfl) rfl ?_; simp only [List.setIfInBounds_toArray, List.set_cons_succ, List.set_cons_zero]) | (refine wpQuietIn_step (fun _ _ _ _ => trivial) ?_; intro K hK; refine Eq.mpr (if_pos (by rfl)) ?_; gi_big_quiet_op; gi_big_quiet_call ((fail))))); refine wpQuietIn_nil ?_; intro _ hw'; obtain ⟨nq, hw''⟩ := hw'; subst hw'')
    gi_wp2_with (refine ⟨trivial, ?_⟩; gi_at_call 47; refine (callsIn_wide.2 (least_any _ _ _ up _ _ (hT.out.later (hB3.out _)) hn'.out hM.out hlt4 hbs.out ((hr.out.below (hB3.out _)).more (hB3.out _).size))).mono ?_; rintro e w' ⟨rfl, hb3⟩)
    go_ret2
    exact ⟨by rw [hx, hy]; rfl, (hB3.out _).trans (hb3.mono (hB3.out _).size)⟩

theorem meet_any (A : Option Addr) (n c : Nat) (up : List Nat) (a b : Int) (w : World) (hT : Tab w) (hn : up.length = n) (hn63 : n ≤ maxLen) (hM : Masks up) (hr : Reads w w.heap.size 1 A n (u64s up)) :
    Calls Tryd.prog 38 #[.slice A n c, .int .i64 a, .int .i64 b] w fun e w' => e = .returned (.tuple #[.int .i64 (if bothL up a b = true then meetI up a.toNat b.toNat else 0), .bool (bothL up a b)]) ∧ Below w.heap.size w w' := by
  refine (callsIn_wide (n := 20)).1 ?_
  have hT := Lib.hid hT
  have hr := Lib.hid hr
  have hM := Lib.hid hM
  have hn' := Lib.hid hn
  cases hb : bothL up a b with
  | false =>
    replace hb := Lib.hid hb
    refine callsIn_of_wp Tryd.func38 rfl trivial ?_ rfl
    simp only [Tryd.ntmps38, List.size_toArray, List.length_cons, List.length_nil, Nat.reduceAdd, Nat.reduceSub, Array.replicate_succ, Array.replicate_zero, List.push_toArray, List.append_toArray, List.nil_append, List.cons_append]
    gi_wp2_with (refine ⟨trivial, ?_⟩; gi_at_call 39; refine (callsIn_wide.2 (both_any A n c up a b _ hT.out hn'.out hn63 hM.out hr.out)).mono ?_; rintro x w1 ⟨rfl, hb1⟩; rw [hb.out]; replace hb1 := Lib.hid hb1)
    go_ret2
    exact ⟨rfl, hb1.out⟩
  | true =>
    obtain ⟨h1, h2, h3, h4, h5⟩ := bothL_iff.1 hb
    have hO := (Lat.of hM.out h5).toOrd
    have h64 := hO.n64
    obtain ⟨i, rfl⟩ : ∃ i : Nat, a = i := ⟨a.toNat, by omega⟩
    obtain ⟨j, rfl⟩ : ∃ j : Nat, b = j := ⟨b.toNat, by omega⟩
    have hJ := hO.least_meet i j (by omega) (by omega)
    have hO2 := hO.turned
    have hM2 := masks_downs (up := up) h64
    have hn2 : (downs up).length = n := by rw [length_downs, hn]
    have hbs := ord_bits hO2 hn2 (a := i) (by omega) j
    have hand := u64_and_eq ((downs up).getD i 0) ((downs up).getD j 0) (hM2 i) (hM2 j)
    have hlt4 : (downs up).getD i 0 &&& (downs up).getD j 0 < 2 ^ 64 := Nat.lt_of_le_of_lt Nat.and_le_left (hM2 i)
    replace hn2 := Lib.hid hn2
    replace hM2 := Lib.hid hM2
    replace hO2 := Lib.hid hO2
    rw [hn] at h3 h4
    rw [Int.toNat_natCast, Int.toNat_natCast, if_pos rfl, ← hJ]
    replace hb := Lib.hid hb
    replace h5 := Lib.hid h5
    replace hJ := Lib.hid hJ
    replace hbs := Lib.hid hbs
    replace hO := Lib.hid hO
    clear hn
    refine callsIn_of_wp Tryd.func38 rfl trivial ?_ rfl
    simp only [Tryd.ntmps38, List.size_toArray, List.length_cons, List.length_nil, Nat.reduceAdd, Nat.reduceSub, Array.replicate_succ, Array.replicate_zero, List.push_toArray, List.append_toArray, List.nil_append, List.cons_append]
    gi_wp2_with (refine ⟨trivial, ?_⟩; first | (gi_at_call 39; refine (callsIn_wide.2 (both_any A n c up i j _ hT.out hn'.out hn63 hM.out hr.out)).mono ?_; rintro x w1 ⟨rfl, hb1⟩; rw [hb.out]; have hr1 := Lib.hid ((hr.out.below hb1).more hb1.size); have hT1 := Lib.hid (hT.out.later hb1); replace hb1 := Lib.hid hb1) | (gi_at_call 48; refine (callsIn_wide.2 (turned_any A n c up _ hT1.out hn'.out hM.out hO.out hr1.out)).mono ?_; rintro x w2 ⟨g, rfl, hg, hbg, hb2⟩; have hr3 := Lib.hid (reads_of_blk (n := n) hbg (by rw [u64s_len]; exact hn2.out) w2.heap.size hbg.lt); have hT2 := Lib.hid (hT1.out.later hb2); replace hbg := Lib.hid hbg; replace hb2 := Lib.hid (hb1.out.trans (hb2.mono hb1.out.size))))
    have hc : w2.cell? ⟨g, i, none⟩ = some (.int .u64 ((downs up).getD i 0 : Nat)) := by rw [hbg.out.cell]; exact u64s_at _ _ (by rw [hn2.out]; omega)
    have hc' : w2.cell? ⟨g, j, none⟩ = some (.int .u64 ((downs up).getD j 0 : Nat)) := by rw [hbg.out.cell]; exact u64s_at _ _ (by rw [hn2.out]; omega)
    have hB3 := Lib.hid (fun k => below_drewNs (Below.refl w2.heap.size w2) k)
    generalize hx : (downs up).getD i 0 = x at *
    generalize hy : (downs up).getD j 0 = y at *
    (refine wpIn_region_quiet_tail 10 (by kernel_rfl) (by kernel_rfl) ?_; simp only [List.take_succ_cons, List.take_zero, List.drop_succ_cons, List.drop_zero]; (repeat (first | gi_big_quiet_step (fail) | (refine wpQuietIn_pass (fun _ _ _ _ => trivial) (by rfl) rfl ?_; simp only [List.setIfInBounds_toArray, List.set_cons_succ, List.set_cons_zero]) | (refine wpQuietIn_step (fun _ _ _ _ => trivial) ?_; intro K hK; refine Eq.mpr (if_pos (by rfl)) ?_; gi_big_quiet_op; gi_big_quiet_call ((fail))))); refine wpQuietIn_nil ?_; intro _ hw'; obtain ⟨nq, hw''⟩ := hw'; subst hw'')
    gi_wp2_with (refine ⟨trivial, ?_⟩; gi_at_call 47; refine (callsIn_wide.2 (least_any _ _ _ (downs up) _ _ (hT2.out.later (hB3.out _)) hn2.out hM2.out hlt4 hbs.out ((hr3.out.below (hB3.out _)).more (hB3.out _).size))).mono ?_; rintro e w' ⟨rfl, hb3⟩)
    go_ret2
    exact ⟨by rw [hx, hy]; rfl, hb2.out.trans (((hB3.out _).trans hb3).mono hb2.out.size)⟩

end Go.Proofs.YtfloonpchjbmnaaDoor
