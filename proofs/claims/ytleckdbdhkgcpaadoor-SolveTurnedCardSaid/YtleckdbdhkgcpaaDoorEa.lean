/- lattice.Right's closure: has every pair of levels a least one above? -/
import Derived.Test.YtleckdbdhkgcpaaDoorOr
namespace Go.Proofs.YtleckdbdhkgcpaaDoor
open Go.RowKit Go.Shelf Go.Idl
attribute [local go_sem] Oper.semAt_some

theorem ord_bits {up : List Nat} (hO : Idl.Ord up) {n : Nat} (hn : up.length = n) {a : Nat} (ha : a < n) (b : Nat) : ∀ k ∈ bitsOf (up.getD a 0 &&& up.getD b 0), k < n := by
  intro k hk
  have h := (mem_bitsOf.1 hk).2
  rw [Nat.testBit_and, Bool.and_eq_true] at h
  have := hO.bd a k (by omega) h.1
  omega

set_option maxRecDepth 100000 in
set_option maxHeartbeats 4000000 in
theorem each_any (A : Option Addr) (n c : Nat) (up : List Nat) (w : World) (hT : Tab w) (hn : up.length = n) (hM : Masks up) (hO : Idl.Ord up) (hr : Reads w w.heap.size 1 A n (u64s up)) :
    Calls Tryd.prog 49 #[.slice A n c] w fun e w' => e = .returned (.bool (eachB up)) ∧ Below w.heap.size w w' := by
  refine (callsIn_wide (n := 20)).1 ?_
  have h64 : n ≤ 64 := by rw [← hn]; exact hO.n64
  have hbits := fun a ha b => ord_bits hO hn (a := a) ha b
  replace hT := Lib.hid hT
  replace hr := Lib.hid hr
  replace hM := Lib.hid hM
  replace hn := Lib.hid hn
  replace hO := Lib.hid hO
  replace hbits := Lib.hid hbits
  refine callsIn_of_wp Tryd.func49 rfl trivial ?_ rfl
  simp only [Tryd.ntmps49, List.size_toArray, List.length_cons, List.length_nil, Nat.reduceAdd, Nat.reduceSub, Array.replicate_succ, Array.replicate_zero, List.push_toArray, List.append_toArray, List.nil_append, List.cons_append]
  gi_wp2
  gi_loopw [7] (fun v wr => ∃ a : Nat, v = .int .i64 (a : Nat) ∧ a ≤ n ∧ (∀ j, j < a → ((List.range j).all fun b => decide (0 ≤ leastI up (up.getD j 0 &&& up.getD b 0))) = true) ∧ Below w.heap.size w wr) (fun v wr => n - natOf v)
  case atStart => exact ⟨0, rfl, by omega, fun j h => absurd h (by omega), Below.refl _ _⟩
  case round =>
    obtain ⟨a, rfl, han, hrow, hB⟩ := hrel
    by_cases ha : a < n
    · have hlt : ((a : Int) < (n : Int)) := by omega
      replace hrow := Lib.hid hrow
      replace hB := Lib.hid hB
      gi_wp2
      gi_loopw [11] (fun v wr => ∃ b : Nat, v = .int .i64 (b : Nat) ∧ b ≤ a ∧ (∀ j, j < b → 0 ≤ leastI up (up.getD a 0 &&& up.getD j 0)) ∧ Below w.heap.size w wr) (fun v wr => a - natOf v)
      case atStart => exact ⟨0, rfl, by omega, fun j h => absurd h (by omega), hB.out⟩
      case round =>
        obtain ⟨b, rfl, hba, hcol, hB2⟩ := hrel
        by_cases hb : b < a
        · have hlt2 : ((b : Int) < (a : Int)) := by omega
          have hbn : b < n := by omega
          have hlt3 : ((b : Int) < (n : Int)) := by omega
          obtain ⟨ad, hA, hbk, hc1⟩ := reads_mask hn.out (hr.out.below hB2) ha
          obtain ⟨ad', hA', hbk', hc2⟩ := reads_mask hn.out (hr.out.below hB2) hbn
          subst hA
          injection hA' with hA'
          subst hA'
          have hand := u64_and_eq (up.getD a 0) (up.getD b 0) (hM.out a) (hM.out b)
          have hlt4 : up.getD a 0 &&& up.getD b 0 < 2 ^ 64 := Nat.lt_of_le_of_lt Nat.and_le_left (hM.out a)
          have hbs := hbits.out a ha b
          generalize hx : up.getD a 0 = x at *
          generalize hy : up.getD b 0 = y at *
          have hB3 := fun k => below_drewNs hB2 k
          replace hB3 := Lib.hid hB3
          replace hcol := Lib.hid hcol
          replace hbs := Lib.hid hbs
          replace hB2 := Lib.hid hB2
          by_cases hneg : leastI up (x &&& y) < 0
          · have hres : eachB up = false := by
              unfold eachB
              rw [List.all_eq_false]
              refine ⟨a, List.mem_range.2 (by have := hn.out; omega), ?_⟩
              rw [Bool.not_eq_true, List.all_eq_false]
              refine ⟨b, List.mem_range.2 hb, ?_⟩
              rw [hx, hy]
              simp; omega
            replace hres := Lib.hid hres
            gi_wp2
            (refine wpIn_region_quiet_tail 10 (by kernel_rfl) (by kernel_rfl) ?_; simp only [List.take_succ_cons, List.take_zero, List.drop_succ_cons, List.drop_zero]; (repeat (first | gi_big_quiet_step (fail) | (refine wpQuietIn_pass (fun _ _ _ _ => trivial) (by rfl) rfl ?_; simp only [List.setIfInBounds_toArray, List.set_cons_succ, List.set_cons_zero]) | (refine wpQuietIn_step (fun _ _ _ _ => trivial) ?_; intro K hK; refine Eq.mpr (if_pos (by rfl)) ?_; gi_big_quiet_op; gi_big_quiet_call ((fail))))); refine wpQuietIn_nil ?_; intro _ hw'; obtain ⟨nq, hw''⟩ := hw'; subst hw'')
            gi_wp2_with (refine ⟨trivial, ?_⟩; gi_at_call 50; refine (callsIn_wide.2 (least_any _ _ _ up _ _ (hT.out.later (hB3.out _)) hn.out hM.out hlt4 hbs.out ((hr.out.below (hB3.out _)).more (hB3.out _).size))).mono ?_; rintro e w' ⟨rfl, hb3⟩)
            go_ret
            exact ⟨by rw [hres.out]; rfl, (hB3.out _).trans (hb3.mono (hB3.out _).size)⟩
          · have hge : 0 ≤ leastI up (x &&& y) := by omega
            gi_wp2
            (refine wpIn_region_quiet_tail 10 (by kernel_rfl) (by kernel_rfl) ?_; simp only [List.take_succ_cons, List.take_zero, List.drop_succ_cons, List.drop_zero]; (repeat (first | gi_big_quiet_step (fail) | (refine wpQuietIn_pass (fun _ _ _ _ => trivial) (by rfl) rfl ?_; simp only [List.setIfInBounds_toArray, List.set_cons_succ, List.set_cons_zero]) | (refine wpQuietIn_step (fun _ _ _ _ => trivial) ?_; intro K hK; refine Eq.mpr (if_pos (by rfl)) ?_; gi_big_quiet_op; gi_big_quiet_call ((fail))))); refine wpQuietIn_nil ?_; intro _ hw'; obtain ⟨nq, hw''⟩ := hw'; subst hw'')
            gi_wp2_with (refine ⟨trivial, ?_⟩; gi_at_call 50; refine (callsIn_wide.2 (least_any _ _ _ up _ _ (hT.out.later (hB3.out _)) hn.out hM.out hlt4 hbs.out ((hr.out.below (hB3.out _)).more (hB3.out _).size))).mono ?_; rintro e w' ⟨rfl, hb3⟩)
            go_roundw
            case rel =>
              refine ⟨b + 1, by go_num, by omega, fun j hj => ?_, (hB3.out _).trans (hb3.mono (hB3.out _).size)⟩
              by_cases hjb : j < b
              · exact hcol.out j hjb
              · have hje : j = b := by omega
                rw [hje, hy]
                exact hge
            case measure => simp [natOf]; omega
        · have hba' : b = a := by omega
          subst hba'
          have hlt2 : ¬ ((b : Int) < (b : Int)) := by omega
          replace hcol := Lib.hid hcol
          replace hB2 := Lib.hid hB2
          gi_wp2
          go_roundw
          case rel =>
            refine ⟨b + 1, by go_num, by omega, fun j hj => ?_, hB2.out⟩
            by_cases hjb : j < b
            · exact hrow.out j hjb
            · have hje : j = b := by omega
              rw [hje, List.all_eq_true]
              intro k hk
              exact decide_eq_true (hcol.out k (List.mem_range.1 hk))
          case measure => simp [natOf]; omega
    · have han' : a = n := by omega
      subst han'
      have hlt : ¬ ((a : Int) < (a : Int)) := by omega
      have hres : eachB up = true := by
        unfold eachB
        rw [List.all_eq_true]
        exact fun j hj => hrow j (by have := List.mem_range.1 hj; have := hn.out; omega)
      replace hres := Lib.hid hres
      replace hrow := Lib.hid hrow
      replace hB := Lib.hid hB
      gi_wp2
      go_ret
      exact ⟨by rw [hres.out]; rfl, hB.out⟩

end Go.Proofs.YtleckdbdhkgcpaaDoor
