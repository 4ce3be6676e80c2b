/- The reference's Covers. -/
import Derived.Test.YtaclogfchlphlaaDoorCw
import Derived.Test.YtaclogfchlphlaaDoorRj
namespace Go.Idl
def pC (up : List Nat) (a b : Nat) : Bool := decide (a ≠ b) && le up a b
def qC (up : List Nat) (a b m : Nat) : Bool := decide (m = a) || decide (m = b) || !le up a m || !le up m b
theorem isCover_pq (up : List Nat) (a b : Nat) : isCover up a b = (pC up a b && (List.range up.length).all (qC up a b)) := rfl
/-- The covers of the rows below a, and those of row a below b. -/
def covB (up : List Nat) (a b : Nat) : List (Nat × Nat) := (List.range a).flatMap (coversAt up) ++ ((List.range b).filter (isCover up a)).map fun b => (a, b)
theorem covB_yes {up : List Nat} {a b : Nat} (h : isCover up a b = true) : covB up a (b + 1) = covB up a b ++ [(a, b)] := by
  unfold covB
  rw [List.range_succ, List.filter_append, List.filter_cons_of_pos h, List.filter_nil, List.map_append, ← List.append_assoc]
  rfl
theorem covB_no {up : List Nat} {a b : Nat} (h : isCover up a b = false) : covB up a (b + 1) = covB up a b := by
  unfold covB
  rw [List.range_succ, List.filter_append, List.filter_cons_of_neg (by rw [h]; simp), List.filter_nil, List.append_nil]
theorem covB_row (up : List Nat) (a : Nat) : covB up a up.length = covB up (a + 1) 0 := by
  unfold covB
  rw [List.range_succ, List.flatMap_append, List.flatMap_cons, List.flatMap_nil, List.append_nil]
  unfold coversAt
  simp
theorem covB_end (up : List Nat) : covB up up.length 0 = coversL up := by
  unfold covB coversL
  simp
theorem covB_len (up : List Nat) (h64 : up.length ≤ 64) (a b : Nat) : (covB up a b).length ≤ 64 * a + b := by
  have h1 : ∀ a, ((List.range a).flatMap (coversAt up)).length ≤ 64 * a := by
    intro a
    induction a with
    | zero => simp
    | succ a ih =>
      rw [List.range_succ, List.flatMap_append, List.length_append, List.flatMap_cons, List.flatMap_nil, List.append_nil]
      have : (coversAt up a).length ≤ up.length := by
        unfold coversAt
        rw [List.length_map]
        exact Nat.le_trans (List.length_filter_le _ _) (by simp)
      omega
  unfold covB
  rw [List.length_append, List.length_map]
  have := h1 a
  have h2 : ((List.range b).filter (isCover up a)).length ≤ b := Nat.le_trans (List.length_filter_le _ _) (by simp)
  omega
end Go.Idl
namespace Go.Proofs.YtaclogfchlphlaaDoor
open Go.RowKit Go.Shelf Go.Idl

theorem pairVals_snoc (L : List (Nat × Nat)) (a b : Nat) : pairVals (intP L) ++ [Value.int .i64 (a : Nat), Value.int .i64 (b : Nat)] = pairVals (intP (L ++ [(a, b)])) := by
  rw [intP_append]
  unfold pairVals
  rw [List.flatMap_append]
  rfl
/-- What has been found lies in a row of the call's own. -/
structure CovR (w : World) (L : List (Nat × Nat)) (v : Value) (W : World) : Prop where
  row : ∃ A' c', v = .slice A' L.length c' ∧ W.ownsRow w.heap.size 33 2 (.slice A' L.length c') L.length (pairVals (intP L))
  bw : Below w.heap.size w W

set_option maxHeartbeats 8000000 in
set_option maxRecDepth 100000 in
theorem rcovers_any (A : Option Addr) (n c : Nat) (up : List Nat) (w : World) (hn : up.length = n) (h64 : n ≤ 64) (hM : Masks up) (hr : Reads w w.heap.size 1 A n (u64s up)) :
    Calls Tryd.prog 25 #[.slice A n c] w fun e w' => ∃ A' c', e = .returned (.slice A' (coversL up).length c') ∧
      w'.ownsRow w.heap.size 33 2 (.slice A' (coversL up).length c') (coversL up).length (pairVals (intP (coversL up))) ∧ Below w.heap.size w w' := by
  have hml : maxLen = 9223372036854775807 := rfl
  obtain ⟨i0, hi0, hz0, hz1, hz2⟩ := info_parts pair_info
  have hlen := fun a b => covB_len up (by omega) a b
  replace hlen := Lib.hid hlen
  replace hr := Lib.hid hr
  replace hM := Lib.hid hM
  replace hn := Lib.hid hn
  go_enter Tryd.func25, Tryd.ntmps25
  go_wp2
  go_loopw [3, 4] (fun v3 v4 wr => ∃ a : Nat, v4 = .int .i64 (a : Nat) ∧ a ≤ n ∧ CovR w (covB up a 0) v3 wr) (fun v3 v4 wr => n - natOf v4)
  case atStart => exact ⟨0, rfl, by omega, ⟨none, 0, rfl, World.ownsRow_nil _ _ _ _⟩, Below.refl _ _⟩
  case round =>
    obtain ⟨a, rfl, han, hcv⟩ := hrel
    by_cases ha : a < n
    · have hlt : ((a : Int) < (n : Int)) := by omega
      replace hcv := Lib.hid hcv
      go_wp2
      go_loopw [3, 5] (fun v3 v5 wr => ∃ b : Nat, v5 = .int .i64 (b : Nat) ∧ b ≤ n ∧ CovR w (covB up a b) v3 wr) (fun v3 v5 wr => n - natOf v5)
      case atStart => exact ⟨0, rfl, by omega, hcv.out⟩
      case round =>
        obtain ⟨b, rfl, hbn, ⟨⟨A', c', rfl, hown⟩, hB⟩⟩ := hrel
        by_cases hb : b < n
        · have hlt1 : ((b : Int) < (n : Int)) := by omega
          have hAb := fun (i j : Nat) (hi : i < n) (hj : j < 64) => above_any A n c up i j wr hn.out hM.out hi hj ((hr.out.below hB).more hB.size)
          have hpe : pC up a b = (decide (a ≠ b) && le up a b) := rfl
          have hpq := isCover_pq up a b
          rw [hn.out] at hpq
          have hln := hlen.out a b
          obtain ⟨L, hL⟩ : ∃ L, covB up a b = L := ⟨_, rfl⟩
          rw [hL] at hown hln ⊢
          replace hL := Lib.hid hL
          replace hAb := Lib.hid hAb
          replace hown := Lib.hid hown
          replace hB := Lib.hid hB
          replace hpq := Lib.hid hpq
          generalize hp : pC up a b = p at hpe
          replace hp := Lib.hid hp
          have hno : ∀ (h0 : isCover up a b = false) , CovR w (covB up a (b + 1)) (.slice A' L.length c') wr := fun h0 => ⟨⟨A', c', by rw [covB_no h0, hL.out], by rw [covB_no h0, hL.out]; exact hown.out⟩, hB.out⟩
          replace hno := Lib.hid hno
          by_cases hab : a = b <;> cases h1 : le up a b <;> (
            first
              | (have hne : ((a : Int) != (b : Int)) = false := by rw [hab]; simp
                 rw [h1, decide_eq_false (fun h => h hab)] at hpe)
              | (have hne : ((a : Int) != (b : Int)) = true := by simp; omega
                 rw [h1, decide_eq_true hab] at hpe)
            simp at hpe
            subst hpe
            replace hab := Lib.hid hab
            go_wp2_with (go_at_call 31; refine (hAb.out _ _ (by omega) (by omega)).mono ?_; rintro e w1 ⟨rfl, rfl⟩; simp only [h1])
            replace h1 := Lib.hid h1
            go_loopw [6, 7] (fun v8 v9 wr' => ∃ m : Nat, v9 = .int .i64 (m : Nat) ∧ m ≤ n ∧ v8 = .bool (pC up a b && (List.range m).all (qC up a b)) ∧ wr' = wr) (fun v8 v9 wr' => n - natOf v9)
            case atStart => exact ⟨0, rfl, by omega, by rw [hp.out]; rfl, rfl⟩
            case round =>
              obtain ⟨m, rfl, hmn, rfl, rfl⟩ := hrel
              cases hs : (pC up a b && (List.range m).all (qC up a b)) with
              | false =>
                have hcf : isCover up a b = false := by
                  rw [isCover_pq, hn.out]
                  rw [Bool.and_eq_false_iff] at hs ⊢
                  exact hs.imp id (fun h => all_less hmn h)
                have hrel1 := Lib.hid (hno.out hcf)
                replace hs := Lib.hid hs
                replace hcf := Lib.hid hcf
                by_cases hm : m < n
                · have hlt2 : ((m : Int) < (n : Int)) := by omega
                  go_wp2
                  go_roundw
                  case rel => exact ⟨b + 1, by go_num, by omega, hrel1.out⟩
                  case measure => simp [natOf]; omega
                · have hlt2 : ¬ ((m : Int) < (n : Int)) := by omega
                  go_wp2
                  go_roundw
                  case rel => exact ⟨b + 1, by go_num, by omega, hrel1.out⟩
                  case measure => simp [natOf]; omega
              | true =>
                by_cases hm : m < n
                · have hlt2 : ((m : Int) < (n : Int)) := by omega
                  rw [Bool.and_eq_true] at hs
                  have hqe : qC up a b m = (decide (m = a) || decide (m = b) || !le up a m || !le up m b) := rfl
                  have d1 : decide (m = a) = ((m : Int) == (a : Int)) := by rw [Bool.eq_iff_iff]; simp; omega
                  have d2 : decide (m = b) = ((m : Int) == (b : Int)) := by rw [Bool.eq_iff_iff]; simp; omega
                  rw [d1, d2] at hqe
                  clear d1 d2
                  replace hs := Lib.hid hs
                  cases h6 : ((m : Int) == (a : Int)) <;> cases h7 : ((m : Int) == (b : Int)) <;> cases h3 : le up a m <;> cases h4 : le up m b <;> (
                    rw [h6, h7, h3, h4] at hqe
                    replace hqe := Lib.hid hqe
                    go_wp2_with (go_at_call 31; refine (hAb.out _ _ (by omega) (by omega)).mono ?_; rintro e w1 ⟨rfl, rfl⟩; simp only [h3, h4])
                    go_roundw
                    case rel =>
                      refine ⟨m + 1, by go_num, by omega, ?_, by trivial⟩
                      rw [all_succ, hs.out.1, hs.out.2, hqe.out]
                      rfl
                    case measure => simp [natOf]; omega)
                · have hme : m = n := by omega
                  have hlt2 : ¬ ((m : Int) < (n : Int)) := by omega
                  have hyes : isCover up a b = true := by
                    rw [isCover_pq, hn.out, ← hme]
                    exact hs
                  have hcy := covB_yes hyes
                  rw [hL.out] at hcy
                  have hbase := hB.out.size
                  replace hcy := Lib.hid hcy
                  replace hs := Lib.hid hs
                  replace hyes := Lib.hid hyes
                  go_wp2_with (at_builtin; refine wpList_append_new wr rfl _ _ 22 rfl w.heap.size 33 i0 (.agg #[.int .i64 0, .int .i64 0]) 2 16 Tryd.underlying22 hi0 hz0 hz1 hz2 rfl (by decide) (.slice A' L.length c') L.length (pairVals (intP L)) rfl hown.out 1 1 [.int .i64 (a : Nat), .int .i64 (b : Nat)] rfl rfl (by simp [Value.oneCell']) (by omega) (by omega) hbase ?_; intro A2 c2 w4 hown2 hb5; replace hown2 := Lib.hid hown2; replace hb5 := Lib.hid hb5)
                  go_roundw
                  case rel =>
                    refine ⟨b + 1, by go_num, by omega, ⟨A2, c2, ?_, ?_⟩, hB.out.trans hb5.out⟩
                    · rw [hcy.out, List.length_append]; rfl
                    · rw [hcy.out, List.length_append, ← pairVals_snoc]
                      exact hown2.out
                  case measure => simp [natOf]; omega)
        · have hbe : b = n := by omega
          have hlt1 : ¬ ((b : Int) < (n : Int)) := by omega
          have hrow : covB up a b = covB up (a + 1) 0 := by rw [hbe, ← hn.out]; exact covB_row up a
          rw [hrow] at hown ⊢
          replace hown := Lib.hid hown
          replace hB := Lib.hid hB
          replace hrow := Lib.hid hrow
          go_wp2
          go_roundw
          case rel => exact ⟨a + 1, by go_num, by omega, ⟨A', c', rfl, hown.out⟩, hB.out⟩
          case measure => simp [natOf]; omega
    · have hae : a = n := by omega
      have hlt : ¬ ((a : Int) < (n : Int)) := by omega
      have hend : covB up a 0 = coversL up := by rw [hae, ← hn.out]; exact covB_end up
      rw [hend] at hcv
      obtain ⟨⟨A', c', rfl, hown⟩, hB⟩ := hcv
      replace hown := Lib.hid hown
      replace hB := Lib.hid hB
      replace hend := Lib.hid hend
      go_wp2
      go_ret
      exact ⟨A', c', rfl, hown.out, hB.out⟩

end Go.Proofs.YtaclogfchlphlaaDoor
