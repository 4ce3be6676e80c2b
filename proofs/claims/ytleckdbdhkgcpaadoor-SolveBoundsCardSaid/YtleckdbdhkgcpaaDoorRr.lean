/- The reference's Order and Right. -/
import Derived.Test.YtleckdbdhkgcpaaDoorRj
import Derived.Test.YtleckdbdhkgcpaaDoorBd
namespace Go.Idl
/-- What the reference asks of one level above another. -/
def rowK (up : List Nat) (i k : Nat) : Bool := !(le up i k) || (decide (k < up.length) && (k == i || !(le up k i)) && subB (up.getD k 0) (up.getD i 0))
theorem rowB_eq (up : List Nat) (i : Nat) : rowB up i = (le up i i && (List.range 64).all (rowK up i)) := rfl
theorem ordB_row {up : List Nat} {i : Nat} (hi : i < up.length) (h : rowB up i = false) : ordB up = false := by
  unfold ordB
  have h2 : (List.range up.length).all (rowB up) = false := by
    rw [List.all_eq_false]
    exact ⟨i, List.mem_range.2 hi, by rw [h]; simp⟩
  rw [h2, Bool.and_false]
theorem rowB_no {up : List Nat} {i k : Nat} (hk : k < 64) (h : rowK up i k = false) : rowB up i = false := by
  rw [rowB_eq]
  have h2 : (List.range 64).all (rowK up i) = false := by
    rw [List.all_eq_false]
    exact ⟨k, List.mem_range.2 hk, by rw [h]; simp⟩
  rw [h2, Bool.and_false]
end Go.Idl
namespace Go.Proofs.YtleckdbdhkgcpaaDoor
open Go.RowKit Go.Shelf Go.Idl

theorem quiet_plain {P : Program} {f : FuncId} {args : Array Value} {w : World} {q n : Nat} {v : Value}
    (h : Calls P f args (w.drewN (q + n)) fun e w' => e = .returned v ∧ w.drewN (q + n) = w') : Calls P f args (w.drewN (q + n)) fun e w'' => e = .returned v ∧ ∃ m, w'' = w.drewN (q + m) :=
  h.mono fun _ _ ⟨he, hm⟩ => ⟨he, n, hm.symm⟩

set_option maxHeartbeats 8000000 in
set_option maxRecDepth 100000 in
theorem rorder_any (A : Option Addr) (n c : Nat) (up : List Nat) (w : World) (hn : up.length = n) (hn63 : n ≤ maxLen) (hM : Masks up) (hr : Reads w w.heap.size 1 A n (u64s up)) :
    Calls Tryd.prog 43 #[.slice A n c] w fun e w' => e = .returned (.bool (ordB up)) ∧ Below w.heap.size w w' := by
  have hml : maxLen = 9223372036854775807 := rfl
  by_cases hn1 : n < 1
  · have e : ordB up = false := by unfold ordB; rw [hn]; simp; omega
    have h1 : (n : Int) < 1 := by omega
    replace hr := Lib.hid hr
    replace hM := Lib.hid hM
    replace hn := Lib.hid hn
    replace e := Lib.hid e
    go_enter Tryd.func43, Tryd.ntmps43
    go_wp2
    go_ret
    exact ⟨by rw [e.out]; rfl, Below.refl _ _⟩
  by_cases hn64 : 64 < n
  · have e : ordB up = false := by
      unfold ordB
      rw [show decide (up.length ≤ 64) = false by simp; omega]
      simp
    have h1 : ¬ ((n : Int) < 1) := by omega
    have h2 : (64 : Int) < (n : Int) := by omega
    replace hr := Lib.hid hr
    replace hM := Lib.hid hM
    replace hn := Lib.hid hn
    replace e := Lib.hid e
    go_enter Tryd.func43, Tryd.ntmps43
    go_wp2
    go_ret
    exact ⟨by rw [e.out]; rfl, Below.refl _ _⟩
  have h1 : ¬ ((n : Int) < 1) := by omega
  have h2 : ¬ ((64 : Int) < (n : Int)) := by omega
  have hAb := fun (q i j : Nat) (hi : i < n) (hj : j < 64) => above_any A n c up i j (w.drewN q) hn hM hi hj (hr.drewN q)
  replace hAb := Lib.hid hAb
  replace hr := Lib.hid hr
  replace hM := Lib.hid hM
  replace hn := Lib.hid hn
  go_enter Tryd.func43, Tryd.ntmps43
  go_wp2
  go_loopw [3] (fun v wr => ∃ i : Nat, v = .int .i64 (i : Nat) ∧ i ≤ n ∧ (∀ j, j < i → rowB up j = true) ∧ ∃ q, wr = w.drewN q) (fun v wr => n - natOf v)
  case atStart => exact ⟨0, rfl, by omega, fun j h => absurd h (by omega), 0, rfl⟩
  case round =>
    obtain ⟨i, rfl, hin, hall, q, rfl⟩ := hrel
    by_cases hi : i < n
    · have hlt : ((i : Int) < (n : Int)) := by omega
      replace hall := Lib.hid hall
      cases hii : le up i i with
      | false =>
        have hno : ordB up = false := ordB_row (by rw [hn.out]; exact hi) (by rw [rowB_eq, hii]; rfl)
        replace hno := Lib.hid hno
        go_wp2_with (go_at_call 33; refine (hAb.out _ _ _ (by omega) (by omega)).mono ?_; rintro e w1 ⟨rfl, rfl⟩; simp only [hii])
        go_ret
        exact ⟨by rw [hno.out]; rfl, below_drewN (Below.refl _ _) _⟩
      | true =>
        go_wp2_with (go_at_call 33; refine (hAb.out _ _ _ (by omega) (by omega)).mono ?_; rintro e w1 ⟨rfl, rfl⟩; simp only [hii])
        have hii' := Lib.hid hii
        clear hii
        go_loopw [4] (fun v wr => ∃ k : Nat, v = .int .i64 (k : Nat) ∧ k ≤ 64 ∧ (∀ j, j < k → rowK up i j = true) ∧ ∃ q, wr = w.drewN q) (fun v wr => 64 - natOf v)
        case atStart => exact ⟨0, rfl, by omega, fun j h => absurd h (by omega), q, rfl⟩
        case round =>
          obtain ⟨k, rfl, hk64, hrow, q2, rfl⟩ := hrel
          by_cases hk : k < 64
          · have hlt2 : ((k : Int) < 64) := by omega
            replace hrow := Lib.hid hrow
            cases hik : le up i k with
            | false =>
              have hrk : rowK up i k = true := by unfold rowK; rw [hik]; rfl
              replace hrk := Lib.hid hrk
              go_wp2_with (go_at_call 33; refine (hAb.out _ _ _ (by omega) (by omega)).mono ?_; rintro e w1 ⟨rfl, rfl⟩; simp only [hik])
              go_roundw
              case rel =>
                refine ⟨k + 1, by go_num, by omega, fun j hj => ?_, q2, rfl⟩
                by_cases hjk : j < k
                · exact hrow.out j hjk
                · have hje : j = k := by omega
                  rw [hje]
                  exact hrk.out
              case measure => simp [natOf]; omega
            | true =>
              by_cases hkn : k < n
              · have hltk : ((k : Int) < (n : Int)) := by omega
                have hnk : decide (n ≤ k) = false := decide_eq_false (by omega)
                obtain ⟨ad, hA, hbk, hck⟩ := reads_mask hn.out hr.out hkn
                obtain ⟨ad', hA', hbk', hci⟩ := reads_mask hn.out hr.out hi
                subst hA
                injection hA' with hA'
                subst hA'
                have hor := u64_or_eq (up.getD k 0) (up.getD i 0) (hM.out k) (hM.out i)
                have hRK : rowK up i k = ((k == i || !(le up k i)) && subB (up.getD k 0) (up.getD i 0)) := by
                  unfold rowK
                  rw [hik, hn.out, decide_eq_true hkn]
                  simp
                have hsb : subB (up.getD k 0) (up.getD i 0) = decide (up.getD k 0 ||| up.getD i 0 = up.getD i 0) := rfl
                rw [hsb] at hRK
                clear hsb
                by_cases hki0 : k = i
                · subst hki0
                  have hne : ((k : Int) != (k : Int)) = false := by simp
                  clear hor
                  have hor := u64_or_eq (up.getD k 0) (up.getD k 0) (hM.out k) (hM.out k)
                  rw [Nat.or_self] at hor
                  have hrk : rowK up k k = true := by rw [hRK]; simp
                  replace hrk := Lib.hid hrk
                  clear hRK hci
                  generalize up.getD k 0 = x at *
                  go_wp2_with (go_at_call 33; refine (hAb.out _ _ _ (by omega) (by omega)).mono ?_; rintro e w1 ⟨rfl, rfl⟩; simp only [hik])
                  go_quiet (fail)
                  go_wp2
                  go_roundw
                  case rel =>
                    refine ⟨k + 1, by go_num, by omega, fun j hj => ?_, _, rfl⟩
                    by_cases hjk : j < k
                    · exact hrow.out j hjk
                    · have hje : j = k := by omega
                      rw [hje]
                      exact hrk.out
                  case measure => simp [natOf]; omega
                · generalize up.getD k 0 = x at *
                  generalize up.getD i 0 = y at *
                  have hne : ((k : Int) != (i : Int)) = true := by simp; omega
                  have hnei : ¬ ((k : Int) = (i : Int)) := by omega
                  rw [show (k == i) = false by simpa using hki0, Bool.false_or] at hRK
                  replace hki0 := Lib.hid hki0
                  cases hki : le up k i with
                  | true =>
                    rw [hki] at hRK
                    have hCall : ∀ q, Calls Tryd.prog 33 #[.slice (some ad) n c, .int .i64 (k : Nat), .int .i64 (i : Nat)] (w.drewN (q2 + q)) fun e w' => e = .returned (.bool true) ∧ w.drewN (q2 + q) = w' := fun q => by
                      have h := above_any (some ad) n c up k i (w.drewN (q2 + q)) hn.out hM.out (by omega) (by omega) (hr.out.drewN (q2 + q))
                      rw [hki] at h
                      exact h
                    replace hCall := Lib.hid hCall
                    replace hRK := Lib.hid hRK
                    have hno : ordB up = false := ordB_row (by rw [hn.out]; exact hi) (rowB_no hk (by rw [hRK.out]; rfl))
                    replace hno := Lib.hid hno
                    go_wp2_with (go_at_call 33; refine (hAb.out _ _ _ (by omega) (by omega)).mono ?_; rintro e w1 ⟨rfl, rfl⟩; simp only [hik])
                    go_quiet (first | (go_at_call 33; exact quiet_plain (hCall.out _)))
                    go_wp2
                    go_ret
                    exact ⟨by rw [hno.out]; rfl, below_drewN (below_drewN (Below.refl _ _) _) _⟩
                  | false =>
                    rw [hki] at hRK
                    have hCall : ∀ q, Calls Tryd.prog 33 #[.slice (some ad) n c, .int .i64 (k : Nat), .int .i64 (i : Nat)] (w.drewN (q2 + q)) fun e w' => e = .returned (.bool false) ∧ w.drewN (q2 + q) = w' := fun q => by
                      have h := above_any (some ad) n c up k i (w.drewN (q2 + q)) hn.out hM.out (by omega) (by omega) (hr.out.drewN (q2 + q))
                      rw [hki] at h
                      exact h
                    replace hCall := Lib.hid hCall
                    simp only [Bool.not_false, Bool.true_and] at hRK
                    by_cases hxy : x ||| y = y
                    · rw [decide_eq_true hxy] at hRK
                      have hor2 : (((x ||| y : Nat) : Int) != (y : Int)) = false := by rw [hxy]; simp
                      replace hRK := Lib.hid hRK
                      replace hxy := Lib.hid hxy
                      have hrk : rowK up i k = true := (hRK.out)
                      replace hrk := Lib.hid hrk
                      go_wp2_with (go_at_call 33; refine (hAb.out _ _ _ (by omega) (by omega)).mono ?_; rintro e w1 ⟨rfl, rfl⟩; simp only [hik])
                      go_quiet (first | (go_at_call 33; exact quiet_plain (hCall.out _)))
                      go_wp2
                      go_roundw
                      case rel =>
                        refine ⟨k + 1, by go_num, by omega, fun j hj => ?_, _, rfl⟩
                        by_cases hjk : j < k
                        · exact hrow.out j hjk
                        · have hje : j = k := by omega
                          rw [hje]
                          exact hrk.out
                      case measure => simp [natOf]; omega
                    · rw [decide_eq_false hxy] at hRK
                      have hor2 : (((x ||| y : Nat) : Int) != (y : Int)) = true := by simp; omega
                      replace hRK := Lib.hid hRK
                      replace hxy := Lib.hid hxy
                      have hno : ordB up = false := ordB_row (by rw [hn.out]; exact hi) (rowB_no hk (hRK.out))
                      replace hno := Lib.hid hno
                      go_wp2_with (go_at_call 33; refine (hAb.out _ _ _ (by omega) (by omega)).mono ?_; rintro e w1 ⟨rfl, rfl⟩; simp only [hik])
                      go_quiet (first | (go_at_call 33; exact quiet_plain (hCall.out _)))
                      go_wp2
                      go_ret
                      exact ⟨by rw [hno.out]; rfl, below_drewN (below_drewN (Below.refl _ _) _) _⟩
              · have hltk : ¬ ((k : Int) < (n : Int)) := by omega
                have hgek : (n : Int) ≤ (k : Int) := by omega
                have hnk : decide (n ≤ k) = true := decide_eq_true (by omega)
                have hno : ordB up = false := ordB_row (by rw [hn.out]; exact hi) (rowB_no hk (by unfold rowK; rw [hik, hn.out, decide_eq_false hkn]; rfl))
                replace hno := Lib.hid hno
                go_wp2_with (go_at_call 33; refine (hAb.out _ _ _ (by omega) (by omega)).mono ?_; rintro e w1 ⟨rfl, rfl⟩; simp only [hik])
                go_quiet (fail)
                go_wp2
                go_ret
                exact ⟨by rw [hno.out]; rfl, below_drewN (below_drewN (Below.refl _ _) _) _⟩
          · have hke : k = 64 := by omega
            have hlt2 : ¬ ((k : Int) < 64) := by omega
            have hri : rowB up i = true := by
              rw [rowB_eq, hii'.out, Bool.true_and, List.all_eq_true]
              exact fun j hj => hrow j (by have := List.mem_range.1 hj; omega)
            replace hri := Lib.hid hri
            replace hrow := Lib.hid hrow
            go_wp2
            go_roundw
            case rel =>
              refine ⟨i + 1, by go_num, by omega, fun j hj => ?_, q2, rfl⟩
              by_cases hjk : j < i
              · exact hall.out j hjk
              · have hje : j = i := by omega
                rw [hje]
                exact hri.out
            case measure => simp [natOf]; omega
    · have hie : i = n := by omega
      have hlt : ¬ ((i : Int) < (n : Int)) := by omega
      have e : ordB up = true := by
        unfold ordB
        rw [show decide (1 ≤ up.length) = true by simp; have := hn.out; omega, show decide (up.length ≤ 64) = true by simp; have := hn.out; omega]
        simp only [Bool.true_and, List.all_eq_true, List.mem_range]
        intro j hj
        exact hall j (by have := hn.out; omega)
      replace e := Lib.hid e
      replace hall := Lib.hid hall
      go_wp2
      go_ret
      exact ⟨by rw [e.out]; rfl, below_drewN (Below.refl _ _) _⟩

end Go.Proofs.YtleckdbdhkgcpaaDoor
