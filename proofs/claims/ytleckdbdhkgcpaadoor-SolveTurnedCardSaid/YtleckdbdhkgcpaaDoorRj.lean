/- The reference's Above, Join, Meet, Right of masks. -/
import Derived.Test.YtleckdbdhkgcpaaDoorRh
import Derived.Test.YtleckdbdhkgcpaaDoorRi
namespace Go.Idl
def pJ (up : List Nat) (a b k : Nat) : Bool := le up a k && le up b k
def qJ (up : List Nat) (a b k m : Nat) : Bool := !le up a m || !le up b m || le up k m
def pM (up : List Nat) (a b k : Nat) : Bool := le up k a && le up k b
def qM (up : List Nat) (a b k m : Nat) : Bool := !le up m a || !le up m b || le up m k
theorem isJoin_pq (up : List Nat) (a b k : Nat) : isJoinB up a b k = (pJ up a b k && (List.range up.length).all (qJ up a b k)) := rfl
theorem isMeet_pq (up : List Nat) (a b k : Nat) : isMeetB up a b k = (pM up a b k && (List.range up.length).all (qM up a b k)) := rfl
theorem all_succ (n : Nat) (q : Nat → Bool) : (List.range (n + 1)).all q = ((List.range n).all q && q n) := by
  rw [List.range_succ, List.all_append]
  simp
theorem all_less {m n : Nat} (h : m ≤ n) {q : Nat → Bool} (hf : (List.range m).all q = false) : (List.range n).all q = false := by
  rw [List.all_eq_false] at hf ⊢
  obtain ⟨x, hx, hq⟩ := hf
  exact ⟨x, List.mem_range.2 (by have := List.mem_range.1 hx; omega), hq⟩
end Go.Idl
namespace Go.Proofs.YtleckdbdhkgcpaaDoor
open Go.RowKit Go.Shelf Go.Idl

theorem above_any (A : Option Addr) (n c : Nat) (up : List Nat) (a b : Nat) (w : World) (hn : up.length = n) (hM : Masks up) (ha : a < n) (hb : b < 64) (hr : Reads w w.heap.size 1 A n (u64s up)) :
    Calls Tryd.prog 33 #[.slice A n c, .int .i64 (a : Nat), .int .i64 (b : Nat)] w fun e w' => e = .returned (.bool (le up a b)) ∧ w = w' := by
  obtain ⟨ad, hA, hbk, hc⟩ := reads_mask hn hr ha
  subst hA
  have hl := has_le up a b hb
  have hm := hM a
  have hlt : ((a : Int) < (n : Int)) := by omega
  replace hr := Lib.hid hr
  replace hM := Lib.hid hM
  generalize le up a b = q at *
  generalize up.getD a 0 = m at *
  go_enter Tryd.func33, Tryd.ntmps33
  go_wp2_with fail
  refine (rhas_any m b _ hm).mono ?_
  rintro e w1 ⟨rfl, rfl⟩
  go_wp2
  go_ret
  exact ⟨by simp, rfl⟩

set_option maxHeartbeats 8000000 in
set_option maxRecDepth 100000 in
theorem rjoin_any (A : Option Addr) (n c : Nat) (up : List Nat) (a b : Nat) (w : World) (hn : up.length = n) (h64 : n ≤ 64) (hM : Masks up) (ha : a < n) (hb : b < n) (hr : Reads w w.heap.size 1 A n (u64s up)) :
    Calls Tryd.prog 32 #[.slice A n c, .int .i64 (a : Nat), .int .i64 (b : Nat)] w fun e w' => e = .returned (.int .i64 (joinI up a b)) ∧ w = w' := by
  have hAb := fun (i j : Nat) (hi : i < n) (hj : j < 64) => above_any A n c up i j w hn hM hi hj hr
  replace hAb := Lib.hid hAb
  replace hr := Lib.hid hr
  replace hM := Lib.hid hM
  replace hn := Lib.hid hn
  go_enter Tryd.func32, Tryd.ntmps32
  go_wp2
  go_loopw [7] (fun v wr => ∃ k : Nat, v = .int .i64 (k : Nat) ∧ k ≤ n ∧ (∀ j, j < k → isJoinB up a b j = false) ∧ wr = w) (fun v wr => n - natOf v)
  case atStart => exact ⟨0, rfl, by omega, fun j h => absurd h (by omega), rfl⟩
  case round =>
    obtain ⟨k, rfl, hkn, hall, rfl⟩ := hrel
    by_cases hk : k < n
    · have hlt : ((k : Int) < (n : Int)) := by omega
      replace hall := Lib.hid hall
      have hpe : pJ up a b k = (le up a k && le up b k) := rfl
      have hpq := isJoin_pq up a b k
      rw [hn.out] at hpq
      replace hpq := Lib.hid hpq
      generalize hp : pJ up a b k = p at hpe hpq
      replace hp := Lib.hid hp
      have key : p = p := rfl
      clear key
      cases h1 : le up a k <;> cases h2 : le up b k <;> (
        rw [h1, h2] at hpe
        simp at hpe
        subst hpe
        go_wp2_with (go_at_call 33; refine (hAb.out _ _ (by omega) (by omega)).mono ?_; rintro e w1 ⟨rfl, rfl⟩; simp only [h1, h2])
        replace h1 := Lib.hid h1
        replace h2 := Lib.hid h2
        go_loopw [8, 9] (fun v8 v9 wr' => ∃ m : Nat, v9 = .int .i64 (m : Nat) ∧ m ≤ n ∧ v8 = .bool (pJ up a b k && (List.range m).all (qJ up a b k)) ∧ wr' = wr) (fun v8 v9 wr' => n - natOf v9)
        case atStart => exact ⟨0, rfl, by omega, by rw [hp.out]; rfl, rfl⟩
        case round =>
          obtain ⟨m, rfl, hmn, rfl, rfl⟩ := hrel
          cases hs : (pJ up a b k && (List.range m).all (qJ up a b k)) with
          | false =>
            have hno : isJoinB up a b k = false := by
              rw [isJoin_pq, hn.out]
              rw [Bool.and_eq_false_iff] at hs ⊢
              exact hs.imp id (fun h => all_less hmn h)
            replace hno := Lib.hid hno
            replace hs := Lib.hid hs
            by_cases hm : m < n
            · have hlt2 : ((m : Int) < (n : Int)) := by omega
              go_wp2
              go_roundw
              case rel =>
                refine ⟨k + 1, by go_num, by omega, fun j hj => ?_, by trivial⟩
                by_cases hjk : j < k
                · exact hall.out j hjk
                · have hje : j = k := by omega
                  rw [hje]
                  exact hno.out
              case measure => simp [natOf]; omega
            · have hlt2 : ¬ ((m : Int) < (n : Int)) := by omega
              go_wp2
              go_roundw
              case rel =>
                refine ⟨k + 1, by go_num, by omega, fun j hj => ?_, by trivial⟩
                by_cases hjk : j < k
                · exact hall.out j hjk
                · have hje : j = k := by omega
                  rw [hje]
                  exact hno.out
              case measure => simp [natOf]; omega
          | true =>
            by_cases hm : m < n
            · have hlt2 : ((m : Int) < (n : Int)) := by omega
              rw [Bool.and_eq_true] at hs
              have hqe : qJ up a b k m = (!le up a m || !le up b m || le up k m) := rfl
              replace hs := Lib.hid hs
              cases h3 : le up a m <;> cases h4 : le up b m <;> cases h5 : le up k m <;> (
                rw [h3, h4, h5] at hqe
                go_wp2_with (go_at_call 33; refine (hAb.out _ _ (by omega) (by omega)).mono ?_; rintro e w1 ⟨rfl, rfl⟩; simp only [h3, h4, h5])
                go_roundw
                case rel =>
                  refine ⟨m + 1, by go_num, by omega, ?_, by trivial⟩
                  rw [all_succ, hs.out.1, hs.out.2, hqe]
                  rfl
                case measure => simp [natOf]; omega)
            · have hme : m = n := by omega
              have hlt2 : ¬ ((m : Int) < (n : Int)) := by omega
              have hyes : isJoinB up a b k = true := by
                rw [isJoin_pq, hn.out, ← hme]
                exact hs
              have hres : joinI up a b = (k : Int) := firstI_some (by rw [hn.out]; exact hk) hyes hall.out
              replace hs := Lib.hid hs
              replace hres := Lib.hid hres
              replace hyes := Lib.hid hyes
              go_wp2
              go_ret
              exact ⟨by rw [hres.out]; rfl, rfl⟩)
    · have hke : k = n := by omega
      subst hke
      have hlt : ¬ ((k : Int) < (k : Int)) := by omega
      have hres : joinI up a b = -1 := by
        unfold joinI
        rw [hn.out]
        exact firstI_none hall
      replace hres := Lib.hid hres
      replace hall := Lib.hid hall
      go_wp2
      go_ret
      exact ⟨by rw [hres.out]; rfl, rfl⟩

set_option maxHeartbeats 8000000 in
set_option maxRecDepth 100000 in
theorem rmeet_any (A : Option Addr) (n c : Nat) (up : List Nat) (a b : Nat) (w : World) (hn : up.length = n) (h64 : n ≤ 64) (hM : Masks up) (ha : a < n) (hb : b < n) (hr : Reads w w.heap.size 1 A n (u64s up)) :
    Calls Tryd.prog 44 #[.slice A n c, .int .i64 (a : Nat), .int .i64 (b : Nat)] w fun e w' => e = .returned (.int .i64 (meetI up a b)) ∧ w = w' := by
  have hAb := fun (i j : Nat) (hi : i < n) (hj : j < 64) => above_any A n c up i j w hn hM hi hj hr
  replace hAb := Lib.hid hAb
  replace hr := Lib.hid hr
  replace hM := Lib.hid hM
  replace hn := Lib.hid hn
  go_enter Tryd.func44, Tryd.ntmps44
  go_wp2
  go_loopw [7] (fun v wr => ∃ k : Nat, v = .int .i64 (k : Nat) ∧ k ≤ n ∧ (∀ j, j < k → isMeetB up a b j = false) ∧ wr = w) (fun v wr => n - natOf v)
  case atStart => exact ⟨0, rfl, by omega, fun j h => absurd h (by omega), rfl⟩
  case round =>
    obtain ⟨k, rfl, hkn, hall, rfl⟩ := hrel
    by_cases hk : k < n
    · have hlt : ((k : Int) < (n : Int)) := by omega
      replace hall := Lib.hid hall
      have hpe : pM up a b k = (le up k a && le up k b) := rfl
      have hpq := isMeet_pq up a b k
      rw [hn.out] at hpq
      replace hpq := Lib.hid hpq
      generalize hp : pM up a b k = p at hpe hpq
      replace hp := Lib.hid hp
      have key : p = p := rfl
      clear key
      cases h1 : le up k a <;> cases h2 : le up k b <;> (
        rw [h1, h2] at hpe
        simp at hpe
        subst hpe
        go_wp2_with (go_at_call 33; refine (hAb.out _ _ (by omega) (by omega)).mono ?_; rintro e w1 ⟨rfl, rfl⟩; simp only [h1, h2])
        replace h1 := Lib.hid h1
        replace h2 := Lib.hid h2
        go_loopw [8, 9] (fun v8 v9 wr' => ∃ m : Nat, v9 = .int .i64 (m : Nat) ∧ m ≤ n ∧ v8 = .bool (pM up a b k && (List.range m).all (qM up a b k)) ∧ wr' = wr) (fun v8 v9 wr' => n - natOf v9)
        case atStart => exact ⟨0, rfl, by omega, by rw [hp.out]; rfl, rfl⟩
        case round =>
          obtain ⟨m, rfl, hmn, rfl, rfl⟩ := hrel
          cases hs : (pM up a b k && (List.range m).all (qM up a b k)) with
          | false =>
            have hno : isMeetB up a b k = false := by
              rw [isMeet_pq, hn.out]
              rw [Bool.and_eq_false_iff] at hs ⊢
              exact hs.imp id (fun h => all_less hmn h)
            replace hno := Lib.hid hno
            replace hs := Lib.hid hs
            by_cases hm : m < n
            · have hlt2 : ((m : Int) < (n : Int)) := by omega
              go_wp2
              go_roundw
              case rel =>
                refine ⟨k + 1, by go_num, by omega, fun j hj => ?_, by trivial⟩
                by_cases hjk : j < k
                · exact hall.out j hjk
                · have hje : j = k := by omega
                  rw [hje]
                  exact hno.out
              case measure => simp [natOf]; omega
            · have hlt2 : ¬ ((m : Int) < (n : Int)) := by omega
              go_wp2
              go_roundw
              case rel =>
                refine ⟨k + 1, by go_num, by omega, fun j hj => ?_, by trivial⟩
                by_cases hjk : j < k
                · exact hall.out j hjk
                · have hje : j = k := by omega
                  rw [hje]
                  exact hno.out
              case measure => simp [natOf]; omega
          | true =>
            by_cases hm : m < n
            · have hlt2 : ((m : Int) < (n : Int)) := by omega
              rw [Bool.and_eq_true] at hs
              have hqe : qM up a b k m = (!le up m a || !le up m b || le up m k) := rfl
              replace hs := Lib.hid hs
              cases h3 : le up m a <;> cases h4 : le up m b <;> cases h5 : le up m k <;> (
                rw [h3, h4, h5] at hqe
                go_wp2_with (go_at_call 33; refine (hAb.out _ _ (by omega) (by omega)).mono ?_; rintro e w1 ⟨rfl, rfl⟩; simp only [h3, h4, h5])
                go_roundw
                case rel =>
                  refine ⟨m + 1, by go_num, by omega, ?_, by trivial⟩
                  rw [all_succ, hs.out.1, hs.out.2, hqe]
                  rfl
                case measure => simp [natOf]; omega)
            · have hme : m = n := by omega
              have hlt2 : ¬ ((m : Int) < (n : Int)) := by omega
              have hyes : isMeetB up a b k = true := by
                rw [isMeet_pq, hn.out, ← hme]
                exact hs
              have hres : meetI up a b = (k : Int) := firstI_some (by rw [hn.out]; exact hk) hyes hall.out
              replace hs := Lib.hid hs
              replace hres := Lib.hid hres
              replace hyes := Lib.hid hyes
              go_wp2
              go_ret
              exact ⟨by rw [hres.out]; rfl, rfl⟩)
    · have hke : k = n := by omega
      subst hke
      have hlt : ¬ ((k : Int) < (k : Int)) := by omega
      have hres : meetI up a b = -1 := by
        unfold meetI
        rw [hn.out]
        exact firstI_none hall
      replace hres := Lib.hid hres
      replace hall := Lib.hid hall
      go_wp2
      go_ret
      exact ⟨by rw [hres.out]; rfl, rfl⟩

end Go.Proofs.YtleckdbdhkgcpaaDoor
