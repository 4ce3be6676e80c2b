/- The reference's Far. -/
import Derived.Test.YtfloonpchjbmnaaDoorRj
namespace Go.Idl
def qE (up : List Nat) (k m : Nat) : Bool := le up k m
def qF (up : List Nat) (k m : Nat) : Bool := le up m k
end Go.Idl
namespace Go.Proofs.YtfloonpchjbmnaaDoor
open Go.RowKit Go.Shelf Go.Idl

set_option maxHeartbeats 8000000 in
set_option maxRecDepth 100000 in
theorem rfar_any (A : Option Addr) (n c : Nat) (up : List Nat) (w : World) (hn : up.length = n) (h64 : n ≤ 64) (hM : Masks up) (hr : Reads w w.heap.size 1 A n (u64s up)) :
    Calls Tryd.prog 25 #[.slice A n c] w fun e w' => e = .returned (.int .i64 (farI up)) ∧ w = w' := by
  have hAb := fun (i j : Nat) (hi : i < n) (hj : j < 64) => above_any A n c up i j w hn hM hi hj hr
  replace hAb := Lib.hid hAb
  replace hr := Lib.hid hr
  replace hM := Lib.hid hM
  replace hn := Lib.hid hn
  go_enter Tryd.func25, Tryd.ntmps25
  go_wp2
  go_loopw [3] (fun v wr => ∃ k : Nat, v = .int .i64 (k : Nat) ∧ k ≤ n ∧ (∀ j, j < k → (List.range n).all (qF up j) = false) ∧ wr = w) (fun v wr => n - natOf v)
  case atStart => exact ⟨0, rfl, by omega, fun j h => absurd h (by omega), rfl⟩
  case round =>
    obtain ⟨k, rfl, hkn, hall, rfl⟩ := hrel
    by_cases hk : k < n
    · have hlt : ((k : Int) < (n : Int)) := by omega
      replace hall := Lib.hid hall
      go_wp2
      go_loopw [4, 5] (fun v8 v9 wr' => ∃ m : Nat, v9 = .int .i64 (m : Nat) ∧ m ≤ n ∧ v8 = .bool ((List.range m).all (qF up k)) ∧ wr' = wr) (fun v8 v9 wr' => n - natOf v9)
      case atStart => exact ⟨0, rfl, by omega, rfl, rfl⟩
      case round =>
        obtain ⟨m, rfl, hmn, rfl, rfl⟩ := hrel
        cases hs : (List.range m).all (qF up k) with
        | false =>
          have hno : (List.range n).all (qF up k) = false := all_less hmn hs
          replace hno := Lib.hid hno
          replace hs := Lib.hid hs
          by_cases hm : m < n
          · have hlt2 : ((m : Int) < (n : Int)) := by omega
            go_wp2
            go_roundw
            case rel =>
              refine ⟨k + 1, by go_num, by omega, fun j hj => ?_, by trivial⟩
              by_cases hjk : j < k
              · exact hall.out j hjk
              · have hje : j = k := by omega
                rw [hje]
                exact hno.out
            case measure => simp [natOf]; omega
          · have hlt2 : ¬ ((m : Int) < (n : Int)) := by omega
            go_wp2
            go_roundw
            case rel =>
              refine ⟨k + 1, by go_num, by omega, fun j hj => ?_, by trivial⟩
              by_cases hjk : j < k
              · exact hall.out j hjk
              · have hje : j = k := by omega
                rw [hje]
                exact hno.out
            case measure => simp [natOf]; omega
        | true =>
          by_cases hm : m < n
          · have hlt2 : ((m : Int) < (n : Int)) := by omega
            have hqe : qF up k m = le up m k := rfl
            replace hs := Lib.hid hs
            cases h3 : le up m k <;> (
              rw [h3] at hqe
              go_wp2_with (go_at_call 37; refine (hAb.out _ _ (by omega) (by omega)).mono ?_; rintro e w1 ⟨rfl, rfl⟩; simp only [h3])
              go_roundw
              case rel =>
                refine ⟨m + 1, by go_num, by omega, ?_, by trivial⟩
                rw [all_succ, hs.out, hqe]
                rfl
              case measure => simp [natOf]; omega)
          · have hme : m = n := by omega
            have hlt2 : ¬ ((m : Int) < (n : Int)) := by omega
            have hres : farI up = (k : Int) := by
              unfold farI
              rw [hn.out]
              exact firstI_some hk (by rw [← hme]; exact hs) hall.out
            replace hs := Lib.hid hs
            replace hres := Lib.hid hres
            go_wp2
            go_ret
            exact ⟨by rw [hres.out]; rfl, rfl⟩
    · have hke : k = n := by omega
      subst hke
      have hlt : ¬ ((k : Int) < (k : Int)) := by omega
      have hres : farI up = -1 := by
        unfold farI
        rw [hn.out]
        exact firstI_none hall
      replace hres := Lib.hid hres
      replace hall := Lib.hid hall
      go_wp2
      go_ret
      exact ⟨by rw [hres.out]; rfl, rfl⟩

end Go.Proofs.YtfloonpchjbmnaaDoor
