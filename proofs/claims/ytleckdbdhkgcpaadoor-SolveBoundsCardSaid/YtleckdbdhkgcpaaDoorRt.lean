/- The reference's Right. -/
import Derived.Test.YtleckdbdhkgcpaaDoorRr
namespace Go.Idl
def pairJ (up : List Nat) (a b : Nat) : Bool := decide (0 ≤ joinI up a b) && decide (0 ≤ meetI up a b)
theorem latB_eq (up : List Nat) : latB up = (ordB up && (List.range up.length).all fun a => (List.range a).all (pairJ up a)) := rfl
theorem latB_no {up : List Nat} {a b : Nat} (ha : a < up.length) (hb : b < a) (h : pairJ up a b = false) : latB up = false := by
  rw [latB_eq]
  have h2 : ((List.range up.length).all fun a => (List.range a).all (pairJ up a)) = false := by
    rw [List.all_eq_false]
    refine ⟨a, List.mem_range.2 ha, ?_⟩
    rw [Bool.not_eq_true, List.all_eq_false]
    exact ⟨b, List.mem_range.2 hb, by rw [h]; simp⟩
  rw [h2, Bool.and_false]
end Go.Idl
namespace Go.Proofs.YtleckdbdhkgcpaaDoor
open Go.RowKit Go.Shelf Go.Idl

set_option maxHeartbeats 8000000 in
set_option maxRecDepth 100000 in
theorem rright_any (A : Option Addr) (n c : Nat) (up : List Nat) (w : World) (hn : up.length = n) (hn63 : n ≤ maxLen) (hM : Masks up) (hr : Reads w w.heap.size 1 A n (u64s up)) :
    Calls Tryd.prog 34 #[.slice A n c] w fun e w' => e = .returned (.bool (latB up)) ∧ Below w.heap.size w w' := by
  cases ho : ordB up with
  | false =>
    have hlat : latB up = false := by rw [latB_eq, ho, Bool.false_and]
    replace hr := Lib.hid hr
    replace hM := Lib.hid hM
    replace hn := Lib.hid hn
    replace ho := Lib.hid ho
    replace hlat := Lib.hid hlat
    go_enter Tryd.func34, Tryd.ntmps34
    go_wp2_with fail
    refine (rorder_any A n c up _ hn.out hn63 hM.out hr.out).mono ?_
    rintro e w1 ⟨rfl, hb1⟩
    rw [ho.out]
    replace hb1 := Lib.hid hb1
    go_wp2
    go_ret
    exact ⟨by rw [hlat.out]; rfl, hb1.out⟩
  | true =>
    have h64 : n ≤ 64 := by rw [← hn]; exact (Ord.of hM ho).n64
    replace hr := Lib.hid hr
    replace hM := Lib.hid hM
    replace hn := Lib.hid hn
    replace ho := Lib.hid ho
    go_enter Tryd.func34, Tryd.ntmps34
    go_wp2_with fail
    refine (rorder_any A n c up _ hn.out hn63 hM.out hr.out).mono ?_
    rintro e w1 ⟨rfl, hb1⟩
    rw [ho.out]
    have hr1 := Lib.hid ((hr.out.below hb1).more hb1.size)
    replace hb1 := Lib.hid hb1
    go_wp2
    go_loopw [3] (fun v wr => ∃ a : Nat, v = .int .i64 (a : Nat) ∧ a ≤ n ∧ (∀ j, j < a → (List.range j).all (pairJ up j) = true) ∧ wr = w1) (fun v wr => n - natOf v)
    case atStart => exact ⟨0, rfl, by omega, fun j h => absurd h (by omega), rfl⟩
    case round =>
      obtain ⟨a, rfl, han, hall, rfl⟩ := hrel
      by_cases ha : a < n
      · have hlt : ((a : Int) < (n : Int)) := by omega
        replace hall := Lib.hid hall
        go_wp2
        go_loopw [4] (fun v wr' => ∃ b : Nat, v = .int .i64 (b : Nat) ∧ b ≤ a ∧ (∀ j, j < b → pairJ up a j = true) ∧ wr' = wr) (fun v wr' => a - natOf v)
        case atStart => exact ⟨0, rfl, by omega, fun j h => absurd h (by omega), rfl⟩
        case round =>
          obtain ⟨b, rfl, hba, hrow, rfl⟩ := hrel
          by_cases hb : b < a
          · have hlt2 : ((b : Int) < (a : Int)) := by omega
            replace hrow := Lib.hid hrow
            have hJ := rjoin_any A n c up a b wr hn.out h64 hM.out ha (by omega) hr1.out
            have hK := rmeet_any A n c up a b wr hn.out h64 hM.out ha (by omega) hr1.out
            have hpj : pairJ up a b = (decide (0 ≤ joinI up a b) && decide (0 ≤ meetI up a b)) := rfl
            generalize joinI up a b = x at *
            generalize meetI up a b = y at *
            replace hJ := Lib.hid hJ
            replace hK := Lib.hid hK
            by_cases hx : x < 0
            · have hno : latB up = false := latB_no (by rw [hn.out]; exact ha) hb (by rw [hpj, decide_eq_false (p := 0 ≤ x) (by omega), Bool.false_and])
              replace hno := Lib.hid hno
              replace hpj := Lib.hid hpj
              go_wp2_with fail
              refine hJ.out.mono ?_
              rintro e w2 ⟨rfl, rfl⟩
              go_wp2
              go_ret
              exact ⟨by rw [hno.out]; rfl, hb1.out⟩
            · by_cases hy : y < 0
              · have hno : latB up = false := latB_no (by rw [hn.out]; exact ha) hb (by rw [hpj, decide_eq_false (p := 0 ≤ y) (by omega), Bool.and_false])
                replace hno := Lib.hid hno
                replace hpj := Lib.hid hpj
                go_wp2_with fail
                refine hJ.out.mono ?_
                rintro e w2 ⟨rfl, rfl⟩
                go_wp2_with fail
                refine hK.out.mono ?_
                rintro e w2 ⟨rfl, rfl⟩
                go_wp2
                go_ret
                exact ⟨by rw [hno.out]; rfl, hb1.out⟩
              · have hyes : pairJ up a b = true := by rw [hpj, decide_eq_true (p := 0 ≤ x) (by omega), decide_eq_true (p := 0 ≤ y) (by omega)]; rfl
                replace hyes := Lib.hid hyes
                replace hpj := Lib.hid hpj
                go_wp2_with fail
                refine hJ.out.mono ?_
                rintro e w2 ⟨rfl, rfl⟩
                go_wp2_with fail
                refine hK.out.mono ?_
                rintro e w2 ⟨rfl, rfl⟩
                go_wp2
                go_roundw
                case rel =>
                  refine ⟨b + 1, by go_num, by omega, fun j hj => ?_, by trivial⟩
                  by_cases hjk : j < b
                  · exact hrow.out j hjk
                  · have hje : j = b := by omega
                    rw [hje]
                    exact hyes.out
                case measure => simp [natOf]; omega
          · have hbe : b = a := by omega
            subst hbe
            have hlt2 : ¬ ((b : Int) < (b : Int)) := by omega
            replace hrow := Lib.hid hrow
            go_wp2
            go_roundw
            case rel =>
              refine ⟨b + 1, by go_num, by omega, fun j hj => ?_, by trivial⟩
              by_cases hjk : j < b
              · exact hall.out j hjk
              · have hje : j = b := by omega
                rw [hje, List.all_eq_true]
                exact fun x hx => hrow.out x (List.mem_range.1 hx)
            case measure => simp [natOf]; omega
      · have hae : a = n := by omega
        have hlt : ¬ ((a : Int) < (n : Int)) := by omega
        have hlat : latB up = true := by
          rw [latB_eq, ho.out, Bool.true_and, List.all_eq_true]
          exact fun j hj => hall j (by have := List.mem_range.1 hj; have := hn.out; omega)
        replace hlat := Lib.hid hlat
        replace hall := Lib.hid hall
        go_wp2
        go_ret
        exact ⟨by rw [hlat.out]; rfl, hb1.out⟩

end Go.Proofs.YtleckdbdhkgcpaaDoor
