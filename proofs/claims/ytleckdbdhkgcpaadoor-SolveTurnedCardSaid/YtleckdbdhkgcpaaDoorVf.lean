/- few; the reference's Same of labels. -/
import Derived.Test.YtleckdbdhkgcpaaDoorVs
import Derived.Test.YtleckdbdhkgcpaaDoorWp
namespace Go.Idl
open Go Go.RowKit
set_option linter.unusedSimpArgs false
set_option linter.unusedVariables false
/-- Is a system small? -/
def fewB (l m : Nat) (needs : List (List Int)) : Bool := decide (l ≤ 60) && decide (m ≤ 60) && (List.range m).all fun i => decide ((needs.getD i []).length ≤ 60)
def sameB (a b : List Lb) : Bool := decide (a = b)
end Go.Idl
namespace Go.Proofs.YtleckdbdhkgcpaaDoor
open Go.RowKit Go.Shelf Go.Idl
set_option linter.unusedSimpArgs false
set_option linter.unusedVariables false

set_option maxHeartbeats 4000000 in
set_option maxRecDepth 100000 in
theorem few_any (C D : Option Addr) (l lc m mc : Nat) (needs : List (List Int)) (w : World) (hm63 : m ≤ maxLen) (hd : NRows w w.heap.size D m needs) :
    Calls Tryd.prog 8 #[.agg #[.slice C l lc, .slice D m mc]] w fun e w' => e = .returned (.bool (fewB l m needs)) ∧ Below w.heap.size w w' := by
  have hml : maxLen = 9223372036854775807 := rfl
  rw [hml] at hm63
  obtain ⟨W0, hW0⟩ : ∃ W0, w.alloc (.cells #[.slice C l lc, .slice D m mc] 26) = W0 := ⟨_, rfl⟩
  have hb0 : Below w.heap.size w W0 := by rw [← hW0]; exact (Below.refl _ w).alloc (Nat.le_refl _) _
  have k0 : Blk W0 w.heap.size 26 #[.slice C l lc, .slice D m mc] := by rw [← hW0]; exact Blk.new w _ _
  obtain ⟨s0, s1⟩ := pair_cells k0
  have he : fewB l m needs = (decide (l ≤ 60) && decide (m ≤ 60) && (List.range m).all fun i => decide ((needs.getD i []).length ≤ 60)) := rfl
  replace he := Lib.hid he
  replace k0 := Lib.hid k0
  replace hb0 := Lib.hid hb0
  replace hd := Lib.hid hd
  by_cases h1 : 60 < l
  · have g1 : ((60 : Int) < (l : Int)) := by omega
    go_enter Tryd.func8, Tryd.ntmps8
    go_wp2
    go_ret
    exact ⟨ret_bool (by rw [he.out, decide_eq_false (show ¬ l ≤ 60 by omega)]; rfl), hb0.out⟩
  · have g1 : ¬ ((60 : Int) < (l : Int)) := by omega
    by_cases h2 : 60 < m
    · have g2 : ((60 : Int) < (m : Int)) := by omega
      go_enter Tryd.func8, Tryd.ntmps8
      go_wp2
      go_ret
      exact ⟨ret_bool (by rw [he.out, decide_eq_false (show ¬ m ≤ 60 by omega)]; simp), hb0.out⟩
    · have g2 : ¬ ((60 : Int) < (m : Int)) := by omega
      go_enter Tryd.func8, Tryd.ntmps8
      go_wp2
      go_loopw [3] (fun v wr => ∃ i : Nat, v = .int .i64 (i : Nat) ∧ i ≤ m ∧ ((List.range i).all fun i => decide ((needs.getD i []).length ≤ 60)) = true ∧ wr = W0) (fun v wr => m - natOf v)
      case atStart => exact ⟨0, rfl, by omega, by simp, rfl⟩
      case round =>
        obtain ⟨i, rfl, him, hall, rfl⟩ := hrel
        by_cases hi : i < m
        · have hlt : ((i : Int) < (m : Int)) := by omega
          obtain ⟨ad2, A2, c2, hD, hbk2, e2, l1, l2, _⟩ := hd.out.at_ hi
          subst hD
          have e2' := (hb0.out.cell (p := ad2.add i) (by rw [block_of_add]; exact hbk2)).trans e2
          have hstep := all_succV i (fun i => decide ((needs.getD i []).length ≤ 60))
          have hno := fun h => all_noV (q := fun i => decide ((needs.getD i []).length ≤ 60)) hi h
          rw [hall, Bool.true_and] at hstep
          generalize (needs.getD i []).length = N at *
          replace hall := Lib.hid hall
          replace hstep := Lib.hid hstep
          replace hno := Lib.hid hno
          clear e2
          by_cases h3 : 60 < N
          · have g3 : ((60 : Int) < (N : Int)) := by omega
            have hres := hno.out (by rw [decide_eq_false (show ¬ N ≤ 60 by omega)])
            replace hres := Lib.hid hres
            go_wp2
            go_ret
            exact ⟨ret_bool (by rw [he.out, hres.out]; simp), hb0.out⟩
          · have g3 : ¬ ((60 : Int) < (N : Int)) := by omega
            have hs := hstep.out
            rw [decide_eq_true (show N ≤ 60 by omega)] at hs
            replace hs := Lib.hid hs
            go_wp2
            go_roundw
            case rel => exact ⟨i + 1, by go_num, by omega, hs.out, by trivial⟩
            case measure => simp [natOf]; omega
        · have hie : i = m := by omega
          have hlt : ¬ ((i : Int) < (m : Int)) := by omega
          rw [hie] at hall
          replace hall := Lib.hid hall
          go_wp2
          go_ret
          exact ⟨ret_bool (by rw [he.out, hall.out, decide_eq_true (show l ≤ 60 by omega), decide_eq_true (show m ≤ 60 by omega)]; rfl), hb0.out⟩

set_option maxHeartbeats 4000000 in
set_option maxRecDepth 100000 in
theorem same_any (A B : Option Addr) (n c m d : Nat) (a b : List Lb) (w : World) (ha : a.length = n) (hb : b.length = m) (hn63 : n ≤ maxLen) (hra : Reads w w.heap.size 2 A n (lbVals a)) (hrb : Reads w w.heap.size 2 B m (lbVals b)) :
    Calls Tryd.prog 15 #[.slice A n c, .slice B m d] w fun e w' => e = .returned (.bool (sameB a b)) ∧ Below w.heap.size w w' := by
  have hml : maxLen = 9223372036854775807 := rfl
  rw [hml] at hn63
  have he : sameB a b = decide (a = b) := rfl
  by_cases hnm : n = m
  · subst hnm
    have hst := same_to (a := a) (b := b) (by omega)
    rw [ha] at hst
    replace hst := Lib.hid hst
    replace he := Lib.hid he
    replace hra := Lib.hid hra
    replace hrb := Lib.hid hrb
    replace ha := Lib.hid ha
    replace hb := Lib.hid hb
    go_enter Tryd.func15, Tryd.ntmps15
    go_wp2
    go_loopw [5] (fun v wr => ∃ i : Nat, v = .int .i64 (i : Nat) ∧ i ≤ n ∧ (∀ j, j < i → a.getD j z0 = b.getD j z0) ∧ ∃ q, wr = w.drewN q) (fun v wr => n - natOf v)
    case atStart => exact ⟨0, rfl, by omega, fun j h => absurd h (by omega), 0, rfl⟩
    case round =>
      obtain ⟨i, rfl, him, hall, q, rfl⟩ := hrel
      by_cases hi : i < n
      · have hlt : ((i : Int) < (n : Int)) := by omega
        obtain ⟨ad, hA, _, x0, x1⟩ := reads_label ha.out hra.out hi
        obtain ⟨ad2, hB, _, y0, y1⟩ := reads_label hb.out hrb.out hi
        subst hA hB
        change w.cell? (ad.add (i * 2)) = some (Value.int .i64 (a.getD i z0).lv) at x0
        change _ = some (Value.int .u64 ((a.getD i z0).ms : Nat)) at x1
        change w.cell? (ad2.add (i * 2)) = some (Value.int .i64 (b.getD i z0).lv) at y0
        change _ = some (Value.int .u64 ((b.getD i z0).ms : Nat)) at y1
        have hcase := hst.out
        have hadv : a.getD i z0 = b.getD i z0 → ∀ j, j < i + 1 → a.getD j z0 = b.getD j z0 := fun h j hj => by
          rcases Nat.lt_or_ge j i with h1 | h1
          · exact hall j h1
          · have : j = i := by omega
            rw [this]; exact h
        have hno : a.getD i z0 ≠ b.getD i z0 → sameB a b = false := fun h => by
          rw [he.out]
          exact decide_eq_false fun e => h (by rw [e])
        replace hall := Lib.hid hall
        replace hadv := Lib.hid hadv
        replace hno := Lib.hid hno
        replace hcase := Lib.hid hcase
        generalize a.getD i z0 = x at *
        generalize b.getD i z0 = y at *
        by_cases hyx : x = y
        · subst hyx
          have hnx := hadv.out rfl
          have e1 : (x.lv == x.lv && ((x.ms : Nat) : Int) == ((x.ms : Nat) : Int)) = true := by simp
          have hEq := fun W => label_equalIn x.lv x.lv (x.ms : Nat) (x.ms : Nat) W
          rw [e1] at hEq
          replace hnx := Lib.hid hnx
          go_wp2
          go_quiet (fail)
          go_wp2
          go_roundw
          case rel => exact ⟨i + 1, by go_num, by omega, hnx.out, _, rfl⟩
          case measure => simp [natOf]; omega
        · have hres := hno.out hyx
          have e1 : (x.lv == y.lv && ((x.ms : Nat) : Int) == ((y.ms : Nat) : Int)) = false := by
            cases hb : (x.lv == y.lv && ((x.ms : Nat) : Int) == ((y.ms : Nat) : Int)) with
            | false => rfl
            | true =>
              rw [Bool.and_eq_true, beq_iff_eq, beq_iff_eq] at hb
              exact absurd (by cases y; cases x; simp at hb ⊢; omega) hyx
          have hEq := fun W => label_equalIn x.lv y.lv (x.ms : Nat) (y.ms : Nat) W
          rw [e1] at hEq
          replace hres := Lib.hid hres
          go_wp2
          go_quiet (fail)
          go_wp2
          go_ret
          exact ⟨ret_bool (by rw [hres.out]), below_drewNs (below_drewNs (Below.refl _ _) _) _⟩
      · have hie : i = n := by omega
        have hlt : ¬ ((i : Int) < (n : Int)) := by omega
        rw [hie] at hall
        have hres : sameB a b = true := by rw [he.out]; exact decide_eq_true (hst.out.2 hall)
        replace hres := Lib.hid hres
        replace hall := Lib.hid hall
        go_wp2
        go_ret
        exact ⟨ret_bool (by rw [hres.out]), below_drewNs (Below.refl _ _) _⟩
  · have h2 : ((n : Int) != (m : Int)) = true := by simp; omega
    have hres : sameB a b = false := by
      rw [he]
      exact decide_eq_false fun e => hnm (by rw [← ha, ← hb, e])
    replace hres := Lib.hid hres
    replace hra := Lib.hid hra
    replace hrb := Lib.hid hrb
    go_enter Tryd.func15, Tryd.ntmps15
    go_wp2
    go_ret
    exact ⟨ret_bool (by rw [hres.out]), Below.refl _ _⟩
end Go.Proofs.YtleckdbdhkgcpaaDoor
