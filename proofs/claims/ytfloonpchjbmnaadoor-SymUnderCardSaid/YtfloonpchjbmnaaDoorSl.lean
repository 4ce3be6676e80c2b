/- Labels as values; sym.level: are numbers levels of a lattice? -/
import Derived.Test.YtfloonpchjbmnaaDoorJm
import Derived.Test.YtfloonpchjbmnaaDoorBd
import Derived.Test.YtfloonpchjbmnaaDoorSy
namespace Go.Idl
/-- Is a number no level of n? -/
def badI (n : Nat) (k : Int) : Bool := decide (k < 0) || decide ((n : Int) ≤ k)
theorem badI_good (up : List Nat) (k : Int) : badI up.length k = !goodB up k := by
  unfold badI goodB
  by_cases h1 : k < 0
  · rw [decide_eq_true h1, decide_eq_false (p := 0 ≤ k) (by omega)]; rfl
  · rw [decide_eq_false h1, decide_eq_true (show 0 ≤ k by omega)]
    by_cases h2 : (up.length : Int) ≤ k
    · rw [decide_eq_true h2, decide_eq_false (p := k < (up.length : Int)) (by omega)]; rfl
    · rw [decide_eq_false h2, decide_eq_true (show k < (up.length : Int) by omega)]; rfl
theorem any_bad (up : List Nat) (zs : List Int) : (!zs.any (badI up.length)) = zs.all (goodB up) := by
  induction zs with
  | nil => rfl
  | cons z r ih => rw [List.any_cons, List.all_cons, Bool.not_or, ih, badI_good]; simp
/-- Are all of some numbers levels of a lattice? -/
def levB (up : List Nat) (zs : List Int) : Bool := latB up && zs.all (goodB up)
def ints (zs : List Int) : List Value := zs.map (Value.int .i64)
theorem ints_at {zs : List Int} {j : Nat} (hj : j < zs.length) : (ints zs)[j]? = some (Value.int .i64 zs[j]) := by
  unfold ints
  rw [List.getElem?_map, List.getElem?_eq_getElem hj]
  rfl
/-- A label as a value, and as cells. -/
abbrev lbV (a : Lb) : Value := .agg #[.int .i64 a.lv, .int .u64 (a.ms : Nat)]
abbrev lbC (a : Lb) : Array Value := #[.int .i64 a.lv, .int .u64 (a.ms : Nat)]
def lbVals (l : List Lb) : List Value := l.flatMap fun a => [.int .i64 a.lv, .int .u64 (a.ms : Nat)]
theorem lbVals_len (l : List Lb) : (lbVals l).length = l.length * 2 := by
  induction l with
  | nil => rfl
  | cons p r ih =>
    unfold lbVals at ih ⊢
    rw [List.flatMap_cons, List.length_append, ih]
    simp
    omega
theorem lbVals_at : ∀ (l : List Lb) (t : Nat), t < l.length → (lbVals l)[t * 2]? = some (.int .i64 (l.getD t ⟨0, 0⟩).lv) ∧ (lbVals l)[t * 2 + 1]? = some (.int .u64 ((l.getD t ⟨0, 0⟩).ms : Nat))
  | [], t, h => by simp at h
  | q :: r, 0, h => ⟨rfl, rfl⟩
  | q :: r, t + 1, h => by
    have ih := lbVals_at r t (by simpa using h)
    have e : lbVals (q :: r) = .int .i64 q.lv :: .int .u64 (q.ms : Nat) :: lbVals r := rfl
    rw [e, show (t + 1) * 2 = t * 2 + 1 + 1 by omega, List.getD_cons_succ]
    exact ih
theorem lbVals_append (a b : List Lb) : lbVals (a ++ b) = lbVals a ++ lbVals b := by unfold lbVals; rw [List.flatMap_append]
theorem lbVals_one (l : List Lb) : ∀ u ∈ lbVals l, u.oneCell' = true := by
  intro u hu
  unfold lbVals at hu
  obtain ⟨p, _, h⟩ := List.mem_flatMap.1 hu
  simp only [List.mem_cons, List.not_mem_nil, or_false] at h
  rcases h with rfl | rfl <;> rfl
/-- The cells of one label of a list. -/
theorem reads_label {W : World} {A : Option Addr} {n : Nat} {l : List Lb} {k : Nat} (hl : l.length = n) (hr : Reads W W.heap.size 2 A n (lbVals l)) (hk : k < n) :
    ∃ ad, A = some ad ∧ ad.block < W.heap.size ∧ W.cell? (ad.add (k * 2)) = some (.int .i64 (l.getD k ⟨0, 0⟩).lv) ∧ W.cell? ⟨(ad.add (k * 2)).block, (ad.add (k * 2)).off + 1, none⟩ = some (.int .u64 ((l.getD k ⟨0, 0⟩).ms : Nat)) := by
  obtain ⟨ad, e, hb, hc⟩ := hr.2 (by omega)
  obtain ⟨h1, h2⟩ := lbVals_at l k (by omega)
  have h4 := hc _ _ h2
  rw [← add_of_add] at h4
  exact ⟨ad, e, hb, hc _ _ h1, h4⟩
end Go.Idl
namespace Go.Proofs.YtfloonpchjbmnaaDoor
open Go.RowKit Go.Shelf Go.Idl

theorem lev1_any (k : Int) (p : Nat) (A : Option Addr) (n c : Nat) (w : World) (hc : w.cell? ⟨p, 0, none⟩ = some (.slice A n c)) :
    Calls Tryd.prog 44 #[.int .i64 k, .pointer (some ⟨p, 0, none⟩)] w fun e w' => e = .returned (.bool (badI n k)) ∧ w = w' := by
  have e : badI n k = (decide (k < 0) || decide ((n : Int) ≤ k)) := rfl
  replace e := Lib.hid e
  by_cases h1 : k < 0
  · go_enter Tryd.func44, Tryd.ntmps44
    go_wp2
    go_ret
    exact ⟨ret_bool (by rw [e.out, decide_eq_true (show k < 0 by omega)]; rfl), rfl⟩
  · by_cases h2 : (n : Int) ≤ k
    · go_enter Tryd.func44, Tryd.ntmps44
      go_wp2
      go_ret
      exact ⟨ret_bool (by rw [e.out, decide_eq_false (show ¬ k < 0 by omega), decide_eq_true (show (n : Int) ≤ k by omega)]; rfl), rfl⟩
    · go_enter Tryd.func44, Tryd.ntmps44
      go_wp2
      go_ret
      exact ⟨ret_bool (by rw [e.out, decide_eq_false (show ¬ k < 0 by omega), decide_eq_false (show ¬ (n : Int) ≤ k by omega)]; rfl), rfl⟩

/-- What is found: its number is no level's; or nothing is. -/
def IdxPost (n : Nat) (zs : List Int) (w : World) (e : Ending) (w' : World) : Prop := ∃ r : Int, e = .returned (.int .i64 r) ∧ decide (0 ≤ r) = zs.any (badI n) ∧ w = w'

theorem idx_any (Z : Option Addr) (m d : Nat) (zs : List Int) (p : Nat) (A : Option Addr) (n c : Nat) (w : World) (hm : m ≤ maxLen) (hl : zs.length = m) (hz : Reads w w.heap.size 1 Z m (ints zs)) (hc : w.cell? ⟨p, 0, none⟩ = some (.slice A n c)) :
    Calls Tryd.prog 51 #[.slice Z m d, .func (.func 44) #[] #[.pointer (some ⟨p, 0, none⟩)]] w fun e w' => IdxPost n zs w e w' := by
  unfold maxLen at hm
  replace hl := Lib.hid hl
  replace hz := Lib.hid hz
  go_enter Tryd.func51, Tryd.ntmps51
  go_wp2
  go_loopw [8] (fun v wr => ∃ i : Nat, v = .int .i64 (i : Nat) ∧ i ≤ m ∧ (zs.take i).any (badI n) = false ∧ wr = w) (fun v wr => m - natOf v)
  case atStart => exact ⟨0, rfl, by omega, by simp, rfl⟩
  case round =>
    obtain ⟨i, rfl, him, hno, rfl⟩ := hrel
    by_cases hi : i < m
    · have hlt : ((i : Int) < (m : Int)) := by omega
      have hil : i < zs.length := by rw [hl.out]; exact hi
      obtain ⟨ad, hZ, hbk, hcell⟩ := hz.out.2 (by omega)
      subst hZ
      have hci := hcell _ _ (ints_at hil)
      have hstep : (zs.take (i + 1)).any (badI n) = ((zs.take i).any (badI n) || badI n zs[i]) := by
        rw [List.take_succ_eq_append_getElem hil, List.any_append]
        simp
      rw [hno, Bool.false_or] at hstep
      have hCall := fun k => lev1_any k p A n c wr hc
      replace hCall := Lib.hid hCall
      replace hcell := Lib.hid hcell
      replace hno := Lib.hid hno
      generalize hze : zs[i] = z at *
      replace hze := Lib.hid hze
      cases hb : badI n z with
      | true =>
        rw [hb] at hstep
        have hres : zs.any (badI n) = true := by
          rw [List.any_eq_true] at hstep ⊢
          obtain ⟨x, hx, hxb⟩ := hstep
          exact ⟨x, List.mem_of_mem_take hx, hxb⟩
        replace hstep := Lib.hid hstep
        replace hres := Lib.hid hres
        go_wp2_with (go_at_call 44; refine (hCall.out z).mono ?_; rintro e w1 ⟨rfl, rfl⟩; simp only [hb])
        go_ret
        exact ⟨(i : Int), rfl, by rw [hres.out]; simp, rfl⟩
      | false =>
        rw [hb] at hstep
        replace hstep := Lib.hid hstep
        go_wp2_with (go_at_call 44; refine (hCall.out z).mono ?_; rintro e w1 ⟨rfl, rfl⟩; simp only [hb])
        go_roundw
        case rel => exact ⟨i + 1, by go_num, by omega, hstep.out, by trivial⟩
        case measure => simp [natOf]; omega
    · have hie : i = m := by omega
      have hlt : ¬ ((i : Int) < (m : Int)) := by omega
      have hres : zs.any (badI n) = false := by rw [List.take_of_length_le (by have := hl.out; omega)] at hno; exact hno
      replace hno := Lib.hid hno
      replace hres := Lib.hid hres
      go_wp2
      go_ret
      exact ⟨-1, rfl, by rw [hres.out]; rfl, rfl⟩

theorem has_bad (Z : Option Addr) (m d : Nat) (zs : List Int) (p : Nat) (A : Option Addr) (n c : Nat) (w : World) (hm : m ≤ maxLen) (hl : zs.length = m) (hz : Reads w w.heap.size 1 Z m (ints zs)) (hc : w.cell? ⟨p, 0, none⟩ = some (.slice A n c)) :
    Calls Tryd.prog 43 #[.slice Z m d, .func (.func 44) #[] #[.pointer (some ⟨p, 0, none⟩)]] w fun e w' => e = .returned (.bool (zs.any (badI n))) ∧ w = w' := by
  replace hl := Lib.hid hl
  replace hz := Lib.hid hz
  replace hm := Lib.hid hm
  go_enter Tryd.func43, Tryd.ntmps43
  go_wp2_with fail
  refine (idx_any Z m d zs p A n c w hm.out hl.out hz.out hc).mono ?_
  rintro e w1 ⟨r, rfl, hr, rfl⟩
  replace hr := Lib.hid hr
  go_wp2
  go_ret
  exact ⟨ret_bool hr.out, rfl⟩

theorem level_any (A : Option Addr) (n c : Nat) (up : List Nat) (Z : Option Addr) (m d : Nat) (zs : List Int) (w : World) (hT : Tab w) (hn : up.length = n) (hn63 : n ≤ maxLen) (hM : Masks up) (hr : Reads w w.heap.size 1 A n (u64s up))
    (hl : zs.length = m) (hm : m ≤ maxLen) (hz : Reads w w.heap.size 1 Z m (ints zs)) :
    Calls Tryd.prog 29 #[.slice A n c, .slice Z m d] w fun e w' => e = .returned (.bool (levB up zs)) ∧ Below w.heap.size w w' := by
  have hb0 : Below w.heap.size w (w.alloc (.cells #[.slice A n c] 22)) := (Below.refl _ w).alloc (Nat.le_refl _) _
  have hRi := right_lat A n c up _ (hT.later hb0) hn hn63 hM ((hr.below hb0).more hb0.size)
  have e : levB up zs = (latB up && !zs.any (badI n)) := by unfold levB; rw [← hn, any_bad]
  replace e := Lib.hid e
  replace hRi := Lib.hid hRi
  replace hb0 := Lib.hid hb0
  replace hl := Lib.hid hl
  replace hz := Lib.hid hz
  replace hr := Lib.hid hr
  replace hT := Lib.hid hT
  replace hn := Lib.hid hn
  replace hM := Lib.hid hM
  go_enter Tryd.func29, Tryd.ntmps29
  go_wp2_with fail
  refine hRi.out.mono ?_
  rintro x w1 ⟨rfl, hb1⟩
  have hx1 := (Blk.new_at w 22 #[.slice A n c] _ rfl).below hb1 (by simp)
  have c1 := hx1.cell0
  have hB := Lib.hid (hb0.out.trans (hb1.mono hb0.out.size))
  have hz1 := Lib.hid ((hz.out.below hB.out).more hB.out.size)
  replace hx1 := Lib.hid hx1
  clear hb1
  cases hq : latB up with
  | false =>
    replace hq := Lib.hid hq
    go_wp2
    go_ret
    exact ⟨by rw [e.out, hq.out]; rfl, hB.out⟩
  | true =>
    replace hq := Lib.hid hq
    go_wp2_with fail
    refine (has_bad Z m d zs w.heap.size A n c w1 hm hl.out hz1.out c1).mono ?_
    rintro x w2 ⟨rfl, rfl⟩
    go_wp2
    go_ret
    exact ⟨by rw [e.out, hq.out]; simp, hB.out⟩

end Go.Proofs.YtfloonpchjbmnaaDoor
