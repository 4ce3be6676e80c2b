/- solve.Right: may a system be? -/
import Derived.Test.YtleckdbdhkgcpaaDoorKp
import Derived.Test.YtleckdbdhkgcpaaDoorLb
import Derived.Test.YtleckdbdhkgcpaaDoorRi
namespace Go.Idl
open Go Go.RowKit
set_option linter.unusedSimpArgs false
set_option linter.unusedVariables false
/-- NRows of numbers, as a slice of slices reads. -/
def NRows (w : World) (B : Nat) (D : Option Addr) (m : Nat) (needs : List (List Int)) : Prop :=
  needs.length = m ∧ ∃ vs : List Value, Reads w B 1 D m vs ∧ ∀ i, i < m → ∃ A c, vs[i]? = some (.slice A (needs.getD i []).length c) ∧ (needs.getD i []).length ≤ c ∧ c ≤ maxLen ∧ Reads w B 1 A (needs.getD i []).length (nums (needs.getD i []))
section
variable {w w' : World} {B B' m : Nat} {D : Option Addr} {needs : List (List Int)}
theorem NRows.keep (h : NRows w B D m needs) (hk : ∀ p : Addr, p.block < B → w'.cell? p = w.cell? p) : NRows w' B D m needs := by
  obtain ⟨h1, vs, h2, h3⟩ := h
  refine ⟨h1, vs, h2.keep hk, fun i hi => ?_⟩
  obtain ⟨A, c, e, l1, l2, hr⟩ := h3 i hi
  exact ⟨A, c, e, l1, l2, hr.keep hk⟩
theorem NRows.below (h : NRows w B D m needs) (hb : Below B w w') : NRows w' B D m needs := h.keep fun _ hp => hb.cell hp
theorem NRows.more (h : NRows w B D m needs) (hB : B ≤ B') : NRows w B' D m needs := by
  obtain ⟨h1, vs, h2, h3⟩ := h
  refine ⟨h1, vs, h2.more hB, fun i hi => ?_⟩
  obtain ⟨A, c, e, l1, l2, hr⟩ := h3 i hi
  exact ⟨A, c, e, l1, l2, hr.more hB⟩
theorem NRows.drewN (h : NRows w B D m needs) (k : Nat) : NRows (w.drewN k) B D m needs := h
/-- One row. -/
theorem NRows.at_ (h : NRows w B D m needs) {i : Nat} (hi : i < m) : ∃ ad A c, D = some ad ∧ ad.block < B ∧ w.cell? (ad.add i) = some (.slice A (needs.getD i []).length c) ∧ (needs.getD i []).length ≤ c ∧ c ≤ maxLen ∧ Reads w B 1 A (needs.getD i []).length (nums (needs.getD i [])) := by
  obtain ⟨_, vs, h2, h3⟩ := h
  obtain ⟨A, c, e, l1, l2, hr⟩ := h3 i hi
  obtain ⟨ad, hd, hb, hc⟩ := h2.2 (by omega)
  exact ⟨ad, A, c, hd, hb, hc _ _ e, l1, l2, hr⟩
end
/-- May a system be? -/
def sysB (up : List Nat) (consts : List Lb) (needs : List (List Int)) : Bool :=
  latB up && decide (consts.length ≤ 16384) && decide (needs.length = consts.length) && (List.range consts.length).all fun i => goodB up (consts.getD i z0).lv && !(needs.getD i []).any (badI consts.length)
theorem all_succV (n : Nat) (q : Nat → Bool) : (List.range (n + 1)).all q = ((List.range n).all q && q n) := by
  rw [List.range_succ, List.all_append]
  simp
theorem all_noV {n i : Nat} {q : Nat → Bool} (hi : i < n) (h : q i = false) : (List.range n).all q = false := by
  rw [List.all_eq_false]
  exact ⟨i, List.mem_range.2 hi, by rw [h]; simp⟩
end Go.Idl
namespace Go.Proofs.YtleckdbdhkgcpaaDoor
open Go.RowKit Go.Shelf Go.Idl
set_option linter.unusedSimpArgs false
set_option linter.unusedVariables false

theorem lev1_any (k : Int) (p : Nat) (A : Option Addr) (n c : Nat) (w : World) (hc : w.cell? ⟨p, 0, none⟩ = some (.slice A n c)) :
    Calls Tryd.prog 39 #[.int .i64 k, .pointer (some ⟨p, 0, none⟩)] w fun e w' => e = .returned (.bool (badI n k)) ∧ w = w' := by
  have e : badI n k = (decide (k < 0) || decide ((n : Int) ≤ k)) := rfl
  replace e := Lib.hid e
  by_cases h1 : k < 0
  · go_enter Tryd.func39, Tryd.ntmps39
    go_wp2
    go_ret
    exact ⟨ret_bool (by rw [e.out, decide_eq_true (show k < 0 by omega)]; rfl), rfl⟩
  · by_cases h2 : (n : Int) ≤ k
    · go_enter Tryd.func39, Tryd.ntmps39
      go_wp2
      go_ret
      exact ⟨ret_bool (by rw [e.out, decide_eq_false (show ¬ k < 0 by omega), decide_eq_true (show (n : Int) ≤ k by omega)]; rfl), rfl⟩
    · go_enter Tryd.func39, Tryd.ntmps39
      go_wp2
      go_ret
      exact ⟨ret_bool (by rw [e.out, decide_eq_false (show ¬ k < 0 by omega), decide_eq_false (show ¬ (n : Int) ≤ k by omega)]; rfl), rfl⟩

/-- What is found: its number is no level's; or nothing is. -/
def IdxPost (n : Nat) (zs : List Int) (w : World) (e : Ending) (w' : World) : Prop := ∃ r : Int, e = .returned (.int .i64 r) ∧ decide (0 ≤ r) = zs.any (badI n) ∧ w = w'

theorem idx_any (Z : Option Addr) (m d : Nat) (zs : List Int) (p : Nat) (A : Option Addr) (n c : Nat) (w : World) (hm : m ≤ maxLen) (hl : zs.length = m) (hz : Reads w w.heap.size 1 Z m (nums zs)) (hc : w.cell? ⟨p, 0, none⟩ = some (.slice A n c)) :
    Calls Tryd.prog 52 #[.slice Z m d, .func (.func 39) #[] #[.pointer (some ⟨p, 0, none⟩)]] w fun e w' => IdxPost n zs w e w' := by
  unfold maxLen at hm
  replace hl := Lib.hid hl
  replace hz := Lib.hid hz
  go_enter Tryd.func52, Tryd.ntmps52
  go_wp2
  go_loopw [8] (fun v wr => ∃ i : Nat, v = .int .i64 (i : Nat) ∧ i ≤ m ∧ (zs.take i).any (badI n) = false ∧ wr = w) (fun v wr => m - natOf v)
  case atStart => exact ⟨0, rfl, by omega, by simp, rfl⟩
  case round =>
    obtain ⟨i, rfl, him, hno, rfl⟩ := hrel
    by_cases hi : i < m
    · have hlt : ((i : Int) < (m : Int)) := by omega
      have hil : i < zs.length := by rw [hl.out]; exact hi
      obtain ⟨ad, hZ, hbk, hcell⟩ := hz.out.2 (by omega)
      subst hZ
      have hci := hcell _ _ (nums_at hil)
      have hstep : (zs.take (i + 1)).any (badI n) = ((zs.take i).any (badI n) || badI n (zs.getD i 0)) := by
        rw [List.take_succ_eq_append_getElem hil, List.any_append, List.getD_eq_getElem?_getD, List.getElem?_eq_getElem hil]
        simp
      rw [hno, Bool.false_or] at hstep
      have hCall := fun k => lev1_any k p A n c wr hc
      replace hCall := Lib.hid hCall
      replace hcell := Lib.hid hcell
      replace hno := Lib.hid hno
      generalize hze : (zs.getD i 0) = z at *
      replace hze := Lib.hid hze
      cases hb : badI n z with
      | true =>
        rw [hb] at hstep
        have hres : zs.any (badI n) = true := by
          rw [List.any_eq_true] at hstep ⊢
          obtain ⟨x, hx, hxb⟩ := hstep
          exact ⟨x, List.mem_of_mem_take hx, hxb⟩
        replace hstep := Lib.hid hstep
        replace hres := Lib.hid hres
        go_wp2_with (go_at_call 39; refine (hCall.out z).mono ?_; rintro e w1 ⟨rfl, rfl⟩; simp only [hb])
        go_ret
        exact ⟨(i : Int), rfl, by rw [hres.out]; simp, rfl⟩
      | false =>
        rw [hb] at hstep
        replace hstep := Lib.hid hstep
        go_wp2_with (go_at_call 39; refine (hCall.out z).mono ?_; rintro e w1 ⟨rfl, rfl⟩; simp only [hb])
        go_roundw
        case rel => exact ⟨i + 1, by go_num, by omega, hstep.out, by trivial⟩
        case measure => simp [natOf]; omega
    · have hie : i = m := by omega
      have hlt : ¬ ((i : Int) < (m : Int)) := by omega
      have hres : zs.any (badI n) = false := by rw [List.take_of_length_le (by have := hl.out; omega)] at hno; exact hno
      replace hno := Lib.hid hno
      replace hres := Lib.hid hres
      go_wp2
      go_ret
      exact ⟨-1, rfl, by rw [hres.out]; rfl, rfl⟩

theorem has_bad (Z : Option Addr) (m d : Nat) (zs : List Int) (p : Nat) (A : Option Addr) (n c : Nat) (w : World) (hm : m ≤ maxLen) (hl : zs.length = m) (hz : Reads w w.heap.size 1 Z m (nums zs)) (hc : w.cell? ⟨p, 0, none⟩ = some (.slice A n c)) :
    Calls Tryd.prog 38 #[.slice Z m d, .func (.func 39) #[] #[.pointer (some ⟨p, 0, none⟩)]] w fun e w' => e = .returned (.bool (zs.any (badI n))) ∧ w = w' := by
  replace hl := Lib.hid hl
  replace hz := Lib.hid hz
  replace hm := Lib.hid hm
  go_enter Tryd.func38, Tryd.ntmps38
  go_wp2_with fail
  refine (idx_any Z m d zs p A n c w hm.out hl.out hz.out hc).mono ?_
  rintro e w1 ⟨r, rfl, hr, rfl⟩
  replace hr := Lib.hid hr
  go_wp2
  go_ret
  exact ⟨ret_bool hr.out, rfl⟩


/-- What holds of one equation. -/
def eqB (up : List Nat) (consts : List Lb) (needs : List (List Int)) (i : Nat) : Bool := goodB up (consts.getD i z0).lv && !(needs.getD i []).any (badI consts.length)
theorem sysB_eq (up : List Nat) (consts : List Lb) (needs : List (List Int)) : sysB up consts needs = (latB up && decide (consts.length ≤ 16384) && decide (needs.length = consts.length) && (List.range consts.length).all (eqB up consts needs)) := rfl

set_option maxHeartbeats 8000000 in
set_option maxRecDepth 100000 in
theorem sright_any (A : Option Addr) (n c : Nat) (up : List Nat) (C D : Option Addr) (l lc m mc : Nat) (consts : List Lb) (needs : List (List Int)) (w : World) (hT : Tab w) (hn : up.length = n) (hn63 : n ≤ maxLen) (hM : Masks up) (hr : Reads w w.heap.size 1 A n (u64s up))
    (hl : consts.length = l) (hl63 : l ≤ maxLen) (hc : Reads w w.heap.size 2 C l (lbVals consts)) (hm63 : m ≤ maxLen) (hd : NRows w w.heap.size D m needs) :
    Calls Tryd.prog 20 #[.slice A n c, .agg #[.slice C l lc, .slice D m mc]] w fun e w' => e = .returned (.bool (sysB up consts needs)) ∧ Below w.heap.size w w' := by
  have hml : maxLen = 9223372036854775807 := rfl
  rw [hml] at hl63 hm63
  have hm := hd.1
  have he := sysB_eq up consts needs
  rw [hl, hm] at he
  have k0 := Blk.new w 26 #[.slice C l lc, .slice D m mc]
  have hb0 : Below w.heap.size w (w.alloc (.cells #[.slice C l lc, .slice D m mc] 26)) := (Below.refl _ w).alloc (Nat.le_refl _) _
  have hRi := right_lat A n c up _ (hT.later hb0) hn hn63 hM ((hr.below hb0).more hb0.size)
  replace hRi := Lib.hid hRi
  replace he := Lib.hid he
  replace hb0 := Lib.hid hb0
  replace k0 := Lib.hid k0
  replace hr := Lib.hid hr
  replace hM := Lib.hid hM
  replace hT := Lib.hid hT
  replace hc := Lib.hid hc
  replace hd := Lib.hid hd
  replace hn := Lib.hid hn
  replace hl := Lib.hid hl
  replace hm := Lib.hid hm
  cases hq : latB up with
  | false =>
    replace hq := Lib.hid hq
    go_enter Tryd.func20, Tryd.ntmps20
    go_wp2_with fail
    refine hRi.out.mono ?_
    rintro x w1 ⟨rfl, hb1⟩
    rw [hq.out]
    have hB := Lib.hid (hb0.out.trans (hb1.mono hb0.out.size))
    clear hb1
    go_wp2
    go_ret
    exact ⟨ret_bool (by rw [he.out, hq.out]; rfl), hB.out⟩
  | true =>
    replace hq := Lib.hid hq
    go_enter Tryd.func20, Tryd.ntmps20
    go_wp2_with fail
    refine hRi.out.mono ?_
    rintro x w1 ⟨rfl, hb1⟩
    rw [hq.out]
    have hB := Lib.hid (hb0.out.trans (hb1.mono hb0.out.size))
    have k1 := k0.out.below hb1 k0.out.lt
    obtain ⟨c0, c1⟩ := pair_cells k1
    replace k1 := Lib.hid k1
    clear hb1
    by_cases hbig : 16384 < l
    · have h1 : ((16384 : Int) < (l : Int)) := by omega
      go_wp2
      go_ret
      exact ⟨ret_bool (by rw [he.out, decide_eq_false (show ¬ l ≤ 16384 by omega)]; simp), hB.out⟩
    · have h1 : ¬ ((16384 : Int) < (l : Int)) := by omega
      by_cases hlm : m = l
      · have h2 : ((m : Int) != (l : Int)) = false := by simp; omega
        obtain rfl : l = m := hlm.symm
        have hcB := Lib.hid ((hc.out.below hB.out).more hB.out.size)
        have hdB := Lib.hid ((hd.out.below hB.out).more hB.out.size)
        go_wp2
        go_loopw [28] (fun v wr => ∃ i : Nat, v = .int .i64 (i : Nat) ∧ i ≤ l ∧ (List.range i).all (eqB up consts needs) = true ∧ Below w1.heap.size w1 wr) (fun v wr => l - natOf v)
        case atStart => exact ⟨0, rfl, by omega, by simp, Below.refl _ _⟩
        case round =>
          obtain ⟨i, rfl, him, hall, hbr⟩ := hrel
          have hX := hcB.out.below hbr
          have hY := hdB.out.below hbr
          have kr := k1.out.below hbr k1.out.lt
          obtain ⟨d0, d1⟩ := pair_cells kr
          have hBr := Lib.hid (hB.out.trans (hbr.mono hB.out.size))
          have hsz := hbr.size
          replace hbr := Lib.hid hbr
          replace kr := Lib.hid kr
          by_cases hi : i < l
          · have hlt : ((i : Int) < (l : Int)) := by omega
            have hstep := all_succV i (eqB up consts needs)
            rw [hall, Bool.true_and] at hstep
            have hno := fun h => all_noV (q := eqB up consts needs) hi h
            have heq : eqB up consts needs i = (goodB up (consts.getD i z0).lv && !(needs.getD i []).any (badI l)) := by unfold eqB; rw [hl.out]
            obtain ⟨ad, hC, hbk, e0, e1⟩ := reads_label hl.out (hX.more hsz) hi
            obtain ⟨ad2, A2, c2, hD, hbk2, e2, l1, l2, hrow⟩ := (hY.more hsz).at_ hi
            subst hC hD
            change wr.cell? (ad.add (i * 2)) = some (Value.int .i64 (consts.getD i z0).lv) at e0
            change _ = some (Value.int .u64 ((consts.getD i z0).ms : Nat)) at e1
            generalize consts.getD i z0 = cl at *
            generalize needs.getD i [] = zs at *
            have hg : goodB up cl.lv = (decide (0 ≤ cl.lv) && decide (cl.lv < (n : Int))) := by unfold goodB; rw [hn.out]
            obtain ⟨lv, ms⟩ := cl
            dsimp only at e0 e1 heq hg
            obtain ⟨X, hXe⟩ : ∃ X, wr.alloc (.cells #[.int .i64 lv, .int .u64 (ms : Nat)] 29) = X := ⟨_, rfl⟩
            have hba : Below wr.heap.size wr X := by rw [← hXe]; exact (Below.refl _ wr).alloc (Nat.le_refl _) _
            have hB3 : Below w1.heap.size w1 X := hbr.out.trans (hba.mono hsz)
            have kx : Blk X wr.heap.size 29 #[.int .i64 lv, .int .u64 (ms : Nat)] := by rw [← hXe]; exact Blk.new wr _ _
            obtain ⟨x0, x1⟩ := pair_cells kx
            obtain ⟨d0x, d1x⟩ := pair_cells (kr.out.below hba kr.out.lt)
            have e2x : X.cell? (ad2.add i) = some (.slice A2 zs.length c2) := (hba.cell (by rw [block_of_add]; exact hbk2)).trans e2
            have hCF := has_bad A2 zs.length c2 zs w.heap.size (some ad) l lc X (by omega) rfl ((hrow.below hba).more hba.size) d0x
            replace kx := Lib.hid kx
            replace hX := Lib.hid hX
            replace hY := Lib.hid hY
            replace hrow := Lib.hid hrow
            replace hall := Lib.hid hall
            replace hno := Lib.hid hno
            replace heq := Lib.hid heq
            replace hg := Lib.hid hg
            replace hstep := Lib.hid hstep
            replace hCF := Lib.hid hCF
            replace hB3 := Lib.hid hB3
            replace hba := Lib.hid hba
            by_cases h1 : lv < 0
            · have hres := hno.out (by rw [heq.out, hg.out, decide_eq_false (show ¬ 0 ≤ lv by omega)]; rfl)
              replace hres := Lib.hid hres
              go_wp2
              go_ret
              exact ⟨ret_bool (by rw [he.out, hres.out]; simp), hB.out.trans (hB3.out.mono hB.out.size)⟩
            · by_cases h2 : (n : Int) ≤ lv
              · have hres := hno.out (by rw [heq.out, hg.out, decide_eq_false (show ¬ lv < (n : Int) by omega)]; simp)
                replace hres := Lib.hid hres
                go_wp2
                go_ret
                exact ⟨ret_bool (by rw [he.out, hres.out]; simp), hB.out.trans (hB3.out.mono hB.out.size)⟩
              · have hgt := hg.out
                rw [decide_eq_true (show 0 ≤ lv by omega), decide_eq_true (show lv < (n : Int) by omega)] at hgt
                rw [hgt] at heq
                replace hgt := Lib.hid hgt
                go_wp2_with fail
                refine hCF.out.mono ?_
                rintro e w2 ⟨rfl, rfl⟩
                cases hb : zs.any (badI l) with
                | true =>
                  have hres := hno.out (by rw [heq.out, hb]; rfl)
                  replace hres := Lib.hid hres
                  replace hb := Lib.hid hb
                  go_wp2
                  go_ret
                  exact ⟨ret_bool (by rw [he.out, hres.out]; simp), hB.out.trans (hB3.out.mono hB.out.size)⟩
                | false =>
                  have hyes := hstep.out
                  rw [heq.out, hb] at hyes
                  replace hyes := Lib.hid hyes
                  replace hb := Lib.hid hb
                  go_wp2
                  go_roundw
                  case rel => exact ⟨i + 1, by go_num, by omega, hyes.out, hB3.out⟩
                  case measure => simp [natOf]; omega
          · have hie : i = l := by omega
            have hlt : ¬ ((i : Int) < (l : Int)) := by omega
            rw [hie] at hall
            replace hall := Lib.hid hall
            go_wp2
            go_ret
            exact ⟨ret_bool (by rw [he.out, hq.out, hall.out, decide_eq_true (show l ≤ 16384 by omega)]; simp), hBr.out⟩
      · have h2 : ((m : Int) != (l : Int)) = true := by simp; omega
        go_wp2
        go_ret
        exact ⟨ret_bool (by rw [he.out, decide_eq_false hlm]; simp), hB.out⟩

end Go.Proofs.YtleckdbdhkgcpaaDoor
