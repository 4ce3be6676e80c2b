/- The queue's own methods, as container/heap calls them. The queue: container/heap's up, down over it. The queue: Push, Pop, and container/heap's over them. put: what waits, by a map and a queue. -/
import Derived.Lib.Hide
import Derived.Lib.Walk
import Derived.BigQuiet
import Derived.Deep.RegionHeld3
import Derived.Test.YtleckdbdhkgcpaaDoorKp
import Derived.Test.YtleckdbdhkgcpaaDoorRf
import Derived.Test.YtleckdbdhkgcpaaDoorChecked
import Derived.Test.YtleckdbdhkgcpaaDoorTu
import Derived.Maps.OwnSet
import Derived.WalkArith
namespace Go.Proofs.YtleckdbdhkgcpaaDoor
open Go.RowKit Go.Shelf Go.Idl
set_option linter.unusedSimpArgs false
set_option linter.unusedVariables false

theorem wless_any (A : Option Addr) (n c : Nat) (zs : List Int) (i j : Nat) (w : World) (hn : zs.length = n) (hi : i < n) (hj : j < n) (hz : Reads w w.heap.size 1 A n (nums zs)) :
    Calls Tryd.prog 75 #[.slice A n c, .int .i64 (i : Nat), .int .i64 (j : Nat)] w fun e w' => e = .returned (.bool (decide (zs.getD i 0 < zs.getD j 0))) ∧ Below w.heap.size w w' := by
  obtain ⟨ad, rfl, hbk, hcl⟩ := hz.2 (by omega)
  have u0 := hcl i _ (nums_at (by omega))
  have u1 := hcl j _ (nums_at (by omega))
  generalize zs.getD i 0 = x at *
  generalize zs.getD j 0 = y at *
  have h0 : ((0 : Int) ≤ (i : Int)) := by omega
  have h1 : ((i : Int) < (n : Int)) := by omega
  have h2 : ((0 : Int) ≤ (j : Int)) := by omega
  have h3 : ((j : Int) < (n : Int)) := by omega
  replace hcl := Lib.hid hcl
  replace hz := Lib.hid hz
  go_enter Tryd.func75, Tryd.ntmps75
  go_wp2
  go_quiet (fail)
  go_wp2
  go_ret
  exact ⟨rfl, below_drewNs (Below.refl _ _) nq⟩

theorem wlen_any (A : Option Addr) (n c : Nat) (w : World) : Calls Tryd.prog 28 #[.slice A n c] w fun e w' => e = .returned (.int .i64 (n : Nat)) ∧ w = w' := by
  go_enter Tryd.func28, Tryd.ntmps28
  go_wp2
  go_ret
  exact ⟨rfl, rfl⟩
/-- Two places of the row change their numbers. -/
theorem wswap_any (g n c : Nat) (cur : Array Value) (x y : Int) (i j : Nat) (w : World) (hi : i < n) (hj : j < n) (k : Blk w g 3 cur) (u0 : cur[i]? = some (.int .i64 x)) (u1 : cur[j]? = some (.int .i64 y)) :
    Calls Tryd.prog 78 #[.slice (some ⟨g, 0, none⟩) n c, .int .i64 (i : Nat), .int .i64 (j : Nat)] w fun e w' => e = .returned (.tuple #[]) ∧ Blk w' g 3 ((cur.setIfInBounds i (.int .i64 y)).setIfInBounds j (.int .i64 x)) ∧ Below g w w' ∧ w'.heap.size = w.heap.size ∧ (∀ b, b ≠ g → w'.heap[b]? = w.heap[b]?) := by
  have q0 : w.cell? ⟨g, i, none⟩ = some (.int .i64 x) := (k.cell i).trans u0
  have q1 : w.cell? ⟨g, j, none⟩ = some (.int .i64 y) := (k.cell j).trans u1
  have f0 := k.frozen i
  have f1 := k.frozen j
  have h0 : ((0 : Int) ≤ (i : Int)) := by omega
  have h1 : ((i : Int) < (n : Int)) := by omega
  have h2 : ((0 : Int) ≤ (j : Int)) := by omega
  have h3 : ((j : Int) < (n : Int)) := by omega
  have a0 : (⟨g, 0, none⟩ : Addr).add i = ⟨g, i, none⟩ := by unfold Addr.add; split <;> simp_all
  have a1 : (⟨g, 0, none⟩ : Addr).add j = ⟨g, j, none⟩ := by unfold Addr.add; split <;> simp_all
  have fin : Blk ((w.setCell ⟨g, i, none⟩ (.int .i64 y)).setCell ⟨g, j, none⟩ (.int .i64 x)).drew g 3 ((cur.setIfInBounds i (.int .i64 y)).setIfInBounds j (.int .i64 x)) ∧ Below g w ((w.setCell ⟨g, i, none⟩ (.int .i64 y)).setCell ⟨g, j, none⟩ (.int .i64 x)).drew ∧ ((w.setCell ⟨g, i, none⟩ (.int .i64 y)).setCell ⟨g, j, none⟩ (.int .i64 x)).drew.heap.size = w.heap.size ∧ (∀ b, b ≠ g → ((w.setCell ⟨g, i, none⟩ (.int .i64 y)).setCell ⟨g, j, none⟩ (.int .i64 x)).drew.heap[b]? = w.heap[b]?) := by
    refine ⟨((k.set_ i _).set_ j _).drew, (((Below.refl g w).setCell (p := ⟨g, i, none⟩) (Nat.le_refl g) _).setCell (p := ⟨g, j, none⟩) (Nat.le_refl g) _).drew, by simp [World.setCell], fun b hb => ?_⟩
    show ((w.setCell ⟨g, i, none⟩ (.int .i64 y)).setCell ⟨g, j, none⟩ (.int .i64 x)).heap[b]? = w.heap[b]?
    rw [Below.heap_setCell _ _ _ _ hb, Below.heap_setCell _ _ _ _ hb]
  replace fin := Lib.hid fin
  replace k := Lib.hid k
  by_cases hij : i = j
  · subst hij
    obtain rfl : x = y := by
      rw [u0] at u1
      injection u1 with h
      injection h
    go_enter Tryd.func78, Tryd.ntmps78
    go_region_with (fail)
    all_goals (refine bodyPost_end (v := .tuple #[]) (results_none rfl _ _ _) rfl ?_; exact ⟨rfl, fin.out⟩)
  · go_enter Tryd.func78, Tryd.ntmps78
    go_region_with (fail)
    all_goals (refine bodyPost_end (v := .tuple #[]) (results_none rfl _ _ _) rfl ?_; exact ⟨rfl, fin.out⟩)

/-! ### which function an interface's method is -/
theorem m_push (p : Addr) (W : World) : Sem.run Tryd.prog (Go.method 209 57 (.pointer (some p)) "Push") W = .ok (77, .pointer (some p)) W := by kernel_rfl
theorem m_pop (p : Addr) (W : World) : Sem.run Tryd.prog (Go.method 209 57 (.pointer (some p)) "Pop") W = .ok (76, .pointer (some p)) W := by kernel_rfl
theorem m_len (p : Addr) (A : Option Addr) (n c : Nat) (W : World) (h : W.cell? p = some (.slice A n c)) : Sem.run Tryd.prog (Go.method 209 57 (.pointer (some p)) "Len") W = .ok (28, .slice A n c) W := by
  have e : Sem.run Tryd.prog (Go.method 209 57 (.pointer (some p)) "Len") W = Sem.run Tryd.prog (do let v ← Go.loadVar 58 p; pure (28, v)) W := by kernel_rfl
  rw [e]
  simp [go_sem, h]
theorem m_less (p : Addr) (A : Option Addr) (n c : Nat) (W : World) (h : W.cell? p = some (.slice A n c)) : Sem.run Tryd.prog (Go.method 209 57 (.pointer (some p)) "Less") W = .ok (75, .slice A n c) W := by
  have e : Sem.run Tryd.prog (Go.method 209 57 (.pointer (some p)) "Less") W = Sem.run Tryd.prog (do let v ← Go.loadVar 58 p; pure (75, v)) W := by kernel_rfl
  rw [e]
  simp [go_sem, h]
theorem m_swap (p : Addr) (A : Option Addr) (n c : Nat) (W : World) (h : W.cell? p = some (.slice A n c)) : Sem.run Tryd.prog (Go.method 209 57 (.pointer (some p)) "Swap") W = .ok (78, .slice A n c) W := by
  have e : Sem.run Tryd.prog (Go.method 209 57 (.pointer (some p)) "Swap") W = Sem.run Tryd.prog (do let v ← Go.loadVar 58 p; pure (78, v)) W := by kernel_rfl
  rw [e]
  simp [go_sem, h]
end Go.Proofs.YtleckdbdhkgcpaaDoor
namespace Go.Proofs.YtleckdbdhkgcpaaDoor
open Go.RowKit Go.Shelf Go.Idl
set_option linter.unusedSimpArgs false
set_option linter.unusedVariables false

theorem q_less (g c n : Nat) (zs : List Int) (i j : Nat) (w : World) (hn : zs.length = n) (hi : i < n) (hj : j < n) (hz : Qrow w g 3 c zs) :
    Calls Tryd.prog 75 #[.slice (some ⟨g, 0, none⟩) n c, .int .i64 (i : Nat), .int .i64 (j : Nat)] w fun e w' => (∃ b, e = .returned (.bool b)) ∧ Qrow w' g 3 c zs ∧ Kept (fun k => k = g) w w' ∧ Below w.heap.size w w' := by
  subst hn
  exact (wless_any (some ⟨g, 0, none⟩) zs.length c zs i j w rfl hi hj hz.reads).mono fun e w' ⟨he, hb⟩ => by
    have hk : Kept (fun k => k = g) w w' := Kept.of_below hb fun i h1 h2 => by omega
    obtain ⟨cur, k, hr⟩ := hz
    exact ⟨⟨_, he⟩, ⟨cur, k.below hb k.lt, hr⟩, hk, hb⟩

theorem q_swap (g c n : Nat) (zs : List Int) (i j : Nat) (w : World) (hn : zs.length = n) (hi : i < n) (hj : j < n) (hz : Qrow w g 3 c zs) :
    Calls Tryd.prog 78 #[.slice (some ⟨g, 0, none⟩) n c, .int .i64 (i : Nat), .int .i64 (j : Nat)] w fun e w' => e = .returned (.tuple #[]) ∧ Qrow w' g 3 c (swapL zs i j) ∧ Kept (fun k => k = g) w w' := by
  subst hn
  obtain ⟨cur, k, hat⟩ := hz.at_
  refine (wswap_any g zs.length c cur _ _ i j w hi hj k (hat i hi) (hat j hj)).mono ?_
  rintro e w' ⟨he, k', hb, hs, hh⟩
  exact ⟨he, hz.swap k k', ⟨hb.os, hb.tape, hb.output, hb.size, fun b _ hn => hh b hn⟩⟩

theorem up_any (h g c : Nat) (zs : List Int) (n j : Nat) (w : World) (hn : zs.length = n) (hj : j < n) (k : Blk w h 58 #[.slice (some ⟨g, 0, none⟩) n c]) (hz : Qrow w g 3 c zs) (hgh : h ≠ g) (hc : n ≤ 200000000000) :
    Calls Tryd.prog 40 #[.iface 57 (.pointer (some ⟨h, 0, none⟩)), .int .i64 (j : Nat)] w fun e w' => e = .returned (.tuple #[]) ∧ ∃ zs', zs'.Perm zs ∧ Qrow w' g 3 c zs' ∧ Kept (fun k => k = g) w w' := by
  replace hn := Lib.hid hn
  replace k := Lib.hid k
  replace hz := Lib.hid hz
  go_enter Tryd.func40, Tryd.ntmps40
  go_wp2
  go_loopw [1] (fun v wr => ∃ j : Nat, v = .int .i64 (j : Nat) ∧ j < n ∧ ∃ zs', zs'.Perm zs ∧ Qrow wr g 3 c zs' ∧ Kept (fun k => k = g) w wr) (fun v wr => natOf v)
  case atStart => exact ⟨j, rfl, hj, zs, List.Perm.refl _, hz.out, Kept.refl _ _⟩
  case round =>
    obtain ⟨j, rfl, hj, zs', hp, hz', hk⟩ := hrel
    have hl : zs'.length = n := hp.length_eq.trans hn.out
    replace hk := Lib.hid hk
    replace hp := Lib.hid hp
    replace hz' := Lib.hid hz'
    have k1 : Blk wr h 58 #[.slice (some ⟨g, 0, none⟩) n c] := k.out.at_kept hk.out (fun e => hgh e)
    have hm := fun W hW => m_less ⟨h, 0, none⟩ (some ⟨g, 0, none⟩) n c W hW
    by_cases hj0 : j = 0
    · subst hj0
      go_wp2
      refine bodyPost_end (v := .tuple #[]) (results_none rfl _ _ _) rfl ?_
      exact ⟨rfl, zs', hp.out, hz'.out, hk.out⟩
    · obtain ⟨i, hi⟩ : ∃ i, i = (j - 1) / 2 := ⟨_, rfl⟩
      have hij : i < j := by omega
      have hdiv : ((j : Int) - 1).tdiv 2 = (i : Int) := by rw [Int.tdiv_eq_ediv_of_nonneg (by omega)]; omega
      have hne : ((i : Int) == (j : Int)) = false := by simp; omega
      replace hi := Lib.hid hi
      have c1 := k1.cell0
      replace k1 := Lib.hid k1
      go_wp2_with fail
      refine (q_less g c n zs' j i wr hl (by omega) (by omega) hz'.out).mono ?_
      rintro e w1 ⟨⟨b, rfl⟩, hz1, hk1, hb1⟩
      have hK := hk.out.trans hk1 (T := fun k => k = g) (fun _ _ h => h) (fun _ _ h => h)
      have k2 := k1.out.below hb1 k1.out.lt
      have c2 := k2.cell0
      replace k1 := Lib.hid k1
      clear c1
      replace k2 := Lib.hid k2
      replace hK := Lib.hid hK
      replace hz1 := Lib.hid hz1
      clear hk1 hb1 hm
      have hm := fun W hW => m_swap ⟨h, 0, none⟩ (some ⟨g, 0, none⟩) n c W hW
      cases b with
      | false =>
        go_wp2
        refine bodyPost_end (v := .tuple #[]) (results_none rfl _ _ _) rfl ?_
        exact ⟨rfl, zs', hp.out, hz1.out, hK.out⟩
      | true =>
        go_wp2_with fail
        refine (q_swap g c n zs' i j w1 hl (by omega) (by omega) hz1.out).mono ?_
        rintro e w2 ⟨rfl, hz2, hk2⟩
        replace hz2 := Lib.hid hz2
        have hK2 := Lib.hid (hK.out.trans hk2 (T := fun k => k = g) (fun _ _ h => h) (fun _ _ h => h))
        clear hk2
        go_wp2
        go_roundw
        case rel => exact ⟨i, rfl, by omega, swapL zs' i j, (swapL_perm zs' (by omega) (by omega)).trans hp.out, hz2.out, hK2.out⟩
        case measure => simp [natOf]; omega

set_option maxHeartbeats 4000000 in
set_option maxRecDepth 100000 in
theorem down_any (h g c : Nat) (zs : List Int) (n m : Nat) (w : World) (hn : zs.length = n) (hm : m ≤ n) (k : Blk w h 58 #[.slice (some ⟨g, 0, none⟩) n c]) (hz : Qrow w g 3 c zs) (hgh : h ≠ g) (hc : n ≤ 200000000000) :
    Calls Tryd.prog 41 #[.iface 57 (.pointer (some ⟨h, 0, none⟩)), .int .i64 0, .int .i64 (m : Nat)] w fun e w' => (∃ b, e = .returned (.bool b)) ∧ ∃ zs', zs'.Perm zs ∧ Qrow w' g 3 c zs' ∧ Kept (fun k => k = g) w w' := by
  replace hn := Lib.hid hn
  replace k := Lib.hid k
  replace hz := Lib.hid hz
  go_enter Tryd.func41, Tryd.ntmps41
  go_wp2
  go_loopw [7] (fun v wr => ∃ i : Nat, v = .int .i64 (i : Nat) ∧ (i = 0 ∨ i < m) ∧ ∃ zs', zs'.Perm zs ∧ Qrow wr g 3 c zs' ∧ Kept (fun k => k = g) w wr) (fun v wr => m - natOf v)
  case atStart => exact ⟨0, rfl, .inl rfl, zs, List.Perm.refl _, hz.out, Kept.refl _ _⟩
  case round =>
    obtain ⟨i, rfl, hi, zs', hp, hz', hk⟩ := hrel
    have hl : zs'.length = n := hp.length_eq.trans hn.out
    replace hk := Lib.hid hk
    replace hp := Lib.hid hp
    replace hz' := Lib.hid hz'
    have k1 : Blk wr h 58 #[.slice (some ⟨g, 0, none⟩) n c] := k.out.at_kept hk.out (fun e => hgh e)
    by_cases hj1 : 2 * i + 1 < m
    · obtain ⟨j1, hjn⟩ : ∃ j1 : Nat, j1 = 2 * i + 1 := ⟨_, rfl⟩
      have hA : 2 * (i : Int) + 1 = (j1 : Int) := by omega
      have hge : ¬ ((m : Int) ≤ (j1 : Int)) := by omega
      have hij : i < j1 := by omega
      have c1 := k1.cell0
      replace hjn := Lib.hid hjn
      replace k1 := Lib.hid k1
      have hml := fun W hW => m_less ⟨h, 0, none⟩ (some ⟨g, 0, none⟩) n c W hW
      have hms := fun W hW => m_swap ⟨h, 0, none⟩ (some ⟨g, 0, none⟩) n c W hW
      by_cases hj2 : j1 + 1 < m
      · obtain ⟨j2, hjn2⟩ : ∃ j2 : Nat, j2 = j1 + 1 := ⟨_, rfl⟩
        have hB : (j1 : Int) + 1 = (j2 : Int) := by omega
        have hlt : ((j2 : Int) < (m : Int)) := by omega
        have hjj : j1 < j2 := by omega
        replace hjn2 := Lib.hid hjn2
        go_wp2_with fail
        refine (q_less g c n zs' j2 j1 wr hl (by omega) (by omega) hz'.out).mono ?_
        rintro e w1 ⟨⟨b, rfl⟩, hz1, hk1, hb1⟩
        have hK := hk.out.trans hk1 (T := fun k => k = g) (fun _ _ h => h) (fun _ _ h => h)
        have c2 := (k.out.at_kept hK (fun e => hgh e)).cell0
        replace hK := Lib.hid hK
        replace hz1 := Lib.hid hz1
        clear hk1 hb1
        cases b with
        | false =>
          go_wp2_with fail
          refine (q_less g c n zs' j1 i w1 hl (by omega) (by omega) hz1.out).mono ?_
          rintro e wa ⟨⟨b, rfl⟩, hza, hka, hba⟩
          have hKa := hK.out.trans hka (T := fun k => k = g) (fun _ _ h => h) (fun _ _ h => h)
          have ca := (k.out.at_kept hKa (fun e => hgh e)).cell0
          replace hKa := Lib.hid hKa
          replace hza := Lib.hid hza
          clear hka hba hml
          cases b with
          | false =>
            go_wp2
            go_ret
            exact ⟨⟨_, rfl⟩, zs', hp.out, hza.out, hKa.out⟩
          | true =>
            go_wp2_with fail
            refine (q_swap g c n zs' i j1 wa hl (by omega) (by omega) hza.out).mono ?_
            rintro e wb ⟨rfl, hzb, hkb⟩
            replace hzb := Lib.hid hzb
            have hKb := Lib.hid (hKa.out.trans hkb (T := fun k => k = g) (fun _ _ h => h) (fun _ _ h => h))
            clear hkb
            go_wp2
            go_roundw
            case rel => exact ⟨j1, rfl, .inr (by omega), swapL zs' i j1, (swapL_perm zs' (by omega) (by omega)).trans hp.out, hzb.out, hKb.out⟩
            case measure => simp [natOf]; omega
        | true =>
          go_wp2_with fail
          refine (q_less g c n zs' j2 i w1 hl (by omega) (by omega) hz1.out).mono ?_
          rintro e wa ⟨⟨b, rfl⟩, hza, hka, hba⟩
          have hKa := hK.out.trans hka (T := fun k => k = g) (fun _ _ h => h) (fun _ _ h => h)
          have ca := (k.out.at_kept hKa (fun e => hgh e)).cell0
          replace hKa := Lib.hid hKa
          replace hza := Lib.hid hza
          clear hka hba hml
          cases b with
          | false =>
            go_wp2
            go_ret
            exact ⟨⟨_, rfl⟩, zs', hp.out, hza.out, hKa.out⟩
          | true =>
            go_wp2_with fail
            refine (q_swap g c n zs' i j2 wa hl (by omega) (by omega) hza.out).mono ?_
            rintro e wb ⟨rfl, hzb, hkb⟩
            replace hzb := Lib.hid hzb
            have hKb := Lib.hid (hKa.out.trans hkb (T := fun k => k = g) (fun _ _ h => h) (fun _ _ h => h))
            clear hkb
            go_wp2
            go_roundw
            case rel => exact ⟨j2, rfl, .inr (by omega), swapL zs' i j2, (swapL_perm zs' (by omega) (by omega)).trans hp.out, hzb.out, hKb.out⟩
            case measure => simp [natOf]; omega
      · have hlt : ¬ ((j1 : Int) + 1 < (m : Int)) := by omega
        go_wp2_with fail
        refine (q_less g c n zs' j1 i wr hl (by omega) (by omega) hz'.out).mono ?_
        rintro e wa ⟨⟨b, rfl⟩, hza, hka, hba⟩
        have hKa := hk.out.trans hka (T := fun k => k = g) (fun _ _ h => h) (fun _ _ h => h)
        have ca := (k.out.at_kept hKa (fun e => hgh e)).cell0
        replace hKa := Lib.hid hKa
        replace hza := Lib.hid hza
        clear hka hba hml
        cases b with
        | false =>
          go_wp2
          go_ret
          exact ⟨⟨_, rfl⟩, zs', hp.out, hza.out, hKa.out⟩
        | true =>
          go_wp2_with fail
          refine (q_swap g c n zs' i j1 wa hl (by omega) (by omega) hza.out).mono ?_
          rintro e wb ⟨rfl, hzb, hkb⟩
          replace hzb := Lib.hid hzb
          have hKb := Lib.hid (hKa.out.trans hkb (T := fun k => k = g) (fun _ _ h => h) (fun _ _ h => h))
          clear hkb
          go_wp2
          go_roundw
          case rel => exact ⟨j1, rfl, .inr (by omega), swapL zs' i j1, (swapL_perm zs' (by omega) (by omega)).trans hp.out, hzb.out, hKb.out⟩
          case measure => simp [natOf]; omega
    · have hge : ((m : Int) ≤ 2 * (i : Int) + 1) := by omega
      go_wp2
      go_ret
      exact ⟨⟨_, rfl⟩, zs', hp.out, hz'.out, hk.out⟩
end Go.Proofs.YtleckdbdhkgcpaaDoor
namespace Go.Proofs.YtleckdbdhkgcpaaDoor
open Go.RowKit Go.Shelf Go.Idl
set_option linter.unusedSimpArgs false
set_option linter.unusedVariables false

theorem int_info1 : (Tryd.prog.info? 3).map (fun i => (i.zero, i.size, i.bytes)) = some (some (.int .i64 0), 1, 8) := by kernel_rfl
theorem info_parts1 {o : Option TypeInfo} {z : Value} {s b : Nat} (h : o.map (fun i => (i.zero, i.size, i.bytes)) = some (some z, s, b)) : ∃ i, o = some i ∧ i.zero = some z ∧ i.size = s ∧ i.bytes = b := by
  obtain ⟨i, rfl, he⟩ := Option.map_eq_some_iff.1 h
  injection he with h1 h2
  injection h2 with h2 h3
  exact ⟨i, rfl, h1, h2, h3⟩

theorem assert_int (v : Value) (w : World) : Sem.run Tryd.prog (Instr.typeAssert (.iface 3 v) 20 3 true) w = .ok (.tuple #[v, .bool true]) w := by
  simp [Instr.typeAssert, run_underlying Tryd.underlying3, go_sem, Result.andThen]

set_option maxHeartbeats 4000000 in
set_option maxRecDepth 100000 in
theorem push1_any (h g c : Nat) (zs : List Int) (n : Nat) (x : Int) (w : World) (hn : zs.length = n) (k : Blk w h 58 #[.slice (some ⟨g, 0, none⟩) n c]) (hz : Qrow w g 3 c zs) (hgh : h ≠ g) (hc : n ≤ 200000000000) :
    Calls Tryd.prog 77 #[.pointer (some ⟨h, 0, none⟩), .iface 3 (.int .i64 x)] w fun e w' => e = .returned (.tuple #[]) ∧ ∃ g' c', Blk w' h 58 #[.slice (some ⟨g', 0, none⟩) (n + 1) c'] ∧ Qrow w' g' 3 c' (zs ++ [x]) ∧
      (g' = g ∨ w.heap.size ≤ g') ∧ Kept (fun k => k = h ∨ k = g) w w' := by
  obtain ⟨i0, hi0, hz0, hz1, hz2⟩ := info_parts1 int_info1
  have ho := hz.own (Nat.zero_le g)
  rw [hn] at ho
  have hkl := k.lt
  have c0 := k.cell0
  replace hn := Lib.hid hn
  replace hz := Lib.hid hz
  replace ho := Lib.hid ho
  replace k := Lib.hid k
  have hta := assert_int (.int .i64 x)
  go_enter Tryd.func77, Tryd.ntmps77
  go_wp2_with (
    at_builtin
    refine wpList_append_any (w.alloc (.cells [Value.int .i64 x].toArray 3)) rfl _ _ 58 rfl 0 3 i0 (.int .i64 0) 1 8 Tryd.underlying58 hi0 hz0 hz1 hz2 rfl (by decide) _ n (nums zs) rfl (ho.out.alloc _) _ _ 1 1 [.int .i64 x] rfl (Reads.newN w 3 1 1 [.int .i64 x] rfl) (by simp [Value.oneCell']) (by unfold maxLen; omega) (by omega) (Nat.zero_le _) ?_
    intro v' w1 ho1 hg1 hat
    rw [show nums zs ++ [Value.int .i64 x] = nums (zs ++ [x]) from (nums_app zs [x]).symm] at ho1
    obtain ⟨g', c', rfl, _, hq, _⟩ := Qrow.of ho1 (by omega)
    replace hg1 : (w.alloc (.cells #[Value.int .i64 x] 3)).grownBy w1 (some g) := hg1
    replace hat : some g' = some g ∨ some g' = some (w.alloc (.cells #[Value.int .i64 x] 3)).heap.size := hat
    have k1 : Blk w1 h 58 #[.slice (some ⟨g, 0, none⟩) n c] := (k.out.alloc (.cells #[Value.int .i64 x] 3)).grown hg1 (fun e => hgh (by injection e))
    have hgs : g' = g ∨ w.heap.size ≤ g' := by
      rcases hat with e | e
      · exact .inl (by injection e)
      · right
        injection e with e
        simp at e
        omega
    have hne : g' ≠ h := by rcases hgs with e | e <;> omega
    have f1 := k1.frozen 0
    have c1 := k1.cell0
    have hK := ((Kept.refl (fun k => k = h ∨ k = g) w).alloc (.cells #[Value.int .i64 x] 3)).trans (Kept.of_grown (S := fun k => k = h ∨ k = g) hg1 (fun b e => .inr (by injection e with e; exact e.symm))) (T := fun k => k = h ∨ k = g) (fun _ _ h => h) (fun _ _ h => h)
    have fin : Blk (w1.setCell ⟨h, 0, none⟩ (.slice (some ⟨g', 0, none⟩) (n + 1) c')) h 58 #[.slice (some ⟨g', 0, none⟩) (n + 1) c'] ∧ Qrow (w1.setCell ⟨h, 0, none⟩ (.slice (some ⟨g', 0, none⟩) (n + 1) c')) g' 3 c' (zs ++ [x]) ∧
        Kept (fun k => k = h ∨ k = g) w (w1.setCell ⟨h, 0, none⟩ (.slice (some ⟨g', 0, none⟩) (n + 1) c')) := by
      refine ⟨by simpa using k1.set_ 0 (.slice (some ⟨g', 0, none⟩) (n + 1) c'), ?_, hK.setCell (.inl rfl) _⟩
      obtain ⟨cur, kc, hr⟩ := hq
      exact ⟨cur, kc.far hne _, hr⟩
    replace fin := Lib.hid fin
    replace k1 := Lib.hid k1
    replace hK := Lib.hid hK
    replace hq := Lib.hid hq
    replace hgs := Lib.hid hgs
    clear ho1 hg1 hat)
  refine bodyPost_end (v := .tuple #[]) (results_none rfl _ _ _) rfl ?_
  exact ⟨rfl, _, _, fin.out.1, fin.out.2.1, hgs.out, fin.out.2.2⟩

set_option maxHeartbeats 4000000 in
set_option maxRecDepth 100000 in
theorem pop1_any (h g c : Nat) (zs : List Int) (n : Nat) (w : World) (hn : zs.length = n + 1) (k : Blk w h 58 #[.slice (some ⟨g, 0, none⟩) (n + 1) c]) (hz : Qrow w g 3 c zs) (hgh : h ≠ g) (hc : n ≤ 200000000000) :
    Calls Tryd.prog 76 #[.pointer (some ⟨h, 0, none⟩)] w fun e w' => e = .returned (.iface 3 (.int .i64 (zs.getD n 0))) ∧ Blk w' h 58 #[.slice (some ⟨g, 0, none⟩) n c] ∧ Qrow w' g 3 c zs.dropLast ∧ Kept (fun k => k = h) w w' := by
  obtain ⟨cur, kg, hat⟩ := hz.at_
  have hcap : n + 1 ≤ c ∧ c ≤ maxLen := by
    obtain ⟨_, _, _, h2, h3, _⟩ := hz
    omega
  have q0 : w.cell? ⟨g, n, none⟩ = some (.int .i64 (zs.getD n 0)) := (kg.cell n).trans (hat n (by omega))
  have a0 : (⟨g, 0, none⟩ : Addr).add n = ⟨g, n, none⟩ := by unfold Addr.add; split <;> simp_all
  have c0 := k.cell0
  have f0 := k.frozen 0
  have hsub : (((n + 1 : Nat) : Int) - 1) = (n : Int) := by omega
  have fin : Blk (w.setCell ⟨h, 0, none⟩ (.slice (some ⟨g, 0, none⟩) n c)) h 58 #[.slice (some ⟨g, 0, none⟩) n c] ∧ Qrow (w.setCell ⟨h, 0, none⟩ (.slice (some ⟨g, 0, none⟩) n c)) g 3 c zs.dropLast ∧ Kept (fun k => k = h) w (w.setCell ⟨h, 0, none⟩ (.slice (some ⟨g, 0, none⟩) n c)) := by
    refine ⟨by simpa using k.set_ 0 (.slice (some ⟨g, 0, none⟩) n c), Qrow.pop ?_, (Kept.refl (fun k => k = h) w).setCell (p := ⟨h, 0, none⟩) rfl _⟩
    obtain ⟨cur, kc, hr⟩ := hz
    exact ⟨cur, kc.far (fun e => hgh e.symm) _, hr⟩
  generalize zs.getD n 0 = x at *
  have hl0 : ((0 : Int) ≤ (n : Int)) := by omega
  have hl1 : ((n : Int) < ((n + 1 : Nat) : Int)) := by omega
  have hl2 : ((n : Int) ≤ (c : Int)) := by omega
  obtain ⟨m, hm⟩ : ∃ m, m = n + 1 := ⟨_, rfl⟩
  rw [← hm] at hsub hl1 c0
  replace hm := Lib.hid hm
  replace fin := Lib.hid fin
  replace k := Lib.hid k
  replace kg := Lib.hid kg
  replace hz := Lib.hid hz
  replace hat := Lib.hid hat
  replace hn := Lib.hid hn
  go_enter Tryd.func76, Tryd.ntmps76
  go_wp2
  go_ret
  exact ⟨rfl, fin.out.1, fin.out.2.1, fin.out.2.2⟩

set_option maxHeartbeats 4000000 in
set_option maxRecDepth 100000 in
/-- heap.Push. -/
theorem hpush_any (h g c : Nat) (zs : List Int) (n : Nat) (x : Int) (w : World) (hn : zs.length = n) (k : Blk w h 58 #[.slice (some ⟨g, 0, none⟩) n c]) (hz : Qrow w g 3 c zs) (hgh : h ≠ g) (hc : n < 200000000000) :
    Calls Tryd.prog 27 #[.iface 57 (.pointer (some ⟨h, 0, none⟩)), .iface 3 (.int .i64 x)] w fun e w' => e = .returned (.tuple #[]) ∧ ∃ g' c' zs', zs'.Perm (x :: zs) ∧ Blk w' h 58 #[.slice (some ⟨g', 0, none⟩) (n + 1) c'] ∧ Qrow w' g' 3 c' zs' ∧
      (g' = g ∨ w.heap.size ≤ g') ∧ Kept (fun k => k = h ∨ k = g) w w' := by
  have hkl := k.lt
  replace hn := Lib.hid hn
  replace hz := Lib.hid hz
  replace k := Lib.hid k
  have hmp := fun W => m_push ⟨h, 0, none⟩ W
  go_enter Tryd.func27, Tryd.ntmps27
  go_wp2_with fail
  refine (push1_any h g c zs n x w hn.out k.out hz.out hgh (by omega)).mono ?_
  rintro e w1 ⟨rfl, g', c', k1, hz1, hg1, hK1⟩
  have hne : h ≠ g' := by rcases hg1 with e | e <;> omega
  have hlen : (zs ++ [x]).length = n + 1 := by rw [List.length_append, hn.out]; rfl
  have c1 := k1.cell0
  have hsub : (((n + 1 : Nat) : Int) - 1) = (n : Int) := by omega
  obtain ⟨m, hm⟩ : ∃ m, m = n + 1 := ⟨_, rfl⟩
  rw [← hm] at hsub c1 k1 hlen
  replace k1 := Lib.hid k1
  replace hz1 := Lib.hid hz1
  replace hK1 := Lib.hid hK1
  replace hg1 := Lib.hid hg1
  replace hm := Lib.hid hm
  clear hmp
  have hml := fun W hW => m_len ⟨h, 0, none⟩ (some ⟨g', 0, none⟩) m c' W hW
  go_wp2_with (go_at_call 28; refine (wlen_any (some ⟨g', 0, none⟩) m c' w1).mono ?_; rintro e w2 ⟨rfl, rfl⟩)
  refine (up_any h g' c' (zs ++ [x]) m n w1 hlen (by have := hm.out; omega) k1.out hz1.out hne (by have := hm.out; omega)).mono ?_
  rintro e w2 ⟨rfl, zs', hp, hz2, hK2⟩
  have k2 := k1.out.at_kept hK2 hne
  rw [hm.out] at k2
  replace hz2 := Lib.hid hz2
  replace k2 := Lib.hid k2
  replace hp := Lib.hid hp
  have hK := Lib.hid (hK1.out.trans hK2 (T := fun k => k = h ∨ k = g) (fun _ _ h => h) (fun i hi e => by rcases hg1.out with h1 | h1 <;> omega))
  clear hK2
  go_wp2
  refine bodyPost_end (v := .tuple #[]) (results_none rfl _ _ _) rfl ?_
  exact ⟨rfl, g', c', zs', hp.out.trans List.perm_append_comm, k2.out, hz2.out, hg1.out, hK.out⟩

theorem last_split {zs : List Int} {n : Nat} (h : zs.length = n + 1) : zs = zs.dropLast ++ [zs.getD n 0] := by
  have hne : zs ≠ [] := fun e => by rw [e] at h; simp at h
  have h1 := (List.dropLast_concat_getLast hne).symm
  rw [List.getLast_eq_getElem] at h1
  have h2 : zs.getD n 0 = zs[zs.length - 1]'(by omega) := by
    rw [List.getD_eq_getElem?_getD, List.getElem?_eq_getElem (by omega)]
    have e : zs.length - 1 = n := by omega
    simp [e]
  rw [h2]
  exact h1

set_option maxHeartbeats 4000000 in
set_option maxRecDepth 100000 in
/-- heap.Pop. -/
theorem hpop_any (h g c : Nat) (zs : List Int) (n : Nat) (w : World) (hn : zs.length = n + 1) (k : Blk w h 58 #[.slice (some ⟨g, 0, none⟩) (n + 1) c]) (hz : Qrow w g 3 c zs) (hgh : h ≠ g) (hc : n < 200000000000) :
    Calls Tryd.prog 29 #[.iface 57 (.pointer (some ⟨h, 0, none⟩))] w fun e w' => ∃ x zs', e = .returned (.iface 3 (.int .i64 x)) ∧ zs.Perm (x :: zs') ∧ Blk w' h 58 #[.slice (some ⟨g, 0, none⟩) n c] ∧ Qrow w' g 3 c zs' ∧ Kept (fun k => k = h ∨ k = g) w w' := by
  have hkl := k.lt
  have c0 := k.cell0
  have hsub : (((n + 1 : Nat) : Int) - 1) = (n : Int) := by omega
  obtain ⟨m, hm⟩ : ∃ m, m = n + 1 := ⟨_, rfl⟩
  have hnm : zs.length = m := by omega
  rw [← hm] at hsub c0 k
  replace hm := Lib.hid hm
  replace hn := Lib.hid hn
  replace hz := Lib.hid hz
  replace k := Lib.hid k
  have hml := fun W hW => m_len ⟨h, 0, none⟩ (some ⟨g, 0, none⟩) m c W hW
  have hms := fun W hW => m_swap ⟨h, 0, none⟩ (some ⟨g, 0, none⟩) m c W hW
  have hmp := fun W => m_pop ⟨h, 0, none⟩ W
  go_enter Tryd.func29, Tryd.ntmps29
  go_wp2_with (go_at_call 28; refine (wlen_any (some ⟨g, 0, none⟩) m c w).mono ?_; rintro e w2 ⟨rfl, rfl⟩)
  have hmo := hm.out
  refine (q_swap g c m zs 0 n w hnm (by omega) (by omega) hz.out).mono ?_
  rintro e w1 ⟨rfl, hz1, hK1⟩
  have hl1 : (swapL zs 0 n).length = m := (swapL_len _ _ _).trans hnm
  have hp1 := swapL_perm zs (i := 0) (j := n) (by omega) (by omega)
  clear hmo
  have k1 := k.out.at_kept hK1 hgh
  replace hz1 := Lib.hid hz1
  replace hK1 := Lib.hid hK1
  replace k1 := Lib.hid k1
  replace hp1 := Lib.hid hp1
  generalize swapL zs 0 n = zs1 at *
  clear c0
  go_wp2_with fail
  refine (down_any h g c zs1 m n w1 hl1 (by have := hm.out; omega) k1.out hz1.out hgh (by have := hm.out; omega)).mono ?_
  rintro e w2 ⟨⟨b, rfl⟩, zs2, hp2, hz2, hK2⟩
  have k2 := k1.out.at_kept hK2 hgh
  rw [hm.out] at k2
  have hl2 : zs2.length = n + 1 := (hp2.length_eq.trans hl1).trans hm.out
  have hK := Lib.hid (hK1.out.trans hK2 (T := fun k => k = h ∨ k = g) (fun _ _ h => .inr h) (fun _ _ h => .inr h))
  replace k2 := Lib.hid k2
  replace hz2 := Lib.hid hz2
  replace hp2 := Lib.hid (hp2.trans hp1.out)
  clear hK2
  go_wp2_with fail
  refine (pop1_any h g c zs2 n w2 hl2 k2.out hz2.out hgh (by omega)).mono ?_
  rintro e w3 ⟨rfl, k3, hz3, hK3⟩
  have hsp := last_split hl2
  have hK4 := Lib.hid (hK.out.trans hK3 (T := fun k => k = h ∨ k = g) (fun _ _ h => h) (fun _ _ h => .inl h))
  have hfin : zs.Perm (zs2.getD n 0 :: zs2.dropLast) := by
    refine hp2.out.symm.trans ?_
    rw [hsp]
    have e1 : (zs2.dropLast ++ [zs2.getD n 0]).getD n 0 = zs2.getD n 0 := by rw [← hsp]
    have e2 : (zs2.dropLast ++ [zs2.getD n 0]).dropLast = zs2.dropLast := by rw [← hsp]
    rw [e1, e2]
    exact List.perm_append_comm
  clear hsp
  generalize zs2.getD n 0 = x at *
  generalize zs2.dropLast = zs3 at *
  replace k3 := Lib.hid k3
  replace hz3 := Lib.hid hz3
  replace hfin := Lib.hid hfin
  clear hK3
  go_wp2
  go_ret
  exact ⟨x, zs3, rfl, hfin.out, k3.out, hz3.out, hK4.out⟩
end Go.Proofs.YtleckdbdhkgcpaaDoor
namespace Go.Idl
open Go Go.RowKit
set_option linter.unusedSimpArgs false
set_option linter.unusedVariables false

theorem putW_perm {W V : List Nat} (h : W.Perm V) (i : Nat) : (putW W i).Perm (putW V i) := by
  unfold putW
  by_cases hm : i ∈ W
  · rw [if_pos hm, if_pos (h.mem_iff.1 hm)]; exact h
  · rw [if_neg hm, if_neg (fun e => hm (h.mem_iff.2 e))]; exact h.append_right _
theorem putW_fold_perm : ∀ (U : List Nat) {W V : List Nat}, W.Perm V → (U.foldl putW W).Perm (U.foldl putW V)
  | [], _, _, h => h
  | u :: r, _, _, h => putW_fold_perm r (putW_perm h u)
theorem casts_len (W : List Nat) : (casts W).length = W.length := by simp [casts]
theorem nat_wf {i : Nat} (h : i < 4611686018427387904) : (Lit.int .i64 (i : Nat)).wf = true := by
  exact WalkArith.wf_i64 (by omega)
theorem mem_putW {W : List Nat} {i j : Nat} : j ∈ putW W i ↔ j ∈ W ∨ j = i := by
  unfold putW
  by_cases hm : i ∈ W
  · rw [if_pos hm]
    exact ⟨.inl, fun h => h.elim id (fun e => e ▸ hm)⟩
  · rw [if_neg hm]; simp

/-- How often each that waits was put; none that does not. -/
def WaitsD (D : DataW Unit) (T : Nat) (W : List Nat) : Prop :=
  ∀ i : Nat, i < 4611686018427387904 → ∃ q : Nat, q ≤ T ∧ D.atKey (.int .i64 (i : Nat)) (.lit (.int .i64 0)) = .lit (.int .i64 (q : Nat)) ∧ (q = 0 ↔ i ∉ W)
theorem key_ne {i j : Nat} (h : j ≠ i) : Lit.int .i64 (j : Nat) ≠ Lit.int .i64 (i : Nat) := by
  intro e
  injection e with _ e
  omega
theorem WaitsD.start : WaitsD (.map []) 0 [] := fun i _ => ⟨0, Nat.le_refl _, rfl, by simp⟩
theorem WaitsD.put {D : DataW Unit} {T : Nat} {W V : List Nat} (h : WaitsD D T W) (hm : Maps.IsMap D) {i q : Nat} (hV : V.Perm (putW W i)) (hq : q ≤ T) : WaitsD (D.put (.int .i64 (i : Nat)) (.lit (.int .i64 ((q + 1 : Nat) : Int)))) (T + 1) V := by
  intro j hj
  by_cases e : j = i
  · subst e
    refine ⟨q + 1, by omega, Maps.atKey_put_same hm (by trivial) _ _, ?_⟩
    rw [hV.mem_iff, mem_putW]
    simp
  · obtain ⟨p, h1, h2, h3⟩ := h j hj
    refine ⟨p, by omega, (Maps.atKey_put_other (key_ne e) _ _).trans h2, ?_⟩
    rw [hV.mem_iff, mem_putW, h3]
    simp [e]
theorem WaitsD.del {D : DataW Unit} {T : Nat} {W V : List Nat} (h : WaitsD D T W) {i : Nat} (hn : W.Nodup) (hp : W.Perm (i :: V)) : WaitsD (D.del (.int .i64 (i : Nat))) T V := by
  intro j hj
  have hnd := List.nodup_cons.1 ((hp.nodup_iff).1 hn)
  by_cases e : j = i
  · subst e
    exact ⟨0, by omega, Maps.atKey_del_same _, by simp [hnd.1]⟩
  · obtain ⟨p, h1, h2, h3⟩ := h j hj
    refine ⟨p, h1, (Maps.atKey_del_other (key_ne e) _).trans h2, ?_⟩
    rw [h3, hp.mem_iff]
    simp [e]
end Go.Idl
namespace Go.Proofs.YtleckdbdhkgcpaaDoor
open Go.RowKit Go.Shelf Go.Idl Go.Maps
set_option linter.unusedSimpArgs false
set_option linter.unusedVariables false

theorem klaw : Keyed Tryd.prog 3 := int_keyed Tryd.underlying3
theorem kzero (w : World) : (zeroValue 3).run Tryd.prog w = .ok (.int .i64 0) w := by kernel_rfl

def WaitsM (w : World) (mb T : Nat) (W : List Nat) : Prop :=
  ∃ D : DataW Unit, w.ownsMap Tryd.prog 3 (plainElem Tryd.prog 3) mb T D ∧ WaitsD D T W

/-- What waits, in memory. -/
structure Qs (w : World) (mv wv mb h g c : Nat) (W : List Nat) (T : Nat) : Prop where
  mvk : Blk w mv 59 #[.map (some mb)]
  wvk : Blk w wv 57 #[.pointer (some ⟨h, 0, none⟩)]
  hk : Blk w h 58 #[.slice (some ⟨g, 0, none⟩) W.length c]
  row : Qrow w g 3 c (casts W)
  map : WaitsM w mb T W

theorem map_ne {w : World} {mb T g : Nat} {W : List Nat} {t : TypeId} {cs : Array Value} (m : WaitsM w mb T W) (k : Blk w g t cs) : g ≠ mb := by
  obtain ⟨D, ⟨es, clock, hb, _⟩, _⟩ := m
  rintro rfl
  unfold Blk at k
  rw [k] at hb
  cases hb
theorem WaitsM.kept {w w' : World} {mb T : Nat} {W : List Nat} {S : Nat → Prop} (m : WaitsM w mb T W) (k : Kept S w w') (hn : ¬ S mb) : WaitsM w' mb T W := by
  obtain ⟨D, ho, hr⟩ := m
  exact ⟨D, map_kept ho k hn, hr⟩
theorem row_ne {w : World} {g e c g' : Nat} {zs : List Int} {t : TypeId} {cs : Array Value} (q : Qrow w g e c zs) (k : Blk w g' t cs) (hne : t ≠ e) : g' ≠ g := by
  obtain ⟨cur, kc, _⟩ := q
  exact k.ne_ kc hne
theorem Qs.ne {w : World} {mv wv mb h g c T : Nat} {W : List Nat} (q : Qs w mv wv mb h g c W T) : mv ≠ h ∧ mv ≠ g ∧ mv ≠ mb ∧ wv ≠ h ∧ wv ≠ g ∧ wv ≠ mb ∧ h ≠ g ∧ h ≠ mb ∧ g ≠ mb := by
  obtain ⟨cur, kc, _⟩ := q.row
  exact ⟨q.mvk.ne_ q.hk (by decide), q.mvk.ne_ kc (by decide), map_ne q.map q.mvk, q.wvk.ne_ q.hk (by decide), q.wvk.ne_ kc (by decide), map_ne q.map q.wvk, q.hk.ne_ kc (by decide), map_ne q.map q.hk, map_ne q.map kc⟩
theorem Qs.kept {w w' : World} {mv wv mb h g c T : Nat} {W : List Nat} {S : Nat → Prop} (q : Qs w mv wv mb h g c W T) (k : Kept S w w') (h1 : ¬ S mv) (h2 : ¬ S wv) (h3 : ¬ S mb) (h4 : ¬ S h) (h5 : ¬ S g) : Qs w' mv wv mb h g c W T :=
  ⟨q.mvk.at_kept k h1, q.wvk.at_kept k h2, q.hk.at_kept k h4, q.row.kept k h5, q.map.kept k h3⟩

/-- What a put comes to. -/
def PutPost (mv wv mb h g : Nat) (W : List Nat) (T i : Nat) (w w' : World) : Prop :=
  ∃ W' g' c', W'.Perm (putW W i) ∧ Qs w' mv wv mb h g' c' W' (T + 1) ∧ (g' = g ∨ w.heap.size ≤ g') ∧ Kept (fun k => k = mb ∨ k = h ∨ k = g) w w'

set_option maxHeartbeats 4000000 in
set_option maxRecDepth 100000 in
theorem put_any (mv wv mb h g c : Nat) (W : List Nat) (T i : Nat) (w : World) (q : Qs w mv wv mb h g c W T) (hW : W.length < 200000000000) (hi : i < 4611686018427387904) (hT : T + 1 < 4611686018427387904) :
    Calls Tryd.prog 26 #[.int .i64 (i : Nat), .pointer (some ⟨mv, 0, none⟩), .pointer (some ⟨wv, 0, none⟩)] w fun e w' => e = .returned (.tuple #[]) ∧ PutPost mv wv mb h g W T i w w' := by
  obtain ⟨n1, n2, n3, n4, n5, n6, n7, n8, n9⟩ := q.ne
  obtain ⟨qmv, qwv, qh, qrow, D, hown, hD⟩ := q
  obtain ⟨q, hqT, hat0, hq0⟩ := hD i hi
  have hkey : keyOf Tryd.prog 3 (.int .i64 (i : Nat)) = some (.int .i64 (i : Nat)) := keyOf_int_mk Tryd.underlying3 (nat_wf hi)
  have hml : maxLen = 9223372036854775807 := rfl
  have c0 := qmv.cell0
  have d0 := qwv.cell0
  have hwf : (Lit.int .i64 ((q : Int) + 1)).wf = true := nat_wf (i := q + 1) (by omega)
  have hput : ∀ V : List Nat, V.Perm (putW W i) → WaitsD (D.put (.int .i64 (i : Nat)) (.lit (.int .i64 ((q : Int) + 1)))) (T + 1) V := fun V hV => WaitsD.put hD hown.isMap hV hqT
  have hat1 : (D.put (.int .i64 (i : Nat)) (.lit (.int .i64 ((q : Int) + 1)))).atKey (.int .i64 (i : Nat)) (.lit (.int .i64 0)) = .lit (.int .i64 ((q : Int) + 1)) := Maps.atKey_put_same hown.isMap (by trivial) _ _
  -- behind the store
  have hafter : ∀ (w1 : World), w1.ownsMap Tryd.prog 3 (plainElem Tryd.prog 3) mb (T + 1) (D.put (.int .i64 (i : Nat)) (.lit (.int .i64 ((q : Int) + 1)))) → w.grownBy w1 (some mb) →
      Kept (fun k => k = mb) w w1 ∧ w1.cell? ⟨mv, 0, none⟩ = some (.map (some mb)) ∧ w1.cell? ⟨wv, 0, none⟩ = some (.pointer (some ⟨h, 0, none⟩)) ∧
      Sem.run Tryd.prog (Instr.lookup 59 (.map (some mb)) (.int .i64 (i : Nat)) false) w1 = .ok (.int .i64 ((q : Int) + 1)) w1 := by
    intro w1 ho hg
    obtain ⟨c1, hrun, hc1, _⟩ := ho.lookup_int klaw Tryd.underlying59 Tryd.underlying3 (kzero _) hkey
    rw [hat1] at hc1
    injection hc1 with hc1
    injection hc1 with _ hc1
    rw [← hc1] at hrun
    have hK : Kept (fun k => k = mb) w w1 := Kept.of_grown hg fun g e => (Option.some.inj e).symm
    exact ⟨hK, (qmv.at_kept hK n3).cell0, (qwv.at_kept hK n6).cell0, hrun⟩
  replace hafter := Lib.hid hafter
  replace hput := Lib.hid hput
  replace hD := Lib.hid hD
  replace qrow := Lib.hid qrow
  replace qmv := Lib.hid qmv
  replace qwv := Lib.hid qwv
  replace qh := Lib.hid qh
  replace hq0 := Lib.hid hq0
  replace hat0 := Lib.hid hat0
  replace hat1 := Lib.hid hat1
  by_cases hm : i ∈ W
  · have hq : q ≠ 0 := fun e => (hq0.out.1 e) hm
    have hne : (((q : Int) + 1) == 1) = false := by simp; omega
    have hpw : putW W i = W := if_pos hm
    replace hpw := Lib.hid hpw
    go_enter Tryd.func26, Tryd.ntmps26
    go_wp2_with (first
      | (at_lookup
         refine wpList_lookup_own_int w rfl _ _ 59 rfl 3 3 .i64 klaw Tryd.underlying59 Tryd.underlying3 (kzero _) mb T D rfl hown _ _ rfl hkey ?_
         intro c1 hc1 hwc1
         rw [hat0.out] at hc1
         injection hc1 with hc1
         injection hc1 with _ hc1
         subst hc1)
      | (at_mapUpdate
         refine wpList_mapUpdate_own w rfl _ _ _ 59 rfl 3 3 klaw Tryd.underlying59 _ mb T D rfl hown (by rw [hml]; omega) _ _ _ rfl rfl hkey _ [] (plainElem_int Tryd.underlying3 hwf) ?_
         intro w1 ho1 hg1
         obtain ⟨hK1, e1, e2, e3⟩ := hafter.out w1 ho1 hg1
         replace hK1 := Lib.hid hK1
         replace ho1 := Lib.hid ho1
         clear hg1)
      | fail)
    refine bodyPost_end (v := .tuple #[]) (results_none rfl _ _ _) rfl ?_
    refine ⟨rfl, W, g, c, by rw [hpw.out], ⟨qmv.out.at_kept hK1.out n3, qwv.out.at_kept hK1.out n6, qh.out.at_kept hK1.out n8, qrow.out.kept hK1.out n9, _, ho1.out, hput.out W (by rw [hpw.out])⟩, .inl rfl, hK1.out.mono fun _ _ h => .inl h⟩
  · have hq : q = 0 := Classical.byContradiction fun e => hm (Classical.byContradiction fun h => e (hq0.out.2 h))
    have hne : (((q : Int) + 1) == 1) = true := by rw [hq]; rfl
    have hpw : putW W i = W ++ [i] := if_neg hm
    replace hpw := Lib.hid hpw
    replace hq := Lib.hid hq
    go_enter Tryd.func26, Tryd.ntmps26
    go_wp2_with (first
      | (at_lookup
         refine wpList_lookup_own_int w rfl _ _ 59 rfl 3 3 .i64 klaw Tryd.underlying59 Tryd.underlying3 (kzero _) mb T D rfl hown _ _ rfl hkey ?_
         intro c1 hc1 hwc1
         rw [hat0.out] at hc1
         injection hc1 with hc1
         injection hc1 with _ hc1
         subst hc1)
      | (at_mapUpdate
         refine wpList_mapUpdate_own w rfl _ _ _ 59 rfl 3 3 klaw Tryd.underlying59 _ mb T D rfl hown (by rw [hml]; omega) _ _ _ rfl rfl hkey _ [] (plainElem_int Tryd.underlying3 hwf) ?_
         intro w1 ho1 hg1
         obtain ⟨hK1, e1, e2, e3⟩ := hafter.out w1 ho1 hg1
         replace hK1 := Lib.hid hK1
         replace ho1 := Lib.hid ho1
         clear hg1)
      | fail)
    have hl := casts_len W
    have k1 := qh.out.at_kept hK1.out n8
    have z1 := qrow.out.kept hK1.out n9
    refine (hpush_any h g c (casts W) W.length (i : Int) w1 hl k1 z1 n7 hW).mono ?_
    rintro e w2 ⟨rfl, g', c', zs', hp, k2, z2, hg2, hK2⟩
    have hsz := hK1.out.size
    have hK := hK1.out.trans hK2 (T := fun k => k = mb ∨ k = h ∨ k = g) (fun _ _ h => .inl h) (fun _ _ h => .inr h)
    have hcs : (i : Int) :: casts W = casts (i :: W) := rfl
    rw [hcs] at hp
    obtain ⟨W', rfl, hpW⟩ := perm_casts hp
    have hpW2 : W'.Perm (putW W i) := by rw [hpw.out]; exact hpW.trans (List.perm_append_comm (l₁ := [i]) (l₂ := W))
    have hl2 : W.length + 1 = W'.length := by rw [hpW.length_eq]; rfl
    rw [hl2] at k2
    have fin : PutPost mv wv mb h g W T i w w2 := ⟨W', g', c', hpW2, ⟨(qmv.out.at_kept hK1.out n3).at_kept hK2 (fun e => e.elim n1 n2), (qwv.out.at_kept hK1.out n6).at_kept hK2 (fun e => e.elim n4 n5), k2, z2, _, map_kept ho1.out hK2 (fun e => e.elim (fun e => n8 e.symm) (fun e => n9 e.symm)), hput.out W' hpW2⟩,
      hg2.imp id (fun e => by omega), hK⟩
    replace fin := Lib.hid fin
    clear hK2 hK k2 z2 hp hpW hpW2
    go_wp2
    refine bodyPost_end (v := .tuple #[]) (results_none rfl _ _ _) rfl ?_
    exact ⟨rfl, fin.out⟩
end Go.Proofs.YtleckdbdhkgcpaaDoor
