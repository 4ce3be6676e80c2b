/- The queue: container/heap's up, down over it. -/
import Derived.Test.YtleckdbdhkgcpaaDoorHp
import Derived.Test.YtleckdbdhkgcpaaDoorTu
namespace Go.Proofs.YtleckdbdhkgcpaaDoor
open Go.RowKit Go.Shelf Go.Idl

theorem q_less (g c n : Nat) (zs : List Int) (i j : Nat) (w : World) (hn : zs.length = n) (hi : i < n) (hj : j < n) (hz : Qrow w g 3 c zs) :
    Calls Tryd.prog 75 #[.slice (some ⟨g, 0, none⟩) n c, .int .i64 (i : Nat), .int .i64 (j : Nat)] w fun e w' => (∃ b, e = .returned (.bool b)) ∧ Qrow w' g 3 c zs ∧ Kept (fun k => k = g) w w' ∧ Below w.heap.size w w' := by
  subst hn
  exact (wless_any (some ⟨g, 0, none⟩) zs.length c zs i j w rfl hi hj hz.reads).mono fun e w' ⟨he, hb⟩ => by
    have hk : Kept (fun k => k = g) w w' := Kept.of_below hb fun i h1 h2 => by omega
    obtain ⟨cur, k, hr⟩ := hz
    exact ⟨⟨_, he⟩, ⟨cur, k.below hb k.lt, hr⟩, hk, hb⟩

theorem q_swap (g c n : Nat) (zs : List Int) (i j : Nat) (w : World) (hn : zs.length = n) (hi : i < n) (hj : j < n) (hz : Qrow w g 3 c zs) :
    Calls Tryd.prog 78 #[.slice (some ⟨g, 0, none⟩) n c, .int .i64 (i : Nat), .int .i64 (j : Nat)] w fun e w' => e = .returned (.tuple #[]) ∧ Qrow w' g 3 c (swapL zs i j) ∧ Kept (fun k => k = g) w w' := by
  subst hn
  obtain ⟨cur, k, hat⟩ := hz.at_
  refine (wswap_any g zs.length c cur _ _ i j w hi hj k (hat i hi) (hat j hj)).mono ?_
  rintro e w' ⟨he, k', hb, hs, hh⟩
  exact ⟨he, hz.swap k k', ⟨hb.os, hb.tape, hb.output, hb.size, fun b _ hn => hh b hn⟩⟩

theorem up_any (h g c : Nat) (zs : List Int) (n j : Nat) (w : World) (hn : zs.length = n) (hj : j < n) (k : Blk w h 58 #[.slice (some ⟨g, 0, none⟩) n c]) (hz : Qrow w g 3 c zs) (hgh : h ≠ g) (hc : n ≤ 200000000000) :
    Calls Tryd.prog 40 #[.iface 57 (.pointer (some ⟨h, 0, none⟩)), .int .i64 (j : Nat)] w fun e w' => e = .returned (.tuple #[]) ∧ ∃ zs', zs'.Perm zs ∧ Qrow w' g 3 c zs' ∧ Kept (fun k => k = g) w w' := by
  replace hn := Lib.hid hn
  replace k := Lib.hid k
  replace hz := Lib.hid hz
  go_enter Tryd.func40, Tryd.ntmps40
  go_wp2
  go_loopw [1] (fun v wr => ∃ j : Nat, v = .int .i64 (j : Nat) ∧ j < n ∧ ∃ zs', zs'.Perm zs ∧ Qrow wr g 3 c zs' ∧ Kept (fun k => k = g) w wr) (fun v wr => natOf v)
  case atStart => exact ⟨j, rfl, hj, zs, List.Perm.refl _, hz.out, Kept.refl _ _⟩
  case round =>
    obtain ⟨j, rfl, hj, zs', hp, hz', hk⟩ := hrel
    have hl : zs'.length = n := hp.length_eq.trans hn.out
    replace hk := Lib.hid hk
    replace hp := Lib.hid hp
    replace hz' := Lib.hid hz'
    have k1 : Blk wr h 58 #[.slice (some ⟨g, 0, none⟩) n c] := k.out.at_kept hk.out (fun e => hgh e)
    have hm := fun W hW => m_less ⟨h, 0, none⟩ (some ⟨g, 0, none⟩) n c W hW
    by_cases hj0 : j = 0
    · subst hj0
      go_wp2
      refine bodyPost_end (v := .tuple #[]) (results_none rfl _ _ _) rfl ?_
      exact ⟨rfl, zs', hp.out, hz'.out, hk.out⟩
    · obtain ⟨i, hi⟩ : ∃ i, i = (j - 1) / 2 := ⟨_, rfl⟩
      have hij : i < j := by omega
      have hdiv : ((j : Int) - 1).tdiv 2 = (i : Int) := by rw [Int.tdiv_eq_ediv_of_nonneg (by omega)]; omega
      have hne : ((i : Int) == (j : Int)) = false := by simp; omega
      replace hi := Lib.hid hi
      have c1 := k1.cell0
      replace k1 := Lib.hid k1
      go_wp2_with fail
      refine (q_less g c n zs' j i wr hl (by omega) (by omega) hz'.out).mono ?_
      rintro e w1 ⟨⟨b, rfl⟩, hz1, hk1, hb1⟩
      have hK := hk.out.trans hk1 (T := fun k => k = g) (fun _ _ h => h) (fun _ _ h => h)
      have k2 := k1.out.below hb1 k1.out.lt
      have c2 := k2.cell0
      replace k1 := Lib.hid k1
      clear c1
      replace k2 := Lib.hid k2
      replace hK := Lib.hid hK
      replace hz1 := Lib.hid hz1
      clear hk1 hb1 hm
      have hm := fun W hW => m_swap ⟨h, 0, none⟩ (some ⟨g, 0, none⟩) n c W hW
      cases b with
      | false =>
        go_wp2
        refine bodyPost_end (v := .tuple #[]) (results_none rfl _ _ _) rfl ?_
        exact ⟨rfl, zs', hp.out, hz1.out, hK.out⟩
      | true =>
        go_wp2_with fail
        refine (q_swap g c n zs' i j w1 hl (by omega) (by omega) hz1.out).mono ?_
        rintro e w2 ⟨rfl, hz2, hk2⟩
        replace hz2 := Lib.hid hz2
        have hK2 := Lib.hid (hK.out.trans hk2 (T := fun k => k = g) (fun _ _ h => h) (fun _ _ h => h))
        clear hk2
        go_wp2
        go_roundw
        case rel => exact ⟨i, rfl, by omega, swapL zs' i j, (swapL_perm zs' (by omega) (by omega)).trans hp.out, hz2.out, hK2.out⟩
        case measure => simp [natOf]; omega

set_option maxHeartbeats 4000000 in
set_option maxRecDepth 100000 in
theorem down_any (h g c : Nat) (zs : List Int) (n m : Nat) (w : World) (hn : zs.length = n) (hm : m ≤ n) (k : Blk w h 58 #[.slice (some ⟨g, 0, none⟩) n c]) (hz : Qrow w g 3 c zs) (hgh : h ≠ g) (hc : n ≤ 200000000000) :
    Calls Tryd.prog 41 #[.iface 57 (.pointer (some ⟨h, 0, none⟩)), .int .i64 0, .int .i64 (m : Nat)] w fun e w' => (∃ b, e = .returned (.bool b)) ∧ ∃ zs', zs'.Perm zs ∧ Qrow w' g 3 c zs' ∧ Kept (fun k => k = g) w w' := by
  replace hn := Lib.hid hn
  replace k := Lib.hid k
  replace hz := Lib.hid hz
  go_enter Tryd.func41, Tryd.ntmps41
  go_wp2
  go_loopw [7] (fun v wr => ∃ i : Nat, v = .int .i64 (i : Nat) ∧ (i = 0 ∨ i < m) ∧ ∃ zs', zs'.Perm zs ∧ Qrow wr g 3 c zs' ∧ Kept (fun k => k = g) w wr) (fun v wr => m - natOf v)
  case atStart => exact ⟨0, rfl, .inl rfl, zs, List.Perm.refl _, hz.out, Kept.refl _ _⟩
  case round =>
    obtain ⟨i, rfl, hi, zs', hp, hz', hk⟩ := hrel
    have hl : zs'.length = n := hp.length_eq.trans hn.out
    replace hk := Lib.hid hk
    replace hp := Lib.hid hp
    replace hz' := Lib.hid hz'
    have k1 : Blk wr h 58 #[.slice (some ⟨g, 0, none⟩) n c] := k.out.at_kept hk.out (fun e => hgh e)
    by_cases hj1 : 2 * i + 1 < m
    · obtain ⟨j1, hjn⟩ : ∃ j1 : Nat, j1 = 2 * i + 1 := ⟨_, rfl⟩
      have hA : 2 * (i : Int) + 1 = (j1 : Int) := by omega
      have hge : ¬ ((m : Int) ≤ (j1 : Int)) := by omega
      have hij : i < j1 := by omega
      have c1 := k1.cell0
      replace hjn := Lib.hid hjn
      replace k1 := Lib.hid k1
      have hml := fun W hW => m_less ⟨h, 0, none⟩ (some ⟨g, 0, none⟩) n c W hW
      have hms := fun W hW => m_swap ⟨h, 0, none⟩ (some ⟨g, 0, none⟩) n c W hW
      by_cases hj2 : j1 + 1 < m
      · obtain ⟨j2, hjn2⟩ : ∃ j2 : Nat, j2 = j1 + 1 := ⟨_, rfl⟩
        have hB : (j1 : Int) + 1 = (j2 : Int) := by omega
        have hlt : ((j2 : Int) < (m : Int)) := by omega
        have hjj : j1 < j2 := by omega
        replace hjn2 := Lib.hid hjn2
        go_wp2_with fail
        refine (q_less g c n zs' j2 j1 wr hl (by omega) (by omega) hz'.out).mono ?_
        rintro e w1 ⟨⟨b, rfl⟩, hz1, hk1, hb1⟩
        have hK := hk.out.trans hk1 (T := fun k => k = g) (fun _ _ h => h) (fun _ _ h => h)
        have c2 := (k.out.at_kept hK (fun e => hgh e)).cell0
        replace hK := Lib.hid hK
        replace hz1 := Lib.hid hz1
        clear hk1 hb1
        cases b with
        | false =>
          go_wp2_with fail
          refine (q_less g c n zs' j1 i w1 hl (by omega) (by omega) hz1.out).mono ?_
          rintro e wa ⟨⟨b, rfl⟩, hza, hka, hba⟩
          have hKa := hK.out.trans hka (T := fun k => k = g) (fun _ _ h => h) (fun _ _ h => h)
          have ca := (k.out.at_kept hKa (fun e => hgh e)).cell0
          replace hKa := Lib.hid hKa
          replace hza := Lib.hid hza
          clear hka hba hml
          cases b with
          | false =>
            go_wp2
            go_ret
            exact ⟨⟨_, rfl⟩, zs', hp.out, hza.out, hKa.out⟩
          | true =>
            go_wp2_with fail
            refine (q_swap g c n zs' i j1 wa hl (by omega) (by omega) hza.out).mono ?_
            rintro e wb ⟨rfl, hzb, hkb⟩
            replace hzb := Lib.hid hzb
            have hKb := Lib.hid (hKa.out.trans hkb (T := fun k => k = g) (fun _ _ h => h) (fun _ _ h => h))
            clear hkb
            go_wp2
            go_roundw
            case rel => exact ⟨j1, rfl, .inr (by omega), swapL zs' i j1, (swapL_perm zs' (by omega) (by omega)).trans hp.out, hzb.out, hKb.out⟩
            case measure => simp [natOf]; omega
        | true =>
          go_wp2_with fail
          refine (q_less g c n zs' j2 i w1 hl (by omega) (by omega) hz1.out).mono ?_
          rintro e wa ⟨⟨b, rfl⟩, hza, hka, hba⟩
          have hKa := hK.out.trans hka (T := fun k => k = g) (fun _ _ h => h) (fun _ _ h => h)
          have ca := (k.out.at_kept hKa (fun e => hgh e)).cell0
          replace hKa := Lib.hid hKa
          replace hza := Lib.hid hza
          clear hka hba hml
          cases b with
          | false =>
            go_wp2
            go_ret
            exact ⟨⟨_, rfl⟩, zs', hp.out, hza.out, hKa.out⟩
          | true =>
            go_wp2_with fail
            refine (q_swap g c n zs' i j2 wa hl (by omega) (by omega) hza.out).mono ?_
            rintro e wb ⟨rfl, hzb, hkb⟩
            replace hzb := Lib.hid hzb
            have hKb := Lib.hid (hKa.out.trans hkb (T := fun k => k = g) (fun _ _ h => h) (fun _ _ h => h))
            clear hkb
            go_wp2
            go_roundw
            case rel => exact ⟨j2, rfl, .inr (by omega), swapL zs' i j2, (swapL_perm zs' (by omega) (by omega)).trans hp.out, hzb.out, hKb.out⟩
            case measure => simp [natOf]; omega
      · have hlt : ¬ ((j1 : Int) + 1 < (m : Int)) := by omega
        go_wp2_with fail
        refine (q_less g c n zs' j1 i wr hl (by omega) (by omega) hz'.out).mono ?_
        rintro e wa ⟨⟨b, rfl⟩, hza, hka, hba⟩
        have hKa := hk.out.trans hka (T := fun k => k = g) (fun _ _ h => h) (fun _ _ h => h)
        have ca := (k.out.at_kept hKa (fun e => hgh e)).cell0
        replace hKa := Lib.hid hKa
        replace hza := Lib.hid hza
        clear hka hba hml
        cases b with
        | false =>
          go_wp2
          go_ret
          exact ⟨⟨_, rfl⟩, zs', hp.out, hza.out, hKa.out⟩
        | true =>
          go_wp2_with fail
          refine (q_swap g c n zs' i j1 wa hl (by omega) (by omega) hza.out).mono ?_
          rintro e wb ⟨rfl, hzb, hkb⟩
          replace hzb := Lib.hid hzb
          have hKb := Lib.hid (hKa.out.trans hkb (T := fun k => k = g) (fun _ _ h => h) (fun _ _ h => h))
          clear hkb
          go_wp2
          go_roundw
          case rel => exact ⟨j1, rfl, .inr (by omega), swapL zs' i j1, (swapL_perm zs' (by omega) (by omega)).trans hp.out, hzb.out, hKb.out⟩
          case measure => simp [natOf]; omega
    · have hge : ((m : Int) ≤ 2 * (i : Int) + 1) := by omega
      go_wp2
      go_ret
      exact ⟨⟨_, rfl⟩, zs', hp.out, hz'.out, hk.out⟩
end Go.Proofs.YtleckdbdhkgcpaaDoor
