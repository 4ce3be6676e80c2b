/- The reference's Build. -/
import Derived.Test.YtaclogfchlphlaaDoorRcl
import Derived.Test.YtaclogfchlphlaaDoorRt
namespace Go.Proofs.YtaclogfchlphlaaDoor
open Go.RowKit Go.Shelf Go.Idl

set_option maxHeartbeats 8000000 in
theorem rbuild_any (n : Int) (A : Option Addr) (m c : Nat) (ps : List (Int × Int)) (w : World) (hm : ps.length = m) (hm63 : m ≤ maxLen) (hr : Reads w w.heap.size 2 A m (pairVals ps)) :
    Calls Tryd.prog 13 #[.int .i64 n, .slice A m c] w fun e w' => Built w n ps e w' := by
  have hml : maxLen = 9223372036854775807 := rfl
  by_cases hn : ¬ (1 ≤ n ∧ n ≤ 64)
  · have e : bldI n ps = 1 := by
      unfold bldI nOk
      rw [if_neg]
      intro h
      have := h.1
      simp at this
      omega
    replace e := Lib.hid e
    replace hr := Lib.hid hr
    by_cases h1 : n < 1
    · go_enter Tryd.func13, Tryd.ntmps13
      go_wp2
      go_ret2
      exact Built.no e.out (by decide) rfl (Below.refl _ _)
    · have h2 : (64 : Int) < n := by omega
      go_enter Tryd.func13, Tryd.ntmps13
      go_wp2
      go_ret2
      exact Built.no e.out (by decide) rfl (Below.refl _ _)
  replace hn := Classical.not_not.1 hn
  obtain ⟨N, rfl⟩ : ∃ N : Nat, n = N := ⟨n.toNat, by omega⟩
  have h1 : ¬ ((N : Int) < 1) := by omega
  have h2 : ¬ ((64 : Int) < (N : Int)) := by omega
  replace hr := Lib.hid hr
  replace hm := Lib.hid hm
  go_enter Tryd.func13, Tryd.ntmps13
  go_wp2
  go_loopw [6] (fun v wr => ∃ t : Nat, v = .int .i64 (t : Nat) ∧ t ≤ m ∧ (∀ p ∈ ps.take t, pairOk (N : Nat) p = true) ∧ wr = w) (fun v wr => m - natOf v)
  case atStart => exact ⟨0, rfl, by omega, (fun p h => by simp at h), rfl⟩
  case round =>
    obtain ⟨t, rfl, htm, hok, rfl⟩ := hrel
    by_cases ht : t < m
    · have hlt : ((t : Int) < (m : Int)) := by omega
      have htl : t < ps.length := by rw [hm.out]; exact ht
      have hp : ps[t]? = some ps[t] := List.getElem?_eq_getElem htl
      have hpm : ps[t] ∈ ps := List.getElem_mem htl
      have hsn : ps.take (t + 1) = ps.take t ++ [ps[t]] := List.take_succ_eq_append_getElem htl
      generalize ps[t] = p at hp hpm hsn
      obtain ⟨ad, hA, hbk, hcell⟩ := hr.out.2 (by omega)
      subst hA
      have hpv := pairVals_at ps t p hp
      have hc0 := hcell _ _ hpv.1
      have hc1 := hcell _ _ hpv.2
      rw [add_next] at hc1
      obtain ⟨pa, pb⟩ := p
      simp only at hc0 hc1
      have hpk : pairOk (N : Nat) (pa, pb) = (decide (0 ≤ pa) && (decide (pa < (N : Int)) && (decide (0 ≤ pb) && decide (pb < (N : Int))))) := rfl
      have hbad := bld_no (N := N) hpm
      rw [hpk] at hbad
      replace hpk := Lib.hid hpk
      replace hbad := Lib.hid hbad
      replace hcell := Lib.hid hcell
      replace hpv := Lib.hid hpv
      replace hp := Lib.hid hp
      replace hpm := Lib.hid hpm
      replace hsn := Lib.hid hsn
      replace hok := Lib.hid hok
      go_wp2
      go_loopw [7] (fun v wr' => ∃ k : Nat, v = .int .i64 (k : Nat) ∧ k ≤ 2 ∧ (1 ≤ k → 0 ≤ pa ∧ pa < (N : Int)) ∧ (2 ≤ k → 0 ≤ pb ∧ pb < (N : Int)) ∧ wr' = wr) (fun v wr' => 2 - natOf v)
      case atStart => exact ⟨0, rfl, by omega, (fun h => by omega), (fun h => by omega), rfl⟩
      case round =>
        obtain ⟨k, rfl, hk2, hka, hkb, rfl⟩ := hrel
        by_cases hk0 : k = 0
        · subst hk0
          clear hka hkb
          by_cases x1 : pa < 0
          · have hres := Lib.hid (hbad.out (by rw [decide_eq_false (show ¬ 0 ≤ pa by omega)]; rfl))
            go_wp2
            go_ret2
            exact Built.no hres.out (by decide) rfl (Below.refl _ _)
          · by_cases x2 : (N : Int) ≤ pa
            · have hres := Lib.hid (hbad.out (by rw [decide_eq_false (show ¬ pa < (N : Int) by omega)]; simp))
              go_wp2
              go_ret2
              exact Built.no hres.out (by decide) rfl (Below.refl _ _)
            · go_wp2
              go_roundw
              case rel => exact ⟨1, by go_num, by omega, (fun _ => by omega), (fun h => by omega), by trivial⟩
              case measure => simp [natOf]
        · by_cases hk1 : k = 1
          · subst hk1
            have hka' := hka (Nat.le_refl _)
            clear hka hkb
            by_cases x1 : pb < 0
            · have hres := Lib.hid (hbad.out (by rw [decide_eq_false (show ¬ 0 ≤ pb by omega)]; simp))
              go_wp2
              go_ret2
              exact Built.no hres.out (by decide) rfl (Below.refl _ _)
            · by_cases x2 : (N : Int) ≤ pb
              · have hres := Lib.hid (hbad.out (by rw [decide_eq_false (show ¬ pb < (N : Int) by omega)]; simp))
                go_wp2
                go_ret2
                exact Built.no hres.out (by decide) rfl (Below.refl _ _)
              · go_wp2
                go_roundw
                case rel => exact ⟨2, by go_num, by omega, (fun _ => hka'), (fun _ => by omega), by trivial⟩
                case measure => simp [natOf]
          · have hk2 : k = 2 := by omega
            subst hk2
            have hka' := hka (by omega)
            have hkb' := hkb (by omega)
            clear hka hkb
            have hnx : ∀ q ∈ ps.take (t + 1), pairOk (N : Nat) q = true := by
              intro q hq
              rw [hsn.out] at hq
              rcases List.mem_append.1 hq with hq | hq
              · exact hok.out q hq
              · obtain rfl : q = (pa, pb) := by simpa using hq
                rw [hpk.out, decide_eq_true hka'.1, decide_eq_true hka'.2, decide_eq_true hkb'.1, decide_eq_true hkb'.2]
                rfl
            replace hnx := Lib.hid hnx
            go_wp2
            go_roundw
            case rel => exact ⟨t + 1, by go_num, by omega, hnx.out, by trivial⟩
            case measure => simp [natOf]; omega
    · have hte : t = m := by omega
      have hlt : ¬ ((t : Int) < (m : Int)) := by omega
      rw [List.take_of_length_le (by have := hm.out; omega)] at hok
      have hbi : bldI (N : Nat) ps = if latB (warsP N ps) = true then 0 else 11 := by
        unfold bldI nOk
        rw [if_pos ⟨by simp; omega, List.all_eq_true.2 hok⟩, Int.toNat_natCast]
      have hbl : bldL (N : Nat) ps = if latB (warsP N ps) = true then warsP N ps else [] := by
        unfold bldL
        rw [hbi, Int.toNat_natCast]
        cases latB (warsP N ps) <;> rfl
      have hCl := rclose_any N A m c ps wr (by omega) (by omega) hm.out hm63 hr.out hok
      have hwl := (warsP_made hok).len
      generalize hwe : warsP N ps = up at *
      replace hwe := Lib.hid hwe
      replace hCl := Lib.hid hCl
      replace hok := Lib.hid hok
      replace hbi := Lib.hid hbi
      replace hbl := Lib.hid hbl
      replace hwl := Lib.hid hwl
      go_wp2_with fail
      refine hCl.out.mono ?_
      rintro e w1 ⟨rfl, hb, hM, hB⟩
      have hrd := reads_of_blk (n := N) hb (by rw [u64s_len]; exact hwl.out) w1.heap.size hb.lt
      have hR := rright_any (some ⟨wr.heap.size, 0, none⟩) N N up w1 hwl.out (by omega) hM hrd
      replace hR := Lib.hid hR
      replace hb := Lib.hid hb
      replace hM := Lib.hid hM
      replace hB := Lib.hid hB
      replace hrd := Lib.hid hrd
      go_wp2_with fail
      refine hR.out.mono ?_
      rintro e w2 ⟨rfl, hb2⟩
      have hrd2 := Lib.hid ((hrd.out.below hb2).more hb2.size)
      have hB2 := Lib.hid (hB.out.trans (hb2.mono hB.out.size))
      clear hb2
      cases hq : latB up with
      | false =>
        have e1 : bldI (N : Nat) ps = 11 := by rw [hbi.out, hq]; rfl
        replace e1 := Lib.hid e1
        replace hq := Lib.hid hq
        go_wp2
        go_ret2
        exact Built.no e1.out (by decide) rfl hB2.out
      | true =>
        have e1 : bldI (N : Nat) ps = 0 := by rw [hbi.out, hq]; rfl
        have e2 : bldL (N : Nat) ps = up := by rw [hbl.out, hq]; rfl
        replace e1 := Lib.hid e1
        replace e2 := Lib.hid e2
        replace hq := Lib.hid hq
        go_wp2
        go_ret2
        unfold Built
        rw [e1.out, e2.out, hwl.out]
        exact ⟨hB2.out, some ⟨wr.heap.size, 0, none⟩, N, rfl, hrd2.out, hM.out⟩

end Go.Proofs.YtaclogfchlphlaaDoor
