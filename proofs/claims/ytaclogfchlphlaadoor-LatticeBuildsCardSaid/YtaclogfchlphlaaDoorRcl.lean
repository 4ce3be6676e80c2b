/- The reference's Close: the least order with some pairs. -/
import Derived.Test.YtaclogfchlphlaaDoorRj
import Derived.Test.YtaclogfchlphlaaDoorRo
import Derived.Test.YtaclogfchlphlaaDoorBu
import Derived.Test.YtaclogfchlphlaaDoorCl
import Derived.Test.YtaclogfchlphlaaDoorPc
namespace Go.Proofs.YtaclogfchlphlaaDoor
open Go.RowKit Go.Shelf Go.Idl
attribute [local go_sem] Oper.semAt_some

/-- How much a block of masks lacks. -/
def blkGap (W : World) (g : Nat) : Nat := match W.heap[g]? with | some (.cells cs _ _) => (cs.toList.map fun v => 64 - countN (natOf v)).sum | _ => 0
theorem blkGap_of {W : World} {g : Nat} {t : TypeId} {up : List Nat} (h : Blk W g t (u64s up).toArray) : blkGap W g = gapN up := by
  unfold blkGap gapN
  unfold Blk at h
  rw [h]
  simp only [u64s, List.map_map]
  congr 1
def gI : Value → Nat | .bool true => 1 | _ => 0

theorem one_pow (i : Nat) (hi : i < 64) : oneN (i : Nat) = 2 ^ i := by
  unfold oneN
  rw [if_pos ⟨by omega, by omega⟩, Int.toNat_natCast]

set_option maxRecDepth 100000 in
set_option maxHeartbeats 8000000 in
theorem rclose_any (N : Nat) (A : Option Addr) (m c : Nat) (ps : List (Int × Int)) (w : World) (h1 : 1 ≤ N) (h64 : N ≤ 64) (hm : ps.length = m) (hm63 : m ≤ maxLen) (hr : Reads w w.heap.size 2 A m (pairVals ps)) (hok : ∀ p ∈ ps, pairOk (N : Nat) p = true) :
    Calls Tryd.prog 35 #[.int .i64 (N : Nat), .slice A m c] w fun e w' => e = .returned (.slice (some ⟨w.heap.size, 0, none⟩) N N) ∧ Blk w' w.heap.size 39 (u64s (warsP N ps)).toArray ∧ Masks (warsP N ps) ∧ Below w.heap.size w w' := by
  refine (callsIn_wide (n := 30)).1 ?_
  have hml : maxLen = 9223372036854775807 := rfl
  obtain ⟨i0, hi0, hz0, hz1, hz2⟩ := info_parts u64_info
  have hmk := fun W => run_make_rowN (P := Tryd.prog) 23 39 i0 (.int .u64 0) Tryd.underlying23 hi0 hz0 .i64 .i64 N N (Nat.le_refl _) (by rw [hz2]; omega) (by omega) W
  have hpn := natP_ok hok
  have hmade := warsP_made hok
  replace hr := Lib.hid hr
  replace hm := Lib.hid hm
  replace hok := Lib.hid hok
  replace hpn := Lib.hid hpn
  replace hmade := Lib.hid hmade
  refine callsIn_of_wp Tryd.func35 rfl trivial ?_ rfl
  simp only [Tryd.ntmps35, List.size_toArray, List.length_cons, List.length_nil, Nat.reduceAdd, Nat.reduceSub, Array.replicate_succ, Array.replicate_zero, List.push_toArray, List.append_toArray, List.nil_append, List.cons_append]
  gi_wp2
  gi_loopw [6] (fun v wr => ∃ i : Nat, v = .int .i64 (i : Nat) ∧ i ≤ N ∧ Blk wr w.heap.size 39 (u64s (ones N i)).toArray ∧ Below w.heap.size w wr) (fun v wr => N - natOf v)
  case atStart =>
    refine ⟨0, rfl, by omega, ?_, (Below.refl _ w).alloc (Nat.le_refl _) _⟩
    rw [ones_zero, made_u64]
    exact Blk.new_at w _ _ _ rfl
  case round =>
    obtain ⟨i, rfl, hiN, hb, hB⟩ := hrel
    by_cases hi : i < N
    · have hlt : ((i : Int) < (N : Int)) := by omega
      have fz := hb.frozen i
      have ci : wr.cell? ⟨w.heap.size, i, none⟩ = some (.int .u64 ((ones N i).getD i 0 : Nat)) := by rw [hb.cell]; exact u64s_at _ _ (by rw [ones_len]; exact hi)
      replace hb := Lib.hid hb
      replace hB := Lib.hid hB
      gi_wp2_with (refine ⟨trivial, ?_⟩; gi_at_call 48; refine (callsIn_wide.2 (rone_any i _)).mono ?_; rintro e w' ⟨rfl, rfl⟩; rw [one_pow i (by omega)])
      go_roundw
      case rel =>
        refine ⟨i + 1, by go_num, by omega, ?_, hB.out.setCell (by simp) _⟩
        rw [← ones_snoc]
        exact u64s_blk_set hb.out _ _
      case measure => simp [natOf]; omega
    · have hie : i = N := by omega
      subst hie
      have hlt : ¬ ((i : Int) < (i : Int)) := by omega
      replace hb := Lib.hid hb
      replace hB := Lib.hid hB
      gi_wp2
      gi_loopw [7] (fun v wr => ∃ t : Nat, v = .int .i64 (t : Nat) ∧ t ≤ m ∧ Blk wr w.heap.size 39 (u64s (base i ((ps.take t).map natP))).toArray ∧ Masks (base i ((ps.take t).map natP)) ∧ Below w.heap.size w wr) (fun v wr => m - natOf v)
      case atStart =>
        refine ⟨0, rfl, by omega, ?_, ?_, hB.out⟩
        · rw [List.take_zero, List.map_nil, base_nil]; exact hb.out
        · rw [List.take_zero, List.map_nil, base_nil]; exact masks_ones i i (by omega)
      case round =>
        obtain ⟨t, rfl, htm, hb, hM, hB⟩ := hrel
        by_cases ht : t < m
        · have hlt2 : ((t : Int) < (m : Int)) := by omega
          have htl : t < ps.length := by rw [hm.out]; exact ht
          have hp : ps[t]? = some ps[t] := List.getElem?_eq_getElem htl
          have hpk := hok.out _ (List.getElem_mem htl)
          generalize ps[t] = p at hp hpk
          obtain ⟨ad, hA, hbk, hcell⟩ := (hr.out.below hB).2 (by omega)
          subst hA
          have hpv := pairVals_at ps t p hp
          have hc0 := hcell _ _ hpv.1
          have hc1 := hcell _ _ hpv.2
          rw [add_next] at hc1
          obtain ⟨pa, pb⟩ := p
          unfold pairOk at hpk
          simp only [Bool.and_eq_true, decide_eq_true_eq] at hpk
          obtain ⟨a, rfl⟩ : ∃ a : Nat, pa = a := ⟨pa.toNat, by omega⟩
          obtain ⟨b, rfl⟩ : ∃ b : Nat, pb = b := ⟨pb.toNat, by omega⟩
          simp only at hc0 hc1
          have hai : a < i := by omega
          have hbi : b < i := by omega
          have hbt := base_take i (ps.map natP) t (a, b) (by rw [List.getElem?_map, hp]; simp [natP])
          rw [← List.map_take, ← List.map_take] at hbt
          simp only at hbt
          have hx64 := hM a
          have ca : wr.cell? ⟨w.heap.size, a, none⟩ = some (.int .u64 ((base i ((ps.take t).map natP)).getD a 0 : Nat)) := by
            rw [hb.cell]; exact u64s_at _ _ (by rw [base_len]; exact hai)
          have fa := hb.frozen a
          have hal : ((a : Int) < (i : Int)) := by omega
          have hbl : ((b : Int) < (i : Int)) := by omega
          generalize hxd : (base i ((ps.take t).map natP)).getD a 0 = x at *
          have hwp := withN_pow x b (by omega)
          replace hcell := Lib.hid hcell
          replace hpv := Lib.hid hpv
          replace hp := Lib.hid hp
          replace hpk := Lib.hid hpk
          replace hb := Lib.hid hb
          replace hM := Lib.hid hM
          replace hB := Lib.hid hB
          replace hbt := Lib.hid hbt
          replace hxd := Lib.hid hxd
          replace hwp := Lib.hid hwp
          gi_wp2
          (refine wpIn_region_quiet_tail 20 (by kernel_rfl) (by kernel_rfl) ?_; simp only [List.take_succ_cons, List.take_zero, List.drop_succ_cons, List.drop_zero]; (repeat (first | gi_big_quiet_step (fail) | (refine wpQuietIn_pass (fun _ _ _ _ => trivial) (by rfl) rfl ?_; simp only [List.setIfInBounds_toArray, List.set_cons_succ, List.set_cons_zero]) | (refine wpQuietIn_step (fun _ _ _ _ => trivial) ?_; intro K hK; refine Eq.mpr (if_pos (by rfl)) ?_; gi_big_quiet_op; gi_big_quiet_call ((gi_at_call 49; exact quiet_law (callsIn_wide.2 (rwith_any x b _ hx64))))))); refine wpQuietIn_nil ?_; intro _ hw'; obtain ⟨nq, hw''⟩ := hw'; subst hw'')
          gi_wp2
          go_roundw
          case rel =>
            refine ⟨t + 1, by go_num, by omega, ?_, ?_, ((below_drewNs hB.out nq).setCell (by simp) _)⟩
            · rw [hbt.out, ← hwp.out]
              exact u64s_blk_set (hb.out.drewN nq) _ _
            · rw [hbt.out]
              exact hM.out.set _ _ (or64 hx64 (Nat.pow_lt_pow_right (by omega) (by omega)))
          case measure => simp [natOf]; omega
        · have hte : t = m := by omega
          have hlt2 : ¬ ((t : Int) < (m : Int)) := by omega
          rw [List.take_of_length_le (by have := hm.out; omega)] at hb hM
          have hbt := Between.base hpn.out
          generalize base i (ps.map natP) = U0 at hb hM hbt
          replace hb := Lib.hid hb
          replace hM := Lib.hid hM
          replace hbt := Lib.hid hbt
          replace hB := Lib.hid hB
          gi_wp2
          gi_loopw [8] (fun v wr => ∃ (U : List Nat) (g : Bool), v = .bool g ∧ Blk wr w.heap.size 39 (u64s U).toArray ∧ Between i (ps.map natP) U ∧ Masks U ∧ (g = false → Made i (ps.map natP) U) ∧ Below w.heap.size w wr) (fun v wr => blkGap wr w.heap.size + gI v)
          case atStart => exact ⟨U0, true, rfl, hb.out, hbt.out, hM.out, (fun h => by cases h), hB.out⟩
          case round =>
            obtain ⟨U, g, rfl, hb, hbt, hM, hmd, hB⟩ := hrel
            cases g with
            | false =>
              have hue := (hmd rfl).unique hmade.out
              rw [hue] at hb hM
              replace hb := Lib.hid hb
              replace hbt := Lib.hid hbt
              replace hM := Lib.hid hM
              replace hmd := Lib.hid hmd
              replace hB := Lib.hid hB
              replace hue := Lib.hid hue
              gi_wp2
              go_ret
              exact ⟨rfl, hb.out, hM.out, hB.out⟩
            | true =>
              have hgap := blkGap_of hb
              replace hgap := Lib.hid hgap
              replace hb := Lib.hid hb
              replace hbt := Lib.hid hbt
              replace hM := Lib.hid hM
              replace hmd := Lib.hid hmd
              replace hB := Lib.hid hB
              gi_wp2
              gi_loopw [8, 9] (fun v8 v9 wr => ∃ (a : Nat) (up : List Nat) (g : Bool), v9 = .int .i64 (a : Nat) ∧ a ≤ i ∧ v8 = .bool g ∧ Blk wr w.heap.size 39 (u64s up).toArray ∧ Round i (ps.map natP) U up a 0 g ∧ Below w.heap.size w wr) (fun v8 v9 wr => i - natOf v9)
              case atStart => exact ⟨0, U, false, rfl, by omega, rfl, hb.out, Round.start hbt.out hM.out, hB.out⟩
              case round =>
                obtain ⟨a, up, g, rfl, hai, rfl, hb, hR, hB⟩ := hrel
                by_cases ha : a < i
                · have hlt3 : ((a : Int) < (i : Int)) := by omega
                  replace hb := Lib.hid hb
                  replace hR := Lib.hid hR
                  replace hB := Lib.hid hB
                  gi_wp2
                  gi_loopw [8, 10] (fun v8 v10 wr => ∃ (k : Nat) (up : List Nat) (g : Bool), v10 = .int .i64 (k : Nat) ∧ k ≤ i ∧ v8 = .bool g ∧ Blk wr w.heap.size 39 (u64s up).toArray ∧ Round i (ps.map natP) U up a k g ∧ Below w.heap.size w wr) (fun v8 v10 wr => i - natOf v10)
                  case atStart => exact ⟨0, up, g, rfl, by omega, rfl, hb.out, hR.out, hB.out⟩
                  case round =>
                    obtain ⟨k, up, g, rfl, hki, rfl, hb, hR, hB⟩ := hrel
                    by_cases hk : k < i
                    · have hlt4 : ((k : Int) < (i : Int)) := by omega
                      have hul := hR.bt.len
                      have hxa := hR.ms a
                      have hxk := hR.ms k
                      have hrd := reads_of_blk (n := i) hb (by rw [u64s_len]; exact hul) wr.heap.size hb.lt
                      have hCall := fun q => above_any (some ⟨w.heap.size, 0, none⟩) i i up a k (wr.drewN q) hul hR.ms ha (by omega) (hrd.drewN q)
                      have ca := hb.cell a
                      rw [u64s_at _ _ (by omega)] at ca
                      have ck := hb.cell k
                      rw [u64s_at _ _ (by omega)] at ck
                      have fa := hb.frozen a
                      have hor := u64_or_eq (up.getD a 0) (up.getD k 0) hxa hxk
                      have hskip := fun h => hR.skip (i := a) (k := k) h
                      have htake := fun h h' => hR.take hpn.out ha (k := k) h h'
                      generalize hxe : up.getD a 0 = x at *
                      generalize hye : up.getD k 0 = y at *
                      generalize hze : le up a k = z at *
                      replace hskip := Lib.hid hskip
                      replace htake := Lib.hid htake
                      replace hb := Lib.hid hb
                      replace hR := Lib.hid hR
                      replace hB := Lib.hid hB
                      replace hrd := Lib.hid hrd
                      replace hCall := Lib.hid hCall
                      replace hul := Lib.hid hul
                      replace hxe := Lib.hid hxe
                      replace hye := Lib.hid hye
                      replace hze := Lib.hid hze
                      cases z with
                      | false =>
                        have hnx := Lib.hid (hskip.out (fun h => by cases h))
                        gi_wp2
                        (refine wpIn_region_quiet_r (by kernel_rfl) (by kernel_rfl) ?_; (repeat (first | gi_big_quiet_step (fail) | (refine wpQuietIn_pass (fun _ _ _ _ => trivial) (by rfl) rfl ?_; simp only [List.setIfInBounds_toArray, List.set_cons_succ, List.set_cons_zero]) | (refine wpQuietIn_step (fun _ _ _ _ => trivial) ?_; intro K hK; refine Eq.mpr (if_pos (by rfl)) ?_; gi_big_quiet_op; gi_big_quiet_call ((gi_at_call 31; exact quiet_law (callsIn_wide.2 (hCall.out _))))))); refine wpQuietIn_nil ?_; intro _ hw'; obtain ⟨nq, hw''⟩ := hw'; subst hw'')
                        gi_wp2
                        go_roundw
                        case rel => exact ⟨k + 1, up, g, by go_num, by omega, rfl, hb.out.drewN _, hnx.out, below_drewNs hB.out _⟩
                        case measure => simp [natOf]; omega
                      | true =>
                        by_cases hne : x ||| y = x
                        · have hnb : (((x ||| y : Nat) : Int) != (x : Int)) = false := by rw [hne]; simp
                          have hnx := Lib.hid (hskip.out (fun _ => hne))
                          replace hne := Lib.hid hne
                          gi_wp2
                          (refine wpIn_region_quiet_r (by kernel_rfl) (by kernel_rfl) ?_; (repeat (first | gi_big_quiet_step (fail) | (refine wpQuietIn_pass (fun _ _ _ _ => trivial) (by rfl) rfl ?_; simp only [List.setIfInBounds_toArray, List.set_cons_succ, List.set_cons_zero]) | (refine wpQuietIn_step (fun _ _ _ _ => trivial) ?_; intro K hK; refine Eq.mpr (if_pos (by rfl)) ?_; gi_big_quiet_op; gi_big_quiet_call ((gi_at_call 31; exact quiet_law (callsIn_wide.2 (hCall.out _))))))); refine wpQuietIn_nil ?_; intro _ hw'; obtain ⟨nq, hw''⟩ := hw'; subst hw'')
                          gi_wp2
                          go_roundw
                          case rel => exact ⟨k + 1, up, g, by go_num, by omega, rfl, hb.out.drewN _, hnx.out, below_drewNs hB.out _⟩
                          case measure => simp [natOf]; omega
                        · have hnb : (((x ||| y : Nat) : Int) != (x : Int)) = true := by simp; omega
                          have hnx := Lib.hid (htake.out rfl hne)
                          replace hne := Lib.hid hne
                          gi_wp2
                          (refine wpIn_region_quiet_r (by kernel_rfl) (by kernel_rfl) ?_; (repeat (first | gi_big_quiet_step (fail) | (refine wpQuietIn_pass (fun _ _ _ _ => trivial) (by rfl) rfl ?_; simp only [List.setIfInBounds_toArray, List.set_cons_succ, List.set_cons_zero]) | (refine wpQuietIn_step (fun _ _ _ _ => trivial) ?_; intro K hK; refine Eq.mpr (if_pos (by rfl)) ?_; gi_big_quiet_op; gi_big_quiet_call ((gi_at_call 31; exact quiet_law (callsIn_wide.2 (hCall.out _))))))); refine wpQuietIn_nil ?_; intro _ hw'; obtain ⟨nq, hw''⟩ := hw'; subst hw'')
                          gi_wp2
                          (refine wpIn_region_quiet_tail 11 (by kernel_rfl) (by kernel_rfl) ?_; simp only [List.take_succ_cons, List.take_zero, List.drop_succ_cons, List.drop_zero]; (repeat (first | gi_big_quiet_step (fail) | (refine wpQuietIn_pass (fun _ _ _ _ => trivial) (by rfl) rfl ?_; simp only [List.setIfInBounds_toArray, List.set_cons_succ, List.set_cons_zero]) | (refine wpQuietIn_step (fun _ _ _ _ => trivial) ?_; intro K hK; refine Eq.mpr (if_pos (by rfl)) ?_; gi_big_quiet_op; gi_big_quiet_call ((fail))))); refine wpQuietIn_nil ?_; intro _ hw'; obtain ⟨nq, hw''⟩ := hw'; subst hw'')
                          gi_wp2
                          go_roundw
                          case rel =>
                            refine ⟨k + 1, up.set a (x ||| y), true, by go_num, by omega, rfl, ?_, hnx.out, ?_⟩
                            · first
                                | exact u64s_blk_set (hb.out.drewN _) a (x ||| y)
                                | exact u64s_blk_set ((hb.out.drewN _).drewN _) a (x ||| y)
                            · first
                                | exact (below_drewNs hB.out _).setCell (by simp) _
                                | exact (below_drewNs (below_drewNs hB.out _) _).setCell (by simp) _
                          case measure => simp [natOf]; omega
                    · have hke : k = i := by omega
                      have hlt4 : ¬ ((k : Int) < (i : Int)) := by omega
                      rw [hke] at hR
                      have hnx := Lib.hid hR.row
                      replace hb := Lib.hid hb
                      replace hB := Lib.hid hB
                      clear hR
                      gi_wp2
                      go_roundw
                      case rel => exact ⟨a + 1, up, g, by go_num, by omega, rfl, hb.out, hnx.out, hB.out⟩
                      case measure => simp [natOf]; omega
                · have hae : a = i := by omega
                  have hlt3 : ¬ ((a : Int) < (i : Int)) := by omega
                  rw [hae] at hR
                  have hms : blkGap wr w.heap.size + gI (.bool g) < gapN U + 1 := by
                    rw [blkGap_of hb]
                    cases g with
                    | false => have := hR.le; show gapN up + 0 < _; omega
                    | true => have := hR.yes rfl; show gapN up + 1 < _; omega
                  replace hb := Lib.hid hb
                  replace hB := Lib.hid hB
                  replace hR := Lib.hid hR
                  replace hms := Lib.hid hms
                  gi_wp2
                  go_roundw
                  case rel => exact ⟨up, g, rfl, hb.out, hR.out.bt, hR.out.ms, (fun h => by have hR1 := hR.out; subst h; exact hR1.done hpn.out), hB.out⟩
                  case measure => rw [hgap.out]; exact hms.out

end Go.Proofs.YtaclogfchlphlaaDoor
