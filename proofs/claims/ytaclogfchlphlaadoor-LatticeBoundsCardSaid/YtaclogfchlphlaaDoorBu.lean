/- lattice.Build: a lattice of pairs. -/
import Derived.Test.YtaclogfchlphlaaDoorRi
import Derived.Test.YtaclogfchlphlaaDoorPb
namespace Go.Proofs.YtaclogfchlphlaaDoor
open Go.RowKit Go.Shelf Go.Idl
attribute [local go_sem] Oper.semAt_some

/-- Pairs as cells. -/
def pairVals (ps : List (Int × Int)) : List Value := ps.flatMap fun p => [Value.int .i64 p.1, Value.int .i64 p.2]
theorem pairVals_len (ps : List (Int × Int)) : (pairVals ps).length = ps.length * 2 := by
  induction ps with
  | nil => rfl
  | cons p r ih =>
    unfold pairVals at ih ⊢
    rw [List.flatMap_cons, List.length_append, ih]
    simp
    omega
theorem pairVals_at : ∀ (ps : List (Int × Int)) (t : Nat) (p : Int × Int), ps[t]? = some p → (pairVals ps)[t * 2]? = some (.int .i64 p.1) ∧ (pairVals ps)[t * 2 + 1]? = some (.int .i64 p.2)
  | [], t, p, h => by simp at h
  | q :: r, 0, p, h => by
    obtain rfl : q = p := by simpa using h
    exact ⟨rfl, rfl⟩
  | q :: r, t + 1, p, h => by
    have ih := pairVals_at r t p (by simpa using h)
    have e : pairVals (q :: r) = .int .i64 q.1 :: .int .i64 q.2 :: pairVals r := rfl
    rw [e, show (t + 1) * 2 = t * 2 + 1 + 1 by omega]
    exact ih

theorem add_next (ad : Addr) (k : Nat) : ad.add (k + 1) = ⟨(ad.add k).block, (ad.add k).off + 1, none⟩ := by
  rw [← add_of_add]
  rfl
theorem bld_no {N : Nat} {ps : List (Int × Int)} {p : Int × Int} (hp : p ∈ ps) (h : pairOk (N : Nat) p = false) : bldI (N : Nat) ps = 1 := by
  unfold bldI
  rw [if_neg]
  rintro ⟨_, h2⟩
  rw [List.all_eq_true] at h2
  rw [h2 p hp] at h
  cases h

/-- What a call of lattice.Build leaves. -/
def Built (w : World) (n : Int) (ps : List (Int × Int)) (e : Ending) (w' : World) : Prop :=
  Below w.heap.size w w' ∧ ∃ A' c', e = .returned (.tuple #[.slice A' (bldL n ps).length c', .int .i64 (bldI n ps)]) ∧ Reads w' w'.heap.size 1 A' (bldL n ps).length (u64s (bldL n ps)) ∧ Masks (bldL n ps)
theorem Built.no {w : World} {n : Int} {ps : List (Int × Int)} {e : Ending} {w' : World} {k : Int} (hk : bldI n ps = k) (h0 : k ≠ 0) (he : e = .returned (.tuple #[.slice none 0 0, .int .i64 k])) (hb : Below w.heap.size w w') : Built w n ps e w' := by
  have e2 : bldL n ps = [] := by unfold bldL; rw [hk, if_neg h0]
  unfold Built
  rw [e2, hk]
  exact ⟨hb, none, 0, he, Reads.none_, fun k => Nat.two_pow_pos 64⟩

set_option maxRecDepth 100000 in
set_option maxHeartbeats 4000000 in
theorem build_any (n : Int) (A : Option Addr) (m c : Nat) (ps : List (Int × Int)) (w : World) (hT : Tab w) (hn63 : n ≤ 9223372036854775807) (hm : ps.length = m) (hm63 : m ≤ maxLen) (hr : Reads w w.heap.size 2 A m (pairVals ps)) :
    Calls Tryd.prog 12 #[.int .i64 n, .slice A m c] w fun e w' => Built w n ps e w' := by
  refine (callsIn_wide (n := 30)).1 ?_
  have hw0 := hT.1
  have hml : maxLen = 9223372036854775807 := rfl
  by_cases hn : ¬ (1 ≤ n ∧ n ≤ 64)
  · have e : bldI n ps = 1 := by
      unfold bldI nOk
      rw [if_neg]
      intro h
      have := h.1
      simp at this
      omega
    replace e := Lib.hid e
    replace hT := Lib.hid hT
    replace hr := Lib.hid hr
    by_cases h1 : n < 1
    · refine callsIn_of_wp Tryd.func12 rfl trivial ?_ rfl
      simp only [Tryd.ntmps12, List.size_toArray, List.length_cons, List.length_nil, Nat.reduceAdd, Nat.reduceSub, Array.replicate_succ, Array.replicate_zero, List.push_toArray, List.append_toArray, List.nil_append, List.cons_append]
      gi_wp2
      go_ret2
      exact Built.no e.out (by decide) rfl (Below.refl _ _)
    · have h2 : (64 : Int) < n := by omega
      refine callsIn_of_wp Tryd.func12 rfl trivial ?_ rfl
      simp only [Tryd.ntmps12, List.size_toArray, List.length_cons, List.length_nil, Nat.reduceAdd, Nat.reduceSub, Array.replicate_succ, Array.replicate_zero, List.push_toArray, List.append_toArray, List.nil_append, List.cons_append]
      gi_wp2
      go_ret2
      exact Built.no e.out (by decide) rfl (Below.refl _ _)
  replace hn := Classical.not_not.1 hn
  obtain ⟨N, rfl⟩ : ∃ N : Nat, n = N := ⟨n.toNat, by omega⟩
  have h1 : ¬ ((N : Int) < 1) := by omega
  have h2 : ¬ ((64 : Int) < (N : Int)) := by omega
  obtain ⟨i0, hi0, hz0, hz1, hz2⟩ := info_parts u64_info
  have hmk := fun W => run_make_rowN (P := Tryd.prog) 23 39 i0 (.int .u64 0) Tryd.underlying23 hi0 hz0 .i64 .i64 N N (Nat.le_refl _) (by rw [hz2]; omega) (by omega) W
  replace hT := Lib.hid hT
  replace hr := Lib.hid hr
  refine callsIn_of_wp Tryd.func12 rfl trivial ?_ rfl
  simp only [Tryd.ntmps12, List.size_toArray, List.length_cons, List.length_nil, Nat.reduceAdd, Nat.reduceSub, Array.replicate_succ, Array.replicate_zero, List.push_toArray, List.append_toArray, List.nil_append, List.cons_append]
  gi_wp2
  gi_loopw [21] (fun v wr => ∃ i : Nat, v = .int .i64 (i : Nat) ∧ i ≤ N ∧ Blk wr w.heap.size 39 (u64s (ones N i)).toArray ∧ Below w.heap.size w wr) (fun v wr => N - natOf v)
  case atStart =>
    refine ⟨0, rfl, by omega, ?_, (Below.refl _ w).alloc (Nat.le_refl _) _⟩
    rw [ones_zero, made_u64]
    exact Blk.new_at w _ _ _ rfl
  case round =>
    obtain ⟨i, rfl, hiN, hb, hB⟩ := hrel
    by_cases hi : i < N
    · have hlt : ((i : Int) < (N : Int)) := by omega
      have fz := hb.frozen i
      have ci : wr.cell? ⟨w.heap.size, i, none⟩ = some (.int .u64 ((ones N i).getD i 0 : Nat)) := by rw [hb.cell]; exact u64s_at _ _ (by rw [ones_len]; exact hi)
      replace hb := Lib.hid hb
      replace hB := Lib.hid hB
      gi_wp2_with (refine ⟨trivial, ?_⟩; gi_at_call 33; refine (callsIn_wide.2 (with_any 0 i _ (by decide))).mono ?_; rintro e w' ⟨rfl, rfl⟩; rw [withN_zero i (by omega)])
      go_roundw
      case rel =>
        refine ⟨i + 1, by go_num, by omega, ?_, hB.out.setCell (by simp) _⟩
        rw [← ones_snoc]
        exact u64s_blk_set hb.out _ _
      case measure => simp [natOf]; omega
    · have hie : i = N := by omega
      subst hie
      have hlt : ¬ ((i : Int) < (i : Int)) := by omega
      replace hb := Lib.hid hb
      replace hB := Lib.hid hB
      gi_wp2
      gi_loopw [32] (fun v wr => ∃ t : Nat, v = .int .i64 (t : Nat) ∧ t ≤ m ∧ (∀ p ∈ ps.take t, pairOk (i : Nat) p = true) ∧ Blk wr w.heap.size 39 (u64s (base i ((ps.take t).map natP))).toArray ∧ Masks (base i ((ps.take t).map natP)) ∧ Below w.heap.size w wr) (fun v wr => m - natOf v)
      case atStart =>
        refine ⟨0, rfl, by omega, fun p h => by simp at h, ?_, ?_, hB.out⟩
        · rw [List.take_zero, List.map_nil, base_nil]; exact hb.out
        · rw [List.take_zero, List.map_nil, base_nil]; exact masks_ones i i (by omega)
      case round =>
        obtain ⟨t, rfl, htm, hok, hb, hM, hB⟩ := hrel
        by_cases ht : t < m
        · have hlt2 : ((t : Int) < (m : Int)) := by omega
          obtain ⟨p, hp⟩ : ∃ p, ps[t]? = some p := ⟨ps[t]'(by omega), List.getElem?_eq_getElem _⟩
          obtain ⟨ad, hA, hbk, hcell⟩ := (hr.out.below hB).2 (by omega)
          subst hA
          have hpv := pairVals_at ps t p hp
          have hc0 := hcell _ _ hpv.1
          have hc1 := hcell _ _ hpv.2
          rw [add_next] at hc1
          have hpm : p ∈ ps := List.mem_of_getElem? hp
          replace hcell := Lib.hid hcell
          replace hpv := Lib.hid hpv
          replace hok := Lib.hid hok
          replace hb := Lib.hid hb
          replace hM := Lib.hid hM
          replace hB := Lib.hid hB
          by_cases hp1 : p.1 < 0
          · have hno := Lib.hid (bld_no (N := i) hpm (show pairOk (i : Nat) p = false by unfold pairOk; rw [decide_eq_false (p := 0 ≤ p.1) (by omega)]; simp))
            gi_wp2
            go_ret2
            exact Built.no hno.out (by decide) rfl (hB.out.alloc hB.out.size _)
          by_cases hp2 : (i : Int) ≤ p.1
          · have hno := Lib.hid (bld_no (N := i) hpm (show pairOk (i : Nat) p = false by unfold pairOk; rw [decide_eq_false (p := p.1 < (i : Int)) (by omega)]; simp))
            gi_wp2
            go_ret2
            exact Built.no hno.out (by decide) rfl (hB.out.alloc hB.out.size _)
          by_cases hp3 : p.2 < 0
          · have hno := Lib.hid (bld_no (N := i) hpm (show pairOk (i : Nat) p = false by unfold pairOk; rw [decide_eq_false (p := 0 ≤ p.2) (by omega)]; simp))
            gi_wp2
            go_ret2
            exact Built.no hno.out (by decide) rfl (hB.out.alloc hB.out.size _)
          by_cases hp4 : (i : Int) ≤ p.2
          · have hno := Lib.hid (bld_no (N := i) hpm (show pairOk (i : Nat) p = false by unfold pairOk; rw [decide_eq_false (p := p.2 < (i : Int)) (by omega)]; simp))
            gi_wp2
            go_ret2
            exact Built.no hno.out (by decide) rfl (hB.out.alloc hB.out.size _)
          have hpo : pairOk (i : Nat) p = true := by
            unfold pairOk
            rw [decide_eq_true (show 0 ≤ p.1 by omega), decide_eq_true (show p.1 < (i : Int) by omega), decide_eq_true (show 0 ≤ p.2 by omega), decide_eq_true (show p.2 < (i : Int) by omega)]
            rfl
          obtain ⟨pa, pb⟩ := p
          obtain ⟨a, rfl⟩ : ∃ a : Nat, pa = a := ⟨pa.toNat, by simp only at hp1; omega⟩
          obtain ⟨b, rfl⟩ : ∃ b : Nat, pb = b := ⟨pb.toNat, by simp only at hp3; omega⟩
          simp only at hp1 hp2 hp3 hp4 hc0 hc1
          have hai : a < i := by omega
          have hbi : b < i := by omega
          have hbt := base_take i (ps.map natP) t (a, b) (by rw [List.getElem?_map, hp]; simp [natP])
          rw [← List.map_take, ← List.map_take] at hbt
          simp only at hbt
          have hx64 := hM.out a
          have hnew : Blk (wr.alloc (.cells #[.int .i64 (a : Nat), .int .i64 (b : Nat)] 33)) w.heap.size 39 (u64s (base i ((ps.take t).map natP))).toArray := hb.out.alloc _
          have ca : (wr.alloc (.cells #[.int .i64 (a : Nat), .int .i64 (b : Nat)] 33)).cell? ⟨w.heap.size, a, none⟩ = some (.int .u64 ((base i ((ps.take t).map natP)).getD a 0 : Nat)) := by
            rw [hnew.cell]; exact u64s_at _ _ (by rw [base_len]; exact hai)
          have fa := hnew.frozen a
          have hal : ((a : Int) < (i : Int)) := by omega
          have hbl : ((b : Int) < (i : Int)) := by omega
          generalize hxd : (base i ((ps.take t).map natP)).getD a 0 = x at *
          have hwp := withN_pow x b (by omega)
          replace hnew := Lib.hid hnew
          replace hbt := Lib.hid hbt
          replace hpo := Lib.hid hpo
          replace hxd := Lib.hid hxd
          gi_wp2
          (refine wpIn_region_quiet_tail 12 (by kernel_rfl) (by kernel_rfl) ?_; simp only [List.take_succ_cons, List.take_zero, List.drop_succ_cons, List.drop_zero]; (repeat (first | gi_big_quiet_step (fail) | (refine wpQuietIn_pass (fun _ _ _ _ => trivial) (by rfl) rfl ?_; simp only [List.setIfInBounds_toArray, List.set_cons_succ, List.set_cons_zero]) | (refine wpQuietIn_step (fun _ _ _ _ => trivial) ?_; intro K hK; refine Eq.mpr (if_pos (by rfl)) ?_; gi_big_quiet_op; gi_big_quiet_call ((gi_at_call 33; exact quiet_law (callsIn_wide.2 (with_any x b _ hx64))))))); refine wpQuietIn_nil ?_; intro _ hw'; obtain ⟨nq, hw''⟩ := hw'; subst hw'')
          gi_wp2
          go_roundw
          case rel =>
            refine ⟨t + 1, by go_num, by omega, ?_, ?_, ?_, ((below_drewNs (hB.out.alloc hB.out.size _) nq).setCell (by simp) _)⟩
            · intro q hq
              rw [List.take_add_one, hp] at hq
              rcases List.mem_append.1 hq with hq | hq
              · exact hok.out q hq
              · obtain rfl : q = ((a : Int), (b : Int)) := by simpa using hq
                exact hpo.out
            · rw [hbt.out, ← hwp]
              exact u64s_blk_set (hnew.out.drewN nq) _ _
            · rw [hbt.out]
              exact hM.out.set _ _ (or64 hx64 (Nat.pow_lt_pow_right (by omega) (by omega)))
          case measure => simp [natOf]; omega
        · have hte : t = m := by omega
          subst hte
          have hlt2 : ¬ ((t : Int) < (t : Int)) := by omega
          have htk : ps.take t = ps := List.take_of_length_le (by omega)
          rw [htk] at hok hb hM
          have hbi : ∀ (w' : World), bldI (i : Nat) ps = if latB (warsP i ps) = true then 0 else 11 := by
            intro _
            unfold bldI nOk
            rw [if_pos ⟨by simp; omega, List.all_eq_true.2 hok⟩, Int.toNat_natCast]
          replace hbi := Lib.hid (hbi wr)
          have hlen0 := base_len i (ps.map natP)
          obtain ⟨B0, hB0⟩ : ∃ B0, base i (ps.map natP) = B0 := ⟨_, rfl⟩
          have hwp : warsP i ps = wars i B0 := by unfold warsP; rw [hB0]
          rw [hB0] at hb hM hlen0
          replace hwp := Lib.hid hwp
          replace hB0 := Lib.hid hB0
          replace hok := Lib.hid hok
          replace hb := Lib.hid hb
          replace hM := Lib.hid hM
          replace hB := Lib.hid hB
          gi_wp2
          gi_loopw [70] (fun v wr => ∃ k : Nat, v = .int .i64 (k : Nat) ∧ k ≤ i ∧ Blk wr w.heap.size 39 (u64s ((List.range k).foldl (wk i) B0)).toArray ∧ ((List.range k).foldl (wk i) B0).length = i ∧ Masks ((List.range k).foldl (wk i) B0) ∧ Below w.heap.size w wr) (fun v wr => i - natOf v)
          case atStart => exact ⟨0, rfl, by omega, hb.out, hlen0, hM.out, hB.out⟩
          case round =>
            obtain ⟨k, rfl, hki, hbk, hlk, hMk, hBk⟩ := hrel
            obtain ⟨U, hU⟩ : ∃ U, (List.range k).foldl (wk i) B0 = U := ⟨_, rfl⟩
            rw [hU] at hbk hlk hMk
            by_cases hk : k < i
            · have hlt3 : ((k : Int) < (i : Int)) := by omega
              replace hbk := Lib.hid hbk
              replace hMk := Lib.hid hMk
              replace hBk := Lib.hid hBk
              replace hU := Lib.hid hU
              gi_wp2
              gi_loopw [74] (fun v wr => ∃ j : Nat, v = .int .i64 (j : Nat) ∧ j ≤ i ∧ Blk wr w.heap.size 39 (u64s ((List.range j).foldl (ws k) U)).toArray ∧ ((List.range j).foldl (ws k) U).length = i ∧ Masks ((List.range j).foldl (ws k) U) ∧ Below w.heap.size w wr) (fun v wr => i - natOf v)
              case atStart => exact ⟨0, rfl, by omega, hbk.out, hlk, hMk.out, hBk.out⟩
              case round =>
                obtain ⟨j, rfl, hji, hbj, hlj, hMj, hBj⟩ := hrel
                by_cases hj : j < i
                · have hlt4 : ((j : Int) < (i : Int)) := by omega
                  have hstep : (List.range (j + 1)).foldl (ws k) U = ws k ((List.range j).foldl (ws k) U) j := foldl_range_succ _ _ _
                  obtain ⟨V, hV⟩ : ∃ V, (List.range j).foldl (ws k) U = V := ⟨_, rfl⟩
                  rw [hV] at hbj hlj hMj hstep
                  have hh := has_le V j k (by omega)
                  have cj := hbj.cell j
                  rw [u64s_at _ _ (by omega)] at cj
                  have ck := hbj.cell k
                  rw [u64s_at _ _ (by omega)] at ck
                  have fj := hbj.frozen j
                  have hxj := hMj j
                  have hxk := hMj k
                  have hor := u64_or_eq (V.getD j 0) (V.getD k 0) hxj hxk
                  have hws : ws k V j = if le V j k = true then V.set j (V.getD j 0 ||| V.getD k 0) else V := rfl
                  have hmw := ws_masks hMj k j
                  have hlw := ws_length k V j
                  rw [← hstep] at hws hmw hlw
                  obtain ⟨V2, hV2e⟩ : ∃ V2, (List.range (j + 1)).foldl (ws k) U = V2 := ⟨_, rfl⟩
                  rw [hV2e] at hws hmw hlw hstep
                  cases hq : le V j k with
                  | true =>
                    rw [hq] at hh hws
                    rw [if_pos rfl] at hws
                    generalize hxe : V.getD j 0 = x at *
                    generalize hye : V.getD k 0 = y at *
                    replace hws := Lib.hid hws
                    replace hmw := Lib.hid hmw
                    replace hstep := Lib.hid hstep
                    replace hMj := Lib.hid hMj
                    replace hbj := Lib.hid hbj
                    replace hBj := Lib.hid hBj
                    replace hq := Lib.hid hq
                    gi_wp2_with (refine ⟨trivial, ?_⟩; gi_at_call 34; refine (callsIn_wide.2 (has_any x k _ hxj)).mono ?_; rintro e w' ⟨rfl, rfl⟩; rw [hh])
                    (refine wpIn_region_quiet_tail 10 (by kernel_rfl) (by kernel_rfl) ?_; simp only [List.take_succ_cons, List.take_zero, List.drop_succ_cons, List.drop_zero]; (repeat (first | gi_big_quiet_step (fail) | (refine wpQuietIn_pass (fun _ _ _ _ => trivial) (by rfl) rfl ?_; simp only [List.setIfInBounds_toArray, List.set_cons_succ, List.set_cons_zero]) | (refine wpQuietIn_step (fun _ _ _ _ => trivial) ?_; intro K hK; refine Eq.mpr (if_pos (by rfl)) ?_; gi_big_quiet_op; gi_big_quiet_call ((fail))))); refine wpQuietIn_nil ?_; intro _ hw'; obtain ⟨nq, hw''⟩ := hw'; subst hw'')
                    gi_wp2
                    go_roundw
                    case rel =>
                      have hV2 : (List.range (j + 1)).foldl (ws k) U = V2 := hV2e
                      refine ⟨j + 1, by go_num, by omega, ?_, ?_, ?_, ((below_drewNs hBj.out nq).setCell (by simp) _)⟩
                      · rw [hV2, hws.out]; exact u64s_blk_set (hbj.out.drewN nq) _ _
                      · rw [hV2]; omega
                      · rw [hV2]; exact hmw.out
                    case measure => simp [natOf]; omega
                  | false =>
                    rw [hq] at hh hws
                    rw [if_neg (by simp)] at hws
                    generalize hxe : V.getD j 0 = x at *
                    generalize hye : V.getD k 0 = y at *
                    replace hws := Lib.hid hws
                    replace hmw := Lib.hid hmw
                    replace hstep := Lib.hid hstep
                    replace hMj := Lib.hid hMj
                    replace hbj := Lib.hid hbj
                    replace hBj := Lib.hid hBj
                    replace hq := Lib.hid hq
                    gi_wp2_with (refine ⟨trivial, ?_⟩; gi_at_call 34; refine (callsIn_wide.2 (has_any x k _ hxj)).mono ?_; rintro e w' ⟨rfl, rfl⟩; rw [hh])
                    go_roundw
                    case rel =>
                      have hV2 : (List.range (j + 1)).foldl (ws k) U = V2 := hV2e
                      refine ⟨j + 1, by go_num, by omega, ?_, ?_, ?_, hBj.out⟩
                      · rw [hV2, hws.out]; exact hbj.out
                      · rw [hV2]; omega
                      · rw [hV2]; exact hmw.out
                    case measure => simp [natOf]; omega
                · have hje : j = i := by omega
                  subst hje
                  have hlt4 : ¬ ((j : Int) < (j : Int)) := by omega
                  replace hbj := Lib.hid hbj
                  replace hMj := Lib.hid hMj
                  replace hBj := Lib.hid hBj
                  gi_wp2
                  go_roundw
                  case rel =>
                    have e : (List.range (k + 1)).foldl (wk j) B0 = (List.range j).foldl (ws k) U := by
                      rw [foldl_range_succ, hU.out]; rfl
                    refine ⟨k + 1, by go_num, by omega, ?_, ?_, ?_, hBj.out⟩
                    · rw [e]; exact hbj.out
                    · rw [e]; exact hlj
                    · rw [e]; exact hMj.out
                  case measure => simp [natOf]; omega
            · have hke : k = i := by omega
              subst hke
              have hlt3 : ¬ ((k : Int) < (k : Int)) := by omega
              have hUw : warsP k ps = U := by rw [hwp.out, ← hU]; rfl
              have hrd := reads_of_blk (n := k) hbk (by rw [u64s_len]; exact hlk) wr.heap.size hbk.lt
              have hlat := hbi.out
              rw [hUw] at hlat
              have hT1 := hT.out.later hBk
              replace hbk := Lib.hid hbk
              replace hMk := Lib.hid hMk
              replace hBk := Lib.hid hBk
              replace hU := Lib.hid hU
              replace hUw := Lib.hid hUw
              replace hrd := Lib.hid hrd
              replace hT1 := Lib.hid hT1
              cases hq : latB U with
              | false =>
                replace hlat : bldI (k : Nat) ps = 11 := by rw [hlat, hq]; rfl
                replace hlat := Lib.hid hlat
                replace hq := Lib.hid hq
                gi_wp2_with (refine ⟨trivial, ?_⟩; gi_at_call 16; refine (callsIn_wide.2 (right_lat _ k k U _ hT1.out hlk (by omega) hMk.out hrd.out)).mono ?_; rintro e w' ⟨rfl, hb3⟩; rw [hq.out])
                go_ret2
                exact Built.no hlat.out (by decide) rfl (hBk.out.trans (hb3.mono hBk.out.size))
              | true =>
                replace hlat : bldI (k : Nat) ps = 0 := by rw [hlat, hq]; rfl
                replace hlat := Lib.hid hlat
                replace hq := Lib.hid hq
                gi_wp2_with (refine ⟨trivial, ?_⟩; gi_at_call 16; refine (callsIn_wide.2 (right_lat _ k k U _ hT1.out hlk (by omega) hMk.out hrd.out)).mono ?_; rintro e w' ⟨rfl, hb3⟩; rw [hq.out])
                go_ret2
                have hbl : bldL (k : Nat) ps = U := by
                  unfold bldL
                  rw [hlat.out, if_pos rfl, Int.toNat_natCast, hUw.out]
                unfold Built
                rw [hbl, hlat.out, hlk]
                exact ⟨hBk.out.trans (hb3.mono hBk.out.size), _, k, rfl, (hrd.out.below hb3).more hb3.size, hMk.out⟩

end Go.Proofs.YtaclogfchlphlaaDoor
