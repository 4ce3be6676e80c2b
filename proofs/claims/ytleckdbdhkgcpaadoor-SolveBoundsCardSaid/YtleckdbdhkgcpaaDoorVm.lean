/- The references Right, Value, Fan of systems. The references Fan and Solve of systems. solve.Most. -/
import Derived.Test.YtleckdbdhkgcpaaDoorVf
import Derived.Test.YtleckdbdhkgcpaaDoorRl
import Derived.Test.YtleckdbdhkgcpaaDoorRt
import Derived.Test.YtleckdbdhkgcpaaDoorVy
import Derived.Test.YtleckdbdhkgcpaaDoorHe
namespace Go.Proofs.YtleckdbdhkgcpaaDoor
open Go.RowKit Go.Shelf Go.Idl
set_option linter.unusedSimpArgs false
set_option linter.unusedVariables false

set_option maxHeartbeats 1600000 in
set_option maxRecDepth 100000 in
theorem rsright_any (A : Option Addr) (n c : Nat) (up : List Nat) (C D : Option Addr) (l lc m mc : Nat) (consts : List Lb) (needs : List (List Int)) (w : World) (hn : up.length = n) (hn63 : n ≤ maxLen) (hM : Masks up) (hr : Reads w w.heap.size 1 A n (u64s up))
    (hl : consts.length = l) (hl63 : l ≤ maxLen) (hc : Reads w w.heap.size 2 C l (lbVals consts)) (hm63 : m ≤ maxLen) (hd : NRows w w.heap.size D m needs) :
    Calls Tryd.prog 16 #[.slice A n c, .slice C l lc, .slice D m mc] w fun e w' => e = .returned (.bool (sysB up consts needs)) ∧ Below w.heap.size w w' := by
  have hml : maxLen = 9223372036854775807 := rfl
  rw [hml] at hl63 hm63
  have hm := hd.1
  have he := sysB_eq up consts needs
  rw [hl, hm] at he
  have hRi := rright_any A n c up w hn hn63 hM hr
  replace hRi := Lib.hid hRi
  replace he := Lib.hid he
  replace hr := Lib.hid hr
  replace hM := Lib.hid hM
  replace hc := Lib.hid hc
  replace hd := Lib.hid hd
  replace hn := Lib.hid hn
  replace hl := Lib.hid hl
  replace hm := Lib.hid hm
  cases hq : latB up with
  | false =>
    replace hq := Lib.hid hq
    go_enter Tryd.func16, Tryd.ntmps16
    go_wp2_with fail
    refine hRi.out.mono ?_
    rintro x w1 ⟨rfl, hb1⟩
    rw [hq.out]
    replace hb1 := Lib.hid hb1
    go_wp2
    go_ret
    exact ⟨ret_bool (by rw [he.out, hq.out]; rfl), hb1.out⟩
  | true =>
    replace hq := Lib.hid hq
    go_enter Tryd.func16, Tryd.ntmps16
    go_wp2_with fail
    refine hRi.out.mono ?_
    rintro x w1 ⟨rfl, hb1⟩
    rw [hq.out]
    have hB := Lib.hid hb1
    clear hb1
    by_cases hbig : 16384 < l
    · have h1 : ((16384 : Int) < (l : Int)) := by omega
      go_wp2
      go_ret
      exact ⟨ret_bool (by rw [he.out, decide_eq_false (show ¬ l ≤ 16384 by omega)]; simp), hB.out⟩
    · have h1 : ¬ ((16384 : Int) < (l : Int)) := by omega
      by_cases hlm : m = l
      · obtain rfl : l = m := hlm.symm
        go_wp2
        go_loopw [7] (fun v wr => ∃ i : Nat, v = .int .i64 (i : Nat) ∧ i ≤ l ∧ (List.range i).all (eqB up consts needs) = true ∧ Below w1.heap.size w1 wr) (fun v wr => l - natOf v)
        case atStart => exact ⟨0, rfl, by omega, by simp, Below.refl _ _⟩
        case round =>
          obtain ⟨i, rfl, him, hall, hbr⟩ := hrel
          have hBr := hB.out.trans (hbr.mono hB.out.size)
          have hsz := hbr.size
          by_cases hi : i < l
          · have hlt : ((i : Int) < (l : Int)) := by omega
            have hstep := all_succV i (eqB up consts needs)
            rw [hall, Bool.true_and] at hstep
            have hno := fun h => all_noV (q := eqB up consts needs) hi h
            have heq : eqB up consts needs i = (goodB up (consts.getD i z0).lv && !(needs.getD i []).any (badI l)) := by unfold eqB; rw [hl.out]
            obtain ⟨ad, hC, hbk, e0, e1⟩ := reads_label hl.out ((hc.out.below hBr).more hBr.size) hi
            obtain ⟨ad2, A2, c2, hD, hbk2, e2, l1, l2, hrow⟩ := ((hd.out.below hBr).more hBr.size).at_ hi
            subst hC hD
            change wr.cell? (ad.add (i * 2)) = some (Value.int .i64 (consts.getD i z0).lv) at e0
            change _ = some (Value.int .u64 ((consts.getD i z0).ms : Nat)) at e1
            generalize consts.getD i z0 = cl at *
            generalize needs.getD i [] = zs at *
            have hG := good_any (some ad) n c up cl wr hn.out
            have hG := good_any A n c up cl wr hn.out
            rw [hml] at l2
            obtain ⟨lv, ms⟩ := cl
            dsimp only at e0 e1 heq hG
            replace hG := Lib.hid hG
            replace hall := Lib.hid hall
            replace hno := Lib.hid hno
            replace heq := Lib.hid heq
            replace hstep := Lib.hid hstep
            replace hrow := Lib.hid hrow
            replace hbr := Lib.hid hbr
            replace hBr := Lib.hid hBr
            cases hg : goodB up lv with
            | false =>
              have hres := hno.out (by rw [heq.out, hg]; rfl)
              replace hres := Lib.hid hres
              replace hg := Lib.hid hg
              go_wp2_with fail
              refine hG.out.mono ?_
              rintro e w2 ⟨rfl, hb2⟩
              rw [hg.out]
              have hB2 := Lib.hid (hBr.out.trans (hb2.mono hBr.out.size))
              clear hb2
              go_wp2
              go_ret
              exact ⟨ret_bool (by rw [he.out, hres.out]; simp), hB2.out⟩
            | true =>
              rw [hg] at heq
              replace hg := Lib.hid hg
              go_wp2_with fail
              refine hG.out.mono ?_
              rintro e w2 ⟨rfl, hb2⟩
              rw [hg.out]
              have hB2 := Lib.hid (hBr.out.trans (hb2.mono hBr.out.size))
              have hb2r := Lib.hid (hbr.out.trans (hb2.mono hsz))
              have e2' := (hb2.cell (p := ad2.add i) (by rw [block_of_add]; exact hbk2)).trans e2
              have hrow2 := Lib.hid ((hrow.out.below hb2).more hb2.size)
              clear hb2 e2 e0 e1
              go_wp2
              go_loopw [8] (fun v wr' => ∃ k : Nat, v = .int .i64 (k : Nat) ∧ k ≤ zs.length ∧ (zs.take k).any (badI l) = false ∧ wr' = w2) (fun v wr' => zs.length - natOf v)
              case atStart => exact ⟨0, rfl, by omega, by simp, rfl⟩
              case round =>
                obtain ⟨k, rfl, hkl, hany, rfl⟩ := hrel
                by_cases hk : k < zs.length
                · have hltk : ((k : Int) < (zs.length : Int)) := by omega
                  obtain ⟨ad3, hA3, hbk3, hcl⟩ := hrow2.out.2 (by omega)
                  subst hA3
                  have u0 := hcl k _ (nums_at hk)
                  have hst : (zs.take (k + 1)).any (badI l) = ((zs.take k).any (badI l) || badI l (zs.getD k 0)) := by
                    rw [List.take_succ_eq_append_getElem hk, List.any_append, List.getD_eq_getElem?_getD, List.getElem?_eq_getElem hk]
                    simp
                  rw [hany, Bool.false_or] at hst
                  have hbad : badI l (zs.getD k 0) = true → zs.any (badI l) = true := fun h => by
                    rw [List.any_eq_true]
                    exact ⟨zs.getD k 0, by rw [List.getD_eq_getElem?_getD, List.getElem?_eq_getElem hk]; exact List.getElem_mem hk, h⟩
                  have hbe : badI l (zs.getD k 0) = (decide (zs.getD k 0 < 0) || decide ((l : Int) ≤ zs.getD k 0)) := rfl
                  generalize zs.getD k 0 = z at *
                  replace hcl := Lib.hid hcl
                  replace hst := Lib.hid hst
                  replace hbad := Lib.hid hbad
                  replace hbe := Lib.hid hbe
                  replace hany := Lib.hid hany
                  by_cases z1 : z < 0
                  · have hb3 := hbad.out (by rw [hbe.out, decide_eq_true z1]; rfl)
                    have hres := hno.out (by rw [heq.out, hb3]; rfl)
                    replace hres := Lib.hid hres
                    replace hb3 := Lib.hid hb3
                    go_wp2
                    go_ret
                    exact ⟨ret_bool (by rw [he.out, hres.out]; simp), hB2.out⟩
                  · by_cases z2 : (l : Int) ≤ z
                    · have hb3 := hbad.out (by rw [hbe.out, decide_eq_true z2]; simp)
                      have hres := hno.out (by rw [heq.out, hb3]; rfl)
                      replace hres := Lib.hid hres
                      replace hb3 := Lib.hid hb3
                      go_wp2
                      go_ret
                      exact ⟨ret_bool (by rw [he.out, hres.out]; simp), hB2.out⟩
                    · have hnx := hst.out
                      rw [hbe.out, decide_eq_false z1, decide_eq_false z2] at hnx
                      replace hnx := Lib.hid hnx
                      go_wp2
                      go_roundw
                      case rel => exact ⟨k + 1, by go_num, by omega, hnx.out, by trivial⟩
                      case measure => simp [natOf]; omega
                · have hke : k = zs.length := by omega
                  have hltk : ¬ ((k : Int) < (zs.length : Int)) := by omega
                  have hnx := hstep.out
                  rw [List.take_of_length_le (by omega)] at hany
                  rw [heq.out, hany] at hnx
                  replace hnx := Lib.hid hnx
                  replace hany := Lib.hid hany
                  go_wp2
                  go_roundw
                  case rel => exact ⟨i + 1, by go_num, by omega, hnx.out, hb2r.out⟩
                  case measure => simp [natOf]; omega
          · have hie : i = l := by omega
            have hlt : ¬ ((i : Int) < (l : Int)) := by omega
            rw [hie] at hall
            replace hall := Lib.hid hall
            replace hbr := Lib.hid hbr
            replace hBr := Lib.hid hBr
            go_wp2
            go_ret
            exact ⟨ret_bool (by rw [he.out, hq.out, hall.out, decide_eq_true (show l ≤ 16384 by omega)]; simp), hBr.out⟩
      · have h2 : ((m : Int) != (l : Int)) = true := by simp; omega
        go_wp2
        go_ret
        exact ⟨ret_bool (by rw [he.out, decide_eq_false hlm]; simp), hB.out⟩

/-- What stands while the reference's value is made. -/
structure RValB (w : World) (x : Lb) (wr : World) : Prop where
  kr : Blk wr w.heap.size 29 #[.int .i64 0, .int .u64 0]
  kv : Blk wr (w.heap.size + 1) 29 (lbC x)
  below : Below w.heap.size w wr
theorem RValB.drewN {w wr : World} {x : Lb} (h : RValB w x wr) (n : Nat) : RValB w x (wr.drewN n) := ⟨h.kr, h.kv, below_drewNs h.below n⟩
theorem RValB.more {w wr w2 : World} {x : Lb} (h : RValB w x wr) (hb : Below wr.heap.size wr w2) : RValB w x w2 := ⟨h.kr.below hb h.kr.lt, h.kv.below hb h.kv.lt, h.below.trans (hb.mono h.below.size)⟩
theorem RValB.set_ {w wr : World} {x : Lb} (h : RValB w x wr) (y : Lb) : RValB w y ((wr.setCell ⟨w.heap.size + 1, 0, none⟩ (.int .i64 y.lv)).setCell ⟨w.heap.size + 1, 1, none⟩ (.int .u64 (y.ms : Nat))) :=
  ⟨(h.kr.far (by simp) _).far (by simp) _, pair_set h.kv _ _, (h.below.setCell (by simp) _).setCell (by simp) _⟩

set_option maxHeartbeats 1600000 in
set_option maxRecDepth 100000 in
theorem rvalue_any (A : Option Addr) (n c : Nat) (up : List Nat) (C D L : Option Addr) (l lc m mc lL : Nat) (consts : List Lb) (needs : List (List Nat)) (lbs : List Lb) (i : Nat) (w : World) (hn : up.length = n) (hM : Masks up) (hr : Reads w w.heap.size 1 A n (u64s up))
    (hS : Idl.Sys up consts needs) (hcm : ∀ k, k < consts.length → (consts.getD k z0).ms < 2 ^ 64) (hl : consts.length = l) (hl63 : l ≤ maxLen) (hc : Reads w w.heap.size 2 C l (lbVals consts)) (hd : NRows w w.heap.size D m (needs.map casts))
    (hLb : Lbs up l lbs) (hLm : ∀ k, k < l → (lbs.getD k z0).ms < 2 ^ 64) (hL : Reads w w.heap.size 2 L l (lbVals lbs)) (hi : i < l) :
    Calls Tryd.prog 17 #[.slice A n c, .slice C l lc, .slice D m mc, .slice L l lL, .int .i64 (i : Nat)] w fun e w' => e = .returned (lbV (valF up consts needs lbs i)) ∧ Below w.heap.size w w' := by
  refine (callsIn_wide (n := 20)).1 ?_
  have hml : maxLen = 9223372036854775807 := rfl
  have h64 : n ≤ 64 := by rw [← hn]; exact hS.lat.n64
  rw [hml] at hl63
  have hm : m = l := by have := hd.1; rw [List.length_map, hS.len] at this; omega
  subst hm
  obtain ⟨ad, hC, hbk, e0, e1⟩ := reads_label hl hc hi
  obtain ⟨ad2, A2, c2, hD, hbk2, e2, l1, l2, hrow⟩ := hd.at_ hi
  rw [castss_getD, casts_len'] at e2 l1 hrow
  change w.cell? (ad.add (i * 2)) = some (Value.int .i64 (consts.getD i z0).lv) at e0
  change _ = some (Value.int .u64 ((consts.getD i z0).ms : Nat)) at e1
  have hgc := hS.gd i (by omega)
  have hmc := hcm i (by omega)
  have hnd := hS.nd i (by omega)
  rw [hl] at hnd
  have hval : valF up consts needs lbs i = valTo up (consts.getD i z0) (needs.getD i []) lbs := rfl
  rw [hval]
  generalize consts.getD i z0 = cl at *
  generalize needs.getD i [] = ns at *
  obtain ⟨lv, ms⟩ := cl
  dsimp only at e0 e1 hmc
  subst hC hD
  obtain ⟨W0, hW0⟩ : ∃ W0, w.alloc (.cells #[.int .i64 0, .int .u64 0] 29) = W0 := ⟨_, rfl⟩
  have hsz0 : W0.heap.size = w.heap.size + 1 := by rw [← hW0]; simp
  have b0 : Below w.heap.size w W0 := by rw [← hW0]; exact (Below.refl _ w).alloc (Nat.le_refl _) _
  obtain ⟨W1, hW1⟩ : ∃ W1, W0.alloc (.cells #[.int .i64 lv, .int .u64 (ms : Nat)] 29) = W1 := ⟨_, rfl⟩
  have b01 : Below w.heap.size W0 W1 := by rw [← hW1]; exact (Below.refl _ W0).alloc (by omega) _
  have b1 := b0.trans b01
  have hstart : RValB w ⟨lv, ms⟩ W1 := ⟨by rw [← hW1, ← hW0]; exact (Blk.new w _ _).alloc _, by rw [← hW1]; exact Blk.new_at _ _ _ _ hsz0, b1⟩
  have e0' := (b0.cell (p := ad.add (i * 2)) (by rw [block_of_add]; exact hbk)).trans e0
  have e1' := (b0.cell (p := ⟨(ad.add (i * 2)).block, (ad.add (i * 2)).off + 1, none⟩) (show (ad.add (i * 2)).block < _ by rw [block_of_add]; exact hbk)).trans e1
  have hlt0 : ((i : Int) < (m : Int)) := by omega
  obtain ⟨NN, hNN⟩ : ∃ NN, NN = ns.length := ⟨_, rfl⟩
  rw [← hNN] at e2 l1 hrow
  rw [hml] at l2
  have hvg := fun (t : Nat) => valTo_gd hS.lat (n := m) hLb (ns.take t) ⟨lv, ms⟩ hgc (fun k hk => hnd k (List.mem_of_mem_take hk))
  have hvm := fun (t : Nat) => valTo_ms (up := up) (l := lbs) (ns.take t) ⟨lv, ms⟩ hmc (fun k hk => hLm k (hnd k (List.mem_of_mem_take hk)))
  replace hvg := Lib.hid hvg
  replace hvm := Lib.hid hvm
  replace hNN := Lib.hid hNN
  replace hS := Lib.hid hS
  replace hn := Lib.hid hn
  replace hM := Lib.hid hM
  replace hr := Lib.hid hr
  replace hl := Lib.hid hl
  replace hcm := Lib.hid hcm
  replace hc := Lib.hid hc
  replace hd := Lib.hid hd
  replace hLb := Lib.hid hLb
  replace hLm := Lib.hid hLm
  replace hL := Lib.hid hL
  replace hrow := Lib.hid hrow
  replace hgc := Lib.hid hgc
  replace hmc := Lib.hid hmc
  replace hnd := Lib.hid hnd
  replace b0 := Lib.hid b0
  replace b01 := Lib.hid b01
  replace b1 := Lib.hid b1
  replace hstart := Lib.hid hstart
  clear hval e0 e1
  refine callsIn_of_wp Tryd.func17 rfl trivial ?_ rfl
  simp only [Tryd.ntmps17, List.size_toArray, List.length_cons, List.length_nil, Nat.reduceAdd, Nat.reduceSub, Array.replicate_succ, Array.replicate_zero, List.push_toArray, List.append_toArray, List.nil_append, List.cons_append]
  gi_wp2
  gi_loopw [12] (fun v wr => ∃ t : Nat, v = .int .i64 (t : Nat) ∧ t ≤ NN ∧ RValB w (valTo up ⟨lv, ms⟩ (ns.take t) lbs) wr) (fun v wr => NN - natOf v)
  case atStart => exact ⟨0, rfl, by omega, hstart.out⟩
  case round =>
    obtain ⟨t, rfl, htN, hV⟩ := hrel
    have e2' := (hV.below.cell (p := ad2.add i) (by rw [block_of_add]; exact hbk2)).trans e2
    by_cases ht : t < NN
    · have hlt : ((t : Int) < (NN : Int)) := by omega
      have htl : t < ns.length := by have := hNN.out; omega
      have hsn := valTo_snoc up ⟨lv, ms⟩ lbs ns htl
      obtain ⟨ad3, hA2, hbk3, hcl⟩ := (hrow.out.below hV.below).2 (by omega)
      subst hA2
      have u0 := hcl t _ (nums_at (by rw [casts_len']; exact htl))
      rw [casts_getD] at u0
      have hkm : ns.getD t 0 < m := hnd.out _ (by rw [List.getD_eq_getElem?_getD, List.getElem?_eq_getElem htl]; exact List.getElem_mem htl)
      have hlen := hLb.out.len
      obtain ⟨ad4, hLe, hbk4, x0, x1⟩ := reads_label hlen (hL.out.below hV.below |>.more hV.below.size) hkm
      subst hLe
      change wr.cell? (ad4.add (ns.getD t 0 * 2)) = some (Value.int .i64 (lbs.getD (ns.getD t 0) z0).lv) at x0
      change _ = some (Value.int .u64 ((lbs.getD (ns.getD t 0) z0).ms : Nat)) at x1
      have hgx := hLb.out.gd _ hkm
      have hmx := hLm.out _ hkm
      have hgv := hvg.out t
      have hmv := hvm.out t
      generalize ns.getD t 0 = k at *
      generalize lbs.getD k z0 = lx at *
      generalize valTo up ⟨lv, ms⟩ (ns.take t) lbs = vx at *
      have hlt2 : ((k : Int) < (m : Int)) := by omega
      have hJ := fun q => rjoinL_any A n c up vx lx (wr.drewN q) hn.out h64 hM.out (((hr.out.below hV.below).more hV.below.size).drewN q) hgv hgx hmv hmx
      obtain ⟨v0, v1⟩ := pair_cells hV.kv
      replace hV := Lib.hid hV
      replace hJ := Lib.hid hJ
      replace hsn := Lib.hid hsn
      replace hcl := Lib.hid hcl
      replace hgx := Lib.hid hgx
      replace hgv := Lib.hid hgv
      gi_wp2
      (refine wpIn_region_quiet_tail 12 (by kernel_rfl) (by kernel_rfl) ?_; simp only [List.take_succ_cons, List.take_zero, List.drop_succ_cons, List.drop_zero]; (repeat (first | gi_big_quiet_step (fail) | (refine wpQuietIn_pass (fun _ _ _ _ => trivial) (by rfl) rfl ?_; simp only [List.setIfInBounds_toArray, List.set_cons_succ, List.set_cons_zero]) | (refine wpQuietIn_step (fun _ _ _ _ => trivial) ?_; intro K hK; refine Eq.mpr (if_pos (by rfl)) ?_; gi_big_quiet_op; gi_big_quiet_call ((fail))))); refine wpQuietIn_nil ?_; intro _ hw'; obtain ⟨nq, hw''⟩ := hw'; subst hw'')
      have hVq := hV.out.drewN nq
      gi_wp2_with (refine ⟨trivial, ?_⟩; gi_at_call 13; refine (callsIn_wide.2 (hJ.out nq)).mono ?_; rintro e w3 ⟨rfl, hb3⟩; have k3 := hVq.more hb3; obtain ⟨q4, q5⟩ := pair_cells k3.kv; have f4 := k3.kv.frozen 0; have f5 := k3.kv.frozen 1; replace k3 := Lib.hid k3; clear hb3)
      go_roundw
      case rel => exact ⟨t + 1, by go_num, by omega, by rw [hsn.out]; exact k3.out.set_ _⟩
      case measure => simp [natOf]; omega
    · have hte : t = NN := by omega
      have hlt : ¬ ((t : Int) < (NN : Int)) := by omega
      have htk : ns.take t = ns := List.take_of_length_le (by have := hNN.out; omega)
      rw [htk] at hV
      generalize hvx : valTo up ⟨lv, ms⟩ ns lbs = vx at *
      replace hvx := Lib.hid hvx
      obtain ⟨v0, v1⟩ := pair_cells hV.kv
      obtain ⟨r0, r1⟩ := pair_cells hV.kr
      have f0 := hV.kr.frozen 0
      have f1 := hV.kr.frozen 1
      obtain ⟨x0, x1⟩ := pair_cells (pair_set hV.kr (.int .i64 vx.lv) (.int .u64 (vx.ms : Nat)))
      have hfin : Below w.heap.size w ((wr.setCell ⟨w.heap.size, 0, none⟩ (.int .i64 vx.lv)).setCell ⟨w.heap.size, 1, none⟩ (.int .u64 (vx.ms : Nat))) := (hV.below.setCell (by simp) _).setCell (by simp) _
      replace hfin := Lib.hid hfin
      replace hV := Lib.hid hV
      gi_wp2
      exact bodyPost_ret (v := lbV vx) (by simp [results, Tryd.f17, go_sem, x0, x1]) rfl ⟨by rw [hvx.out], hfin.out⟩

end Go.Proofs.YtleckdbdhkgcpaaDoor
namespace Go.Idl
open Go Go.RowKit
set_option linter.unusedSimpArgs false
set_option linter.unusedVariables false
def fanTo (needs : List (List Nat)) (v : Nat) : Nat := (List.range v).foldl (fun m v => max m (timesF needs v)) 0
theorem fanTo_succ (needs : List (List Nat)) (v : Nat) : fanTo needs (v + 1) = max (fanTo needs v) (timesF needs v) := by
  unfold fanTo
  rw [List.range_succ, List.foldl_append]
  rfl
theorem fanTo_all (needs : List (List Nat)) : fanTo needs needs.length = fanF needs := rfl
theorem lbVals_inj : ∀ {a b : List Lb}, lbVals a = lbVals b → a = b
  | [], [], _ => rfl
  | [], q :: r, h => by
    have := congrArg List.length h
    rw [lbVals_len, lbVals_len] at this
    simp at this
  | q :: r, [], h => by
    have := congrArg List.length h
    rw [lbVals_len, lbVals_len] at this
    simp at this
  | p :: a, q :: b, h => by
    have e1 : lbVals (p :: a) = .int .i64 p.lv :: .int .u64 (p.ms : Nat) :: lbVals a := rfl
    have e2 : lbVals (q :: b) = .int .i64 q.lv :: .int .u64 (q.ms : Nat) :: lbVals b := rfl
    rw [e1, e2] at h
    injection h with h1 h2
    injection h2 with h2 h3
    injection h1 with _ h1
    injection h2 with _ h2
    have h4 : p.ms = q.ms := by omega
    rw [lbVals_inj h3]
    congr 1
    cases p; cases q; simp only at h1 h4; rw [h1, h4]
theorem own_unique {w : World} {base size n : Nat} {e : TypeId} {v : Value} {xs ys : List Value} (h : w.ownsRow base e size v n xs) (k : w.ownsRow base e size v n ys) : xs = ys := by
  rcases h.2 with ⟨rfl, h0⟩ | ⟨g, cap, cur, rfl, _, hh, _, _, _, ht⟩
  · have h1 := h.1
    have h2 := k.1
    rw [h0, Nat.zero_mul] at h1 h2
    rw [List.eq_nil_of_length_eq_zero h1, List.eq_nil_of_length_eq_zero h2]
  · rcases k.2 with ⟨h0, _⟩ | ⟨g', cap', cur', hv, _, hh', _, _, _, ht'⟩
    · cases h0
    · injection hv with hv1 _ _
      injection hv1 with hv1
      injection hv1 with hv1 _ _
      subst hv1
      rw [hh] at hh'
      injection hh' with hh'
      injection hh' with hc _ _
      subst hc
      rw [← ht, ← ht']
/-- The room that labels in memory leave, as a number of the world. -/
theorem row_room (up : List Nat) (base n : Nat) (e : TypeId) (v : Value) : ∃ f : World → Nat, ∀ wr lbs, wr.ownsRow base e 2 v n (lbVals lbs) → f wr = room up lbs := by
  refine ⟨fun wr => room up (Classical.epsilon fun lbs => wr.ownsRow base e 2 v n (lbVals lbs)), fun wr lbs h => ?_⟩
  have hs := Classical.epsilon_spec (p := fun lbs => wr.ownsRow base e 2 v n (lbVals lbs)) ⟨lbs, h⟩
  have := lbVals_inj (own_unique hs h)
  dsimp only
  rw [this]
end Go.Idl
namespace Go.Proofs.YtleckdbdhkgcpaaDoor
open Go.RowKit Go.Shelf Go.Idl
set_option linter.unusedSimpArgs false
set_option linter.unusedVariables false

set_option maxHeartbeats 1600000 in
set_option maxRecDepth 100000 in
theorem fan_any (D : Option Addr) (m mc : Nat) (needs : List (List Nat)) (w : World) (hm63 : m ≤ 1000) (hfan : fanF needs ≤ 1000000) (hd : NRows w w.heap.size D m (needs.map casts)) :
    Calls Tryd.prog 21 #[.slice D m mc] w fun e w' => e = .returned (.int .i64 (fanF needs : Nat)) ∧ w = w' := by
  have hml : maxLen = 9223372036854775807 := rfl
  have hm : needs.length = m := by have := hd.1; rw [List.length_map] at this; exact this
  have hfe := fanTo_all needs
  rw [hm] at hfe
  have hft : ∀ v, v ≤ m → fanTo needs v ≤ 1000000 := fun v hv => foldl_max_ub _ _ _ 0 (by omega) fun x hx => Nat.le_trans (times_le_fan (by have := List.mem_range.1 hx; omega)) hfan
  have htm : ∀ v, v < m → timesF needs v ≤ 1000000 := fun v hv => Nat.le_trans (times_le_fan (by omega)) hfan
  have hul : ∀ i t v, i < m → v < m → (usersTo needs i t v).length ≤ 1000000 := fun i t v h1 h2 => Nat.le_trans (usersTo_len needs (by omega) (by omega)) hfan
  have hall : ∀ v, (usersTo needs m 0 v).length = timesF needs v := fun v => by rw [← hm, usersTo_all, users_len]
  have hul0 : ∀ i v, i ≤ m → v < m → (usersTo needs i 0 v).length ≤ 1000000 := fun i v h1 h2 => by
    rcases Nat.lt_or_ge i m with h | h
    · exact hul i 0 v h h2
    · have : i = m := by omega
      rw [this, hall v]
      exact htm v h2
  replace hfe := Lib.hid hfe
  replace hft := Lib.hid hft
  replace htm := Lib.hid htm
  replace hul := Lib.hid hul
  replace hul0 := Lib.hid hul0
  replace hall := Lib.hid hall
  replace hm := Lib.hid hm
  replace hd := Lib.hid hd
  go_enter Tryd.func21, Tryd.ntmps21
  go_wp2
  go_loopw [3, 4] (fun u v wr => ∃ q : Nat, v = .int .i64 (q : Nat) ∧ u = .int .i64 (fanTo needs q : Nat) ∧ q ≤ m ∧ wr = w) (fun u v wr => m - natOf v)
  case atStart => exact ⟨0, rfl, rfl, by omega, rfl⟩
  case round =>
    obtain ⟨q, rfl, rfl, hqm, rfl⟩ := hrel
    by_cases hq : q < m
    · have hlt : ((q : Int) < (m : Int)) := by omega
      go_wp2
      go_loopw [5, 6] (fun u v wr' => ∃ i : Nat, v = .int .i64 (i : Nat) ∧ u = .int .i64 ((usersTo needs i 0 q).length : Nat) ∧ i ≤ m ∧ wr' = wr) (fun u v wr' => m - natOf v)
      case atStart => exact ⟨0, rfl, by rw [usersTo_zero]; rfl, by omega, rfl⟩
      case round =>
        obtain ⟨i, rfl, rfl, him, rfl⟩ := hrel
        by_cases hi : i < m
        · have hlti : ((i : Int) < (m : Int)) := by omega
          obtain ⟨ad2, A2, c2, hD, hbk2, e2, l1, l2, hrow⟩ := hd.out.at_ hi
          rw [castss_getD, casts_len'] at e2 l1 hrow
          subst hD
          have hnx := usersTo_next needs i q
          have hsn := fun t (ht : t < (needs.getD i []).length) => usersTo_snoc0 needs (i := i) (t := t) ht q
          have hub := fun t => hul.out i t q hi hq
          generalize needs.getD i [] = ns at *
          rw [hml] at l2
          replace hrow := Lib.hid hrow
          replace hnx := Lib.hid hnx
          replace hsn := Lib.hid hsn
          replace hub := Lib.hid hub
          go_wp2
          go_loopw [5, 7] (fun u v wr'' => ∃ t : Nat, v = .int .i64 (t : Nat) ∧ u = .int .i64 ((usersTo needs i t q).length : Nat) ∧ t ≤ ns.length ∧ wr'' = wr) (fun u v wr'' => ns.length - natOf v)
          case atStart => exact ⟨0, rfl, rfl, by omega, rfl⟩
          case round =>
            obtain ⟨t, rfl, rfl, htl, rfl⟩ := hrel
            by_cases ht : t < ns.length
            · have hltt : ((t : Int) < (ns.length : Int)) := by omega
              obtain ⟨ad3, hA3, hbk3, hcl⟩ := hrow.out.2 (by omega)
              subst hA3
              have u0 := hcl t _ (nums_at (by rw [casts_len']; exact ht))
              rw [casts_getD] at u0
              have hs := hsn.out t ht
              have hb := hub.out t
              generalize ns.getD t 0 = z at *
              replace hcl := Lib.hid hcl
              by_cases hz : q = z
              · rw [if_pos hz] at hs
                have hz2 : ((z : Int) == (q : Int)) = true := by simp; omega
                have hlen : (usersTo needs i (t + 1) q).length = (usersTo needs i t q).length + 1 := by rw [hs, List.length_append]; rfl
                replace hs := Lib.hid hs
                replace hz := Lib.hid hz
                generalize (usersTo needs i t q).length = N at *
                replace hlen := Lib.hid hlen
                go_wp2
                go_roundw
                case rel => exact ⟨t + 1, by go_num, by rw [hlen.out]; go_num, by omega, by trivial⟩
                case measure => simp [natOf]; omega
              · rw [if_neg hz] at hs
                have hz2 : ((z : Int) == (q : Int)) = false := by simp; omega
                replace hs := Lib.hid hs
                replace hz := Lib.hid hz
                go_wp2
                go_roundw
                case rel => exact ⟨t + 1, by go_num, by rw [hs.out], by omega, by trivial⟩
                case measure => simp [natOf]; omega
            · have hte : t = ns.length := by omega
              have hltt : ¬ ((t : Int) < (ns.length : Int)) := by omega
              rw [hte, ← hnx.out]
              go_wp2
              go_roundw
              case rel => exact ⟨i + 1, by go_num, rfl, by omega, by trivial⟩
              case measure => simp [natOf]; omega
        · have hie : i = m := by omega
          have hlti : ¬ ((i : Int) < (m : Int)) := by omega
          rw [hie, hall.out q]
          have hb1 := htm.out q hq
          have hb2 := hft.out q hqm
          have hsu := fanTo_succ needs q
          generalize timesF needs q = tq at *
          generalize fanTo needs q = fq at *
          replace hsu := Lib.hid hsu
          by_cases hgt : fq < tq
          · have hgti : ((fq : Int) < (tq : Int)) := by omega
            go_wp2
            go_roundw
            case rel => exact ⟨q + 1, by go_num, by rw [hsu.out, Nat.max_eq_right (by omega)], by omega, by trivial⟩
            case measure => simp [natOf]; omega
          · have hgti : ¬ ((fq : Int) < (tq : Int)) := by omega
            go_wp2
            go_roundw
            case rel => exact ⟨q + 1, by go_num, by rw [hsu.out, Nat.max_eq_left (by omega)], by omega, by trivial⟩
            case measure => simp [natOf]; omega
    · have hqe : q = m := by omega
      have hlt : ¬ ((q : Int) < (m : Int)) := by omega
      rw [hqe, hfe.out]
      go_wp2
      go_ret
      exact ⟨rfl, rfl⟩

/-- What the reference's Solve gives. -/
def RSolPost (up : List Nat) (consts : List Lb) (needs : List (List Nat)) (l : Nat) (w : World) (e : Ending) (w' : World) : Prop :=
  ∃ (L : Option Addr) (lL : Nat) (lbs : List Lb), e = .returned (.slice L l lL) ∧ Reads w' w'.heap.size 2 L l (lbVals lbs) ∧ Least up consts needs lbs ∧ Below w.heap.size w w'

set_option maxHeartbeats 1600000 in
set_option maxRecDepth 100000 in
theorem rsolve_any (A : Option Addr) (n c : Nat) (up : List Nat) (C D : Option Addr) (l lc m mc : Nat) (consts : List Lb) (needs : List (List Nat)) (w : World) (hn : up.length = n) (hM : Masks up) (hr : Reads w w.heap.size 1 A n (u64s up))
    (hS : Idl.Sys up consts needs) (hcm : ∀ k, k < consts.length → (consts.getD k z0).ms < 2 ^ 64) (hl : consts.length = l) (hl63 : l ≤ 1000) (hc : Reads w w.heap.size 2 C l (lbVals consts)) (hd : NRows w w.heap.size D m (needs.map casts)) :
    Calls Tryd.prog 23 #[.slice A n c, .slice C l lc, .slice D m mc] w fun e w' => RSolPost up consts needs l w e w' := by
  have hml : maxLen = 9223372036854775807 := rfl
  obtain ⟨i0, hi0, hz0, hz1, hz2⟩ := info_parts2 label_info
  have h1 := lbVals_one consts
  replace hr := Lib.hid hr
  replace hM := Lib.hid hM
  replace hn := Lib.hid hn
  replace hS := Lib.hid hS
  replace hcm := Lib.hid hcm
  replace hl := Lib.hid hl
  replace hc := Lib.hid hc
  replace hd := Lib.hid hd
  replace h1 := Lib.hid h1
  go_enter Tryd.func23, Tryd.ntmps23
  go_wp2_with (at_builtin; refine wpList_append_copy w rfl _ _ 23 rfl 29 i0 (.agg #[.int .i64 0, .int .u64 0]) 2 16 Tryd.underlying23 hi0 hz0 hz1 hz2 rfl (by decide) rfl w.heap.size _ l _ (lbVals consts) rfl hc.out (Nat.le_refl _) h1.out (by rw [hml]; omega) (by omega) ?_; intro L lL w1 ho1 _ hb1)
  obtain ⟨μ, hμ⟩ := row_room up w.heap.size l 29 (.slice L l lL)
  obtain ⟨P1, hP1⟩ : ∃ P1 : Bool → World → Prop, ∀ b wr, P1 b wr ↔ ∃ lbs, wr.ownsRow w.heap.size 29 2 (.slice L l lL) l (lbVals lbs) ∧ Below w.heap.size w wr ∧ Toward up consts needs lbs ∧ (∀ k, k < consts.length → (lbs.getD k z0).ms < 2 ^ 64) ∧ (b = false → Least up consts needs lbs) := ⟨_, fun _ _ => Iff.rfl⟩
  have hP0 : P1 true w1 := (hP1 true w1).2 ⟨consts, ho1, hb1, Toward.start hS.out, hcm.out, fun h => (by cases h)⟩
  replace hP1 := Lib.hid hP1
  replace hP0 := Lib.hid hP0
  replace hμ := Lib.hid hμ
  clear ho1 hb1
  go_loopw [8] (fun v wr => ∃ b : Bool, v = .bool b ∧ P1 b wr) (fun v wr => 2 * μ wr + (match v with | .bool true => 1 | _ => 0))
  case atStart => exact ⟨true, rfl, hP0.out⟩
  case round =>
    obtain ⟨b, rfl, hI⟩ := hrel
    obtain ⟨lbs0, ho, hB, htow, hms, hlst⟩ := (hP1.out b wr).1 hI
    cases b with
    | false =>
      have hpost : RSolPost up consts needs l w (.returned (.slice L l lL)) wr := ⟨L, lL, lbs0, rfl, Reads.of_own ho, hlst rfl, hB⟩
      replace hpost := Lib.hid hpost
      replace ho := Lib.hid ho
      replace hB := Lib.hid hB
      replace htow := Lib.hid htow
      replace hms := Lib.hid hms
      replace hlst := Lib.hid hlst
      replace hI := Lib.hid hI
      go_wp2
      go_ret
      exact hpost.out
    | true =>
      have hroom0 := hμ.out wr lbs0 ho
      obtain ⟨P2, hP2⟩ : ∃ P2 : Nat → Bool → World → Prop, ∀ i b wr, P2 i b wr ↔ ∃ lbs, wr.ownsRow w.heap.size 29 2 (.slice L l lL) l (lbVals lbs) ∧ Below w.heap.size w wr ∧ Pass up consts needs lbs0 lbs i b := ⟨_, fun _ _ _ => Iff.rfl⟩
      have hQ0 : P2 0 false wr := (hP2 0 false wr).2 ⟨lbs0, ho, hB, Pass.start htow hms⟩
      replace hP2 := Lib.hid hP2
      replace hQ0 := Lib.hid hQ0
      replace ho := Lib.hid ho
      replace hB := Lib.hid hB
      replace htow := Lib.hid htow
      replace hms := Lib.hid hms
      replace hlst := Lib.hid hlst
      replace hI := Lib.hid hI
      replace hroom0 := Lib.hid hroom0
      obtain ⟨w0, hw0⟩ : ∃ w0, w0 = wr := ⟨_, rfl⟩
      replace hw0 := Lib.hid hw0
      go_wp2
      go_loopw [8, 9] (fun u v wr' => ∃ (i : Nat) (b : Bool), v = .int .i64 (i : Nat) ∧ u = .bool b ∧ i ≤ l ∧ P2 i b wr') (fun u v wr' => l - natOf v)
      case atStart => exact ⟨0, false, rfl, rfl, by omega, hQ0.out⟩
      case round =>
        obtain ⟨i, b, rfl, rfl, hil, hJ⟩ := hrel
        obtain ⟨lbs, hlab, hB2, hpass⟩ := (hP2.out i b _).1 hJ
        by_cases hi : i < l
        · have hlt : ((i : Int) < (l : Int)) := by omega
          have hLb := hpass.tow.lbs
          rw [hl.out] at hLb
          have hLm := hpass.ms
          rw [hl.out] at hLm
          have hval := rvalue_any A n c up C D L l lc m mc lL consts needs lbs i wr hn.out hM.out ((hr.out.below hB2).more hB2.size) hS.out hcm.out hl.out (by omega) ((hc.out.below hB2).more hB2.size) ((hd.out.below hB2).more hB2.size) hLb hLm (Reads.of_own hlab) hi
          obtain ⟨GL, cap, hLf, _, _⟩ := hlab.form (by omega)
          injection hLf with hL1 _ hL2
          subst hL1 hL2
          have hkeep := hpass.keep
          have hchg := hpass.change hS.out hcm.out (by rw [hl.out]; exact hi)
          replace hval := Lib.hid hval
          replace hJ := Lib.hid hJ
          replace hpass := Lib.hid hpass
          replace hLb := Lib.hid hLb
          replace hLm := Lib.hid hLm
          replace hlab := Lib.hid hlab
          go_wp2_with fail
          refine hval.out.mono ?_
          rintro e wv ⟨rfl, hbv⟩
          obtain ⟨X6, hX6⟩ : ∃ X6, wv.alloc (.cells #[.int .i64 (valF up consts needs lbs i).lv, .int .u64 ((valF up consts needs lbs i).ms : Nat)] 29) = X6 := ⟨_, rfl⟩
          have hb6 : Below wv.heap.size wv X6 := by rw [← hX6]; exact (Below.refl _ wv).alloc (Nat.le_refl _) _
          have k6 : Blk X6 wv.heap.size 29 (lbC (valF up consts needs lbs i)) := by rw [← hX6]; exact Blk.new wv _ _
          obtain ⟨v0, v1⟩ := pair_cells k6
          have hlab6 : X6.ownsRow w.heap.size 29 2 (.slice (some ⟨GL, 0, none⟩) l lL) l (lbVals lbs) := own_kept (own_kept hlab.out (Kept.of_below (S := fun _ => False) hbv fun i h1 h2 => absurd h2 (Nat.not_lt_of_ge h1)) (fun _ _ h => h)) (Kept.of_below (S := fun _ => False) hb6 fun i h1 h2 => absurd h2 (Nat.not_lt_of_ge h1)) (fun _ _ h => h)
          have hB6 := hB2.trans ((hbv.trans (hb6.mono hbv.size)).mono hB2.size)
          obtain ⟨l0, l1⟩ := lbVals_at lbs i (by rw [hLb.out.len]; exact hi)
          have x0 := hlab6.cellAt (i * 2) (by omega)
          have x1 := hlab6.cellAt (i * 2 + 1) (by omega)
          rw [l0] at x0
          rw [l1] at x1
          change X6.cell? ⟨GL, i * 2, none⟩ = some (Value.int .i64 (lbs.getD i z0).lv) at x0
          change X6.cell? ⟨GL, i * 2 + 1, none⟩ = some (Value.int .u64 ((lbs.getD i z0).ms : Nat)) at x1
          have a0 : (⟨GL, 0, none⟩ : Addr).add (i * 2) = ⟨GL, i * 2, none⟩ := add0' GL (i * 2)
          have f0 := hlab6.frozenAt (i * 2)
          have f1 := hlab6.frozenAt (i * 2 + 1)
          have hGL := (hlab6.lt GL rfl).1
          generalize hve : valF up consts needs lbs i = y at *
          generalize hxe : lbs.getD i z0 = x at *
          replace hve := Lib.hid hve
          replace hxe := Lib.hid hxe
          replace hkeep := Lib.hid hkeep
          replace hchg := Lib.hid hchg
          replace hlab6 := Lib.hid hlab6
          replace hB6 := Lib.hid hB6
          replace hB2 := Lib.hid hB2
          replace hb6 := Lib.hid hb6
          replace hbv := Lib.hid hbv
          replace k6 := Lib.hid k6
          clear l0 l1
          by_cases hyx : y = x
          · subst hyx
            have e1 : (y.lv == y.lv && ((y.ms : Nat) : Int) == ((y.ms : Nat) : Int)) = true := by simp
            have hEq := fun W => label_equalIn y.lv y.lv (y.ms : Nat) (y.ms : Nat) W
            rw [e1] at hEq
            go_wp2
            go_quiet (fail)
            go_wp2
            go_roundw
            case rel => exact ⟨i + 1, b, by go_num, rfl, by omega, (hP2.out (i + 1) b _).2 ⟨lbs, hlab6.out, below_drewNs hB6.out nq, hkeep.out (by trivial)⟩⟩
            case measure => simp [natOf]; omega
          · have e1 : (y.lv == x.lv && ((y.ms : Nat) : Int) == ((x.ms : Nat) : Int)) = false := by
              cases hb : (y.lv == x.lv && ((y.ms : Nat) : Int) == ((x.ms : Nat) : Int)) with
              | false => rfl
              | true =>
                rw [Bool.and_eq_true, beq_iff_eq, beq_iff_eq] at hb
                exact absurd (by cases y; cases x; simp at hb ⊢; omega) hyx
            have hEq := fun W => label_equalIn y.lv x.lv (y.ms : Nat) (x.ms : Nat) W
            rw [e1] at hEq
            go_wp2
            go_quiet (fail)
            have hlabq : (((X6.drewN nq).setCell ⟨GL, i * 2, none⟩ (.int .i64 y.lv)).setCell ⟨GL, i * 2 + 1, none⟩ (.int .u64 (y.ms : Nat))).ownsRow w.heap.size 29 2 (.slice (some ⟨GL, 0, none⟩) l lL) l (lbVals (lbs.set i y)) := by
              rw [lbVals_set]
              exact (((show (X6.drewN nq).ownsRow w.heap.size 29 2 (.slice (some ⟨GL, 0, none⟩) l lL) l (lbVals lbs) from hlab6.out).stored (i * 2) _).1.stored (i * 2 + 1) _).1
            have hBq : Below w.heap.size w (((X6.drewN nq).setCell ⟨GL, i * 2, none⟩ (.int .i64 y.lv)).setCell ⟨GL, i * 2 + 1, none⟩ (.int .u64 (y.ms : Nat))) := ((below_drewNs hB6.out nq).setCell (p := ⟨GL, i * 2, none⟩) hGL _).setCell (p := ⟨GL, i * 2 + 1, none⟩) hGL _
            replace hlabq := Lib.hid hlabq
            replace hBq := Lib.hid hBq
            go_wp2
            go_roundw
            case rel => exact ⟨i + 1, true, by go_num, rfl, by omega, (hP2.out (i + 1) true _).2 ⟨_, hlabq.out, hBq.out, hchg.out hyx⟩⟩
            case measure => simp [natOf]; omega
        · have hie : i = l := by omega
          have hlt : ¬ ((i : Int) < (l : Int)) := by omega
          rw [hie] at hpass
          have hmu := hμ.out wr lbs hlab
          have hle := hpass.le
          have hfin : P1 b wr := (hP1.out b wr).2 ⟨lbs, hlab, hB2, hpass.tow, hpass.ms, fun hb => by
            subst hb
            rw [← hl.out] at hpass
            exact hpass.least⟩
          have hmeas : 2 * μ wr + (match (Value.bool b) with | .bool true => 1 | _ => 0) < 2 * μ w0 + 1 := by
            have h0 := hroom0.out
            rw [← hw0.out] at h0
            cases b with
            | false => show 2 * μ wr + 0 < _; omega
            | true => have := hpass.less rfl; show 2 * μ wr + 1 < _; omega
          rw [hw0.out] at hmeas
          replace hfin := Lib.hid hfin
          replace hmeas := Lib.hid hmeas
          replace hpass := Lib.hid hpass
          replace hlab := Lib.hid hlab
          replace hB2 := Lib.hid hB2
          replace hJ := Lib.hid hJ
          replace hmu := Lib.hid hmu
          go_wp2
          go_roundw
          case rel => exact ⟨b, rfl, hfin.out⟩
          case measure => exact hmeas.out
end Go.Proofs.YtleckdbdhkgcpaaDoor
namespace Go.Idl
open Go Go.RowKit
set_option linter.unusedSimpArgs false
set_option linter.unusedVariables false
def maxTo (n : Nat) (f : Nat → Nat) : Nat := (List.range n).foldl (fun m v => max m (f v)) 0
theorem maxTo_upd {n k : Nat} {f g : Nat → Nat} (hk : k < n) (h1 : ∀ j, j ≠ k → g j = f j) (h2 : f k ≤ g k) : maxTo n g = max (maxTo n f) (g k) := by
  have a := foldl_max_le f (List.range n) 0
  have b := foldl_max_le g (List.range n) 0
  apply Nat.le_antisymm
  · refine foldl_max_ub g _ _ 0 (Nat.zero_le _) fun v hv => ?_
    by_cases e : v = k
    · subst e; exact Nat.le_max_right _ _
    · rw [h1 v e]
      exact Nat.le_trans (a.2 v hv) (Nat.le_max_left _ _)
  · apply Nat.max_le.2
    refine ⟨foldl_max_ub f _ _ 0 (Nat.zero_le _) fun v hv => ?_, b.2 k (List.mem_range.2 hk)⟩
    by_cases e : v = k
    · subst e; exact Nat.le_trans h2 (b.2 v hv)
    · rw [← h1 v e]; exact b.2 v hv
theorem map_upd {n k v : Nat} {f g : Nat → Nat} (hk : k < n) (h1 : ∀ j, j ≠ k → g j = f j) (h2 : g k = v) : (List.range n).map g = ((List.range n).map f).set k v := by
  apply List.ext_getElem
  · simp
  · intro j h3 h4
    simp only [List.length_map, List.length_range] at h3
    rw [List.getElem_set]
    by_cases e : k = j
    · subst e; simp [h2]
    · rw [if_neg e]
      simp [h1 j (fun e2 => e e2.symm)]
theorem maxTo_fan (needs : List (List Nat)) : maxTo needs.length (fun k => (usersTo needs needs.length 0 k).length) = fanF needs := by
  unfold maxTo fanF
  have e : (fun m v => max m (usersTo needs needs.length 0 v).length) = fun m v => max m (timesF needs v) := funext fun m => funext fun v => by rw [usersTo_all, users_len]
  rw [e]
end Go.Idl
namespace Go.Proofs.YtleckdbdhkgcpaaDoor
open Go.RowKit Go.Shelf Go.Idl
set_option linter.unusedSimpArgs false
set_option linter.unusedVariables false

set_option maxHeartbeats 1600000 in
set_option maxRecDepth 100000 in
theorem most_no (A : Option Addr) (n c : Nat) (up : List Nat) (C D : Option Addr) (l lc m mc : Nat) (consts : List Lb) (needs : List (List Int)) (w : World) (hT : Tab w) (hn : up.length = n) (hn63 : n ≤ maxLen) (hM : Masks up) (hr : Reads w w.heap.size 1 A n (u64s up))
    (hl : consts.length = l) (hl63 : l ≤ maxLen) (hc : Reads w w.heap.size 2 C l (lbVals consts)) (hm63 : m ≤ maxLen) (hd : NRows w w.heap.size D m needs) (hq : sysB up consts needs = false) :
    Calls Tryd.prog 19 #[.slice A n c, .agg #[.slice C l lc, .slice D m mc]] w fun e w' => e = .returned (.int .i64 0) ∧ Below w.heap.size w w' := by
  have hb0 : Below w.heap.size w (w.alloc (.cells #[.slice C l lc, .slice D m mc] 26)) := (Below.refl _ w).alloc (Nat.le_refl _) _
  have hRi := sright_any A n c up C D l lc m mc consts needs _ (hT.later hb0) hn hn63 hM ((hr.below hb0).more hb0.size) hl hl63 ((hc.below hb0).more hb0.size) hm63 ((hd.below hb0).more hb0.size)
  rw [hq] at hRi
  replace hRi := Lib.hid hRi
  replace hb0 := Lib.hid hb0
  replace hr := Lib.hid hr
  replace hM := Lib.hid hM
  replace hT := Lib.hid hT
  replace hc := Lib.hid hc
  replace hd := Lib.hid hd
  replace hn := Lib.hid hn
  replace hl := Lib.hid hl
  replace hq := Lib.hid hq
  go_enter Tryd.func19, Tryd.ntmps19
  go_wp2_with fail
  refine hRi.out.mono ?_
  rintro x w1 ⟨rfl, hb1⟩
  have hB := Lib.hid (hb0.out.trans (hb1.mono hb0.out.size))
  clear hb1
  go_wp2
  go_ret
  exact ⟨rfl, hB.out⟩

set_option maxHeartbeats 1600000 in
set_option maxRecDepth 100000 in
theorem most_yes (A : Option Addr) (n c : Nat) (up : List Nat) (C D : Option Addr) (l lc m mc : Nat) (consts : List Lb) (needs : List (List Nat)) (w : World) (hT : Tab w) (hn : up.length = n) (hn63 : n ≤ maxLen) (hM : Masks up) (hr : Reads w w.heap.size 1 A n (u64s up))
    (hl : consts.length = l) (hl63 : l ≤ 1000) (hc : Reads w w.heap.size 2 C l (lbVals consts)) (hm63 : m ≤ maxLen) (hd : NRows w w.heap.size D m (needs.map casts)) (hq : sysB up consts (needs.map casts) = true)
    (hS : Idl.Sys up consts needs) (hfan : fanF needs ≤ 1000000) :
    Calls Tryd.prog 19 #[.slice A n c, .agg #[.slice C l lc, .slice D m mc]] w fun e w' => e = .returned (.int .i64 ((l + l * fanF needs * (heightN up + 64) : Nat) : Int)) ∧ Below w.heap.size w w' := by
  have hml : maxLen = 9223372036854775807 := rfl
  have hm : m = l := by have := hd.1; rw [List.length_map, hS.len] at this; omega
  subst hm
  have hnl : needs.length = m := by rw [hS.len]; exact hl
  have h64 : n ≤ 64 := by rw [← hn]; exact hS.lat.n64
  have hH := heightN_le up
  rw [hn] at hH
  have hlat : latB up = true := by
    simp only [sysB, Bool.and_eq_true] at hq
    exact hq.1.1.1
  obtain ⟨i0, hi0, hz0, hz1, hz2⟩ := info_parts1 int_info1
  have hmk := fun W => run_make_rowN (P := Tryd.prog) 40 3 i0 (.int .i64 0) Tryd.underlying40 hi0 hz0 .i64 .i64 m m (Nat.le_refl _) (by rw [hz2]; omega) (by omega) W
  obtain ⟨W0, hW0⟩ : ∃ W0, w.alloc (.cells #[.slice C m lc, .slice D m mc] 26) = W0 := ⟨_, rfl⟩
  have hb0 : Below w.heap.size w W0 := by rw [← hW0]; exact (Below.refl _ w).alloc (Nat.le_refl _) _
  have k0 : Blk W0 w.heap.size 26 #[.slice C m lc, .slice D m mc] := by rw [← hW0]; exact Blk.new w _ _
  have hRi := sright_any A n c up C D m lc m mc consts (needs.map casts) _ (hT.later hb0) hn hn63 hM ((hr.below hb0).more hb0.size) hl (by omega) ((hc.below hb0).more hb0.size) hm63 ((hd.below hb0).more hb0.size)
  rw [hq] at hRi
  obtain ⟨s0, s1⟩ := pair_cells k0
  replace hRi := Lib.hid hRi
  replace hb0 := Lib.hid hb0
  replace k0 := Lib.hid k0
  replace hr := Lib.hid hr
  replace hM := Lib.hid hM
  replace hT := Lib.hid hT
  replace hc := Lib.hid hc
  replace hd := Lib.hid hd
  replace hn := Lib.hid hn
  replace hl := Lib.hid hl
  replace hq := Lib.hid hq
  replace hS := Lib.hid hS
  replace hnl := Lib.hid hnl
  replace hlat := Lib.hid hlat
  go_enter Tryd.func19, Tryd.ntmps19
  go_wp2_with fail
  refine hRi.out.mono ?_
  rintro x w1 ⟨rfl, hb1⟩
  have k1 := k0.out.below hb1 k0.out.lt
  obtain ⟨s2, s3⟩ := pair_cells k1
  have hB1 := hb0.out.trans (hb1.mono hb0.out.size)
  have hsz1 := k1.lt
  replace k1 := Lib.hid k1
  clear hb1 s0 s1
  obtain ⟨X, hX⟩ : ∃ X, w1.alloc (.cells (madeCells #[.int .i64 0] m) 3) = X := ⟨_, rfl⟩
  have hbX : Below w1.heap.size w1 X := by rw [← hX]; exact (Below.refl _ w1).alloc (Nat.le_refl _) _
  obtain ⟨P1, hP1⟩ : ∃ P1 : Nat → Nat → World → Prop, ∀ i t wr, P1 i t wr ↔ (Blk wr w1.heap.size 3 (i64s ((List.range m).map fun k => (usersTo needs i t k).length)).toArray ∧ Below w1.heap.size w1 wr) := ⟨_, fun _ _ _ => Iff.rfl⟩
  have hP0 : P1 0 0 X := (hP1 0 0 X).2 ⟨by
    have e : ((List.range m).map fun k => (usersTo needs 0 0 k).length) = List.replicate m 0 := by
      apply List.ext_getElem
      · simp
      · intro i h1 h2; simp [usersTo_zero]
    rw [e, made_i64, ← hX]
    exact Blk.new w1 _ _, hbX⟩
  obtain ⟨s4, s5⟩ := pair_cells (k1.out.below hbX k1.out.lt)
  have hf0 : maxTo m (fun k => (usersTo needs 0 0 k).length) = 0 := by
    have h := foldl_max_ub (fun k => (usersTo needs 0 0 k).length) 0 (List.range m) 0 (Nat.le_refl _) (fun v _ => by rw [usersTo_zero]; exact Nat.le_refl _)
    exact Nat.le_zero.1 h
  replace hP1 := Lib.hid hP1
  replace hP0 := Lib.hid hP0
  replace hB1 := Lib.hid hB1
  replace hbX := Lib.hid hbX
  replace hf0 := Lib.hid hf0
  go_wp2
  go_loopw [7, 24] (fun u v wr => ∃ i : Nat, v = .int .i64 (i : Nat) ∧ u = .int .i64 (maxTo m (fun k => (usersTo needs i 0 k).length) : Nat) ∧ i ≤ m ∧ P1 i 0 wr) (fun u v wr => m - natOf v)
  case atStart => exact ⟨0, rfl, by rw [hf0.out]; rfl, by omega, hP0.out⟩
  case round =>
    obtain ⟨i, rfl, rfl, him, hI⟩ := hrel
    obtain ⟨kb, hbr⟩ := (hP1.out i 0 wr).1 hI
    have hBr := hB1.out.trans (hbr.mono hB1.out.size)
    by_cases hi : i < m
    · have hlt : ((i : Int) < (m : Int)) := by omega
      obtain ⟨ad2, A2, c2, hD, hbk2, e2, l1, l2, hrow⟩ := hd.out.at_ hi
      rw [castss_getD, casts_len'] at e2 l1 hrow
      have e2' := (hBr.cell (p := ad2.add i) (by rw [block_of_add]; exact hbk2)).trans e2
      subst hD
      have hnd := hS.out.nd i (by have := hl.out; omega)
      rw [hl.out] at hnd
      have hnx := funext (usersTo_next needs i)
      have hsn := fun t (ht : t < (needs.getD i []).length) => usersTo_snoc0 needs (i := i) (t := t) ht
      have hub := fun t k (hk : k < m) => Nat.le_trans (usersTo_len needs (i := i) (t := t) (k := k) (by have := hnl.out; omega) (by have := hnl.out; omega)) hfan
      generalize needs.getD i [] = ns at *
      rw [hml] at l2
      replace hrow := Lib.hid hrow
      replace hnd := Lib.hid hnd
      replace hnx := Lib.hid hnx
      replace hsn := Lib.hid hsn
      replace hub := Lib.hid hub
      replace hI := Lib.hid hI
      replace kb := Lib.hid kb
      replace hbr := Lib.hid hbr
      replace hBr := Lib.hid hBr
      clear e2
      go_wp2
      go_loopw [7, 30] (fun u v wr' => ∃ t : Nat, v = .int .i64 (t : Nat) ∧ u = .int .i64 (maxTo m (fun k => (usersTo needs i t k).length) : Nat) ∧ t ≤ ns.length ∧ P1 i t wr') (fun u v wr' => ns.length - natOf v)
      case atStart => exact ⟨0, rfl, rfl, by omega, hI.out⟩
      case round =>
        obtain ⟨t, rfl, rfl, htl, hJ⟩ := hrel
        obtain ⟨kb2, hbr2⟩ := (hP1.out i t _).1 hJ
        have hBr2 := hB1.out.trans (hbr2.mono hB1.out.size)
        by_cases ht : t < ns.length
        · have hltt : ((t : Int) < (ns.length : Int)) := by omega
          obtain ⟨ad3, hA3, hbk3, hcl⟩ := (hrow.out.below hBr2).2 (by omega)
          subst hA3
          have u0 := hcl t _ (nums_at (by rw [casts_len']; exact ht))
          rw [casts_getD] at u0
          have hkm : ns.getD t 0 < m := hnd.out _ (by rw [List.getD_eq_getElem?_getD, List.getElem?_eq_getElem ht]; exact List.getElem_mem ht)
          have hs := hsn.out t ht
          generalize ns.getD t 0 = k at *
          have hltk : ((k : Int) < (m : Int)) := by omega
          have hold := hub.out t k hkm
          have hcell := (kb2.cell k).trans (i64s_at _ k (by simpa using hkm))
          have hgd : ((List.range m).map fun k => (usersTo needs i t k).length).getD k 0 = (usersTo needs i t k).length := by
            rw [List.getD_eq_getElem?_getD, List.getElem?_map, List.getElem?_range hkm]
            rfl
          rw [hgd] at hcell
          have a0 : (⟨w1.heap.size, 0, none⟩ : Addr).add k = ⟨w1.heap.size, k, none⟩ := add0' _ k
          have f0 := kb2.frozen k
          have hup1 : ∀ j, j ≠ k → (usersTo needs i (t + 1) j).length = (usersTo needs i t j).length := fun j hj => by rw [hs j, if_neg hj]
          have hup2 : (usersTo needs i (t + 1) k).length = (usersTo needs i t k).length + 1 := by rw [hs k, if_pos rfl, List.length_append]; rfl
          have hmx := maxTo_upd (f := fun k => (usersTo needs i t k).length) (g := fun k => (usersTo needs i (t + 1) k).length) hkm hup1 (by rw [hup2]; omega)
          have hset := i64s_blk_set kb2 k ((usersTo needs i t k).length + 1)
          rw [← map_upd (g := fun k => (usersTo needs i (t + 1) k).length) hkm hup1 hup2] at hset
          have hfin : P1 i (t + 1) (wr.setCell ⟨w1.heap.size, k, none⟩ (.int .i64 (((usersTo needs i t k).length + 1 : Nat) : Int))) := (hP1.out i (t + 1) _).2 ⟨hset, hbr2.setCell (Nat.le_refl _) _⟩
          have hmb : maxTo m (fun k => (usersTo needs i t k).length) ≤ 1000000 := foldl_max_ub _ _ _ 0 (Nat.zero_le _) fun v hv => hub.out t v (List.mem_range.1 hv)
          rw [hup2] at hmx
          generalize (usersTo needs i t k).length = N at *
          generalize maxTo m (fun k => (usersTo needs i t k).length) = F at *
          have hc1 : (((N + 1 : Nat) : Int)) = (N : Int) + 1 := by omega
          rw [hc1] at hfin
          replace hc1 := Lib.hid hc1
          have hmxi : ((max F (N + 1) : Nat) : Int) = max (F : Int) ((N : Int) + 1) := by omega
          replace hfin := Lib.hid hfin
          replace hmx := Lib.hid hmx
          replace hset := Lib.hid hset
          replace hcl := Lib.hid hcl
          replace hs := Lib.hid hs
          replace hup1 := Lib.hid hup1
          replace hup2 := Lib.hid hup2
          replace hJ := Lib.hid hJ
          replace kb2 := Lib.hid kb2
          replace hbr2 := Lib.hid hbr2
          replace hBr2 := Lib.hid hBr2
          replace hgd := Lib.hid hgd
          replace hmxi := Lib.hid hmxi
          go_wp2
          go_roundw
          case rel => exact ⟨t + 1, by go_num, by rw [hmx.out, hmxi.out], by omega, hfin.out⟩
          case measure => simp [natOf]; omega
        · have hte : t = ns.length := by omega
          have hltt : ¬ ((t : Int) < (ns.length : Int)) := by omega
          rw [hte] at hJ
          have hJ2 : P1 (i + 1) 0 wr := by
            refine (hP1.out (i + 1) 0 wr).2 ?_
            rw [hnx.out]
            exact (hP1.out i ns.length wr).1 hJ
          replace hJ2 := Lib.hid hJ2
          have hfe : maxTo m (fun k => (usersTo needs i t k).length) = maxTo m (fun k => (usersTo needs (i + 1) 0 k).length) := by rw [hte, hnx.out]
          rw [hfe]
          replace hJ := Lib.hid hJ
          replace hfe := Lib.hid hfe
          replace kb2 := Lib.hid kb2
          replace hbr2 := Lib.hid hbr2
          replace hBr2 := Lib.hid hBr2
          go_wp2
          go_roundw
          case rel => exact ⟨i + 1, by go_num, rfl, by omega, hJ2.out⟩
          case measure => simp [natOf]; omega
    · have hie : i = m := by omega
      have hlt : ¬ ((i : Int) < (m : Int)) := by omega
      have hfe : maxTo m (fun k => (usersTo needs i 0 k).length) = fanF needs := by
        have := maxTo_fan needs
        rw [hnl.out] at this
        rw [hie]
        exact this
      rw [hfe]
      have hHt := height_any A n c up wr (hT.out.later hBr) hn.out hn63 hM.out ((hr.out.below hBr).more hBr.size)
      rw [hlat.out, if_pos rfl] at hHt
      replace hfe := Lib.hid hfe
      have hb1 : m * fanF needs ≤ 1000 * 1000000 := Nat.mul_le_mul hl63 hfan
      have hb2 : m * fanF needs * (heightN up + 64) ≤ 1000 * 1000000 * 128 := Nat.mul_le_mul hb1 (by omega)
      generalize hFe : fanF needs = F at *
      generalize hHe : heightN up = H at *
      obtain ⟨P, hP⟩ : ∃ P, P = m * F := ⟨_, rfl⟩
      obtain ⟨H2, hH2⟩ : ∃ H2, H2 = H + 64 := ⟨_, rfl⟩
      rw [← hP] at hb1 hb2
      rw [← hH2] at hb2
      obtain ⟨Q, hQ⟩ : ∃ Q, Q = P * H2 := ⟨_, rfl⟩
      rw [← hQ] at hb2
      have hv : ((m + m * fanF needs * (heightN up + 64) : Nat) : Int) = (m : Int) + (Q : Int) := by
        rw [hFe, hHe, ← hP, ← hH2, ← hQ]
        push_cast
        rfl
      replace hv := Lib.hid hv
      replace hFe := Lib.hid hFe
      replace hHe := Lib.hid hHe
      have g1 : (m : Int) * (F : Int) = (P : Int) := by rw [hP]; push_cast; rfl
      have g2 : (H : Int) + 64 = (H2 : Int) := by omega
      have g3 : (P : Int) * (H2 : Int) = (Q : Int) := by rw [hQ]; push_cast; rfl
      replace hP := Lib.hid hP
      replace hH2 := Lib.hid hH2
      replace hQ := Lib.hid hQ
      replace hHt := Lib.hid hHt
      replace hI := Lib.hid hI
      replace kb := Lib.hid kb
      replace hbr := Lib.hid hbr
      replace hBr := Lib.hid hBr
      go_wp2_with fail
      refine hHt.out.mono ?_
      rintro e w3 ⟨rfl, hb3⟩
      have hB3 := Lib.hid (hBr.out.trans (hb3.mono hBr.out.size))
      clear hb3
      go_wp2
      go_ret
      exact ⟨by rw [hv.out]; rfl, hB3.out⟩
end Go.Proofs.YtleckdbdhkgcpaaDoor
