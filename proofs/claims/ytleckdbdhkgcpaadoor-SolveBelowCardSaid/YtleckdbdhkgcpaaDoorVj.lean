/- (joins).join, (joins).value. -/
import Derived.Test.YtleckdbdhkgcpaaDoorVt
import Derived.Test.YtleckdbdhkgcpaaDoorQt
import Derived.Test.YtleckdbdhkgcpaaDoorWk
namespace Go.Idl
open Go Go.RowKit
theorem valTo_snoc (up : List Nat) (c : Lb) (l : List Lb) (ns : List Nat) {t : Nat} (ht : t < ns.length) : valTo up c (ns.take (t + 1)) l = joinL up (valTo up c (ns.take t) l) (l.getD (ns.getD t 0) z0) := by
  unfold valTo
  have e : ns.getD t 0 = ns[t] := by rw [List.getD_eq_getElem?_getD, List.getElem?_eq_getElem ht]; rfl
  rw [List.take_succ_eq_append_getElem ht, List.foldl_append, e]
  rfl
theorem casts_getD (ns : List Nat) (t : Nat) : (casts ns).getD t 0 = (ns.getD t 0 : Nat) := by
  unfold casts
  rw [List.getD_eq_getElem?_getD, List.getD_eq_getElem?_getD, List.getElem?_map]
  cases ns[t]? <;> rfl
theorem castss_getD (needs : List (List Nat)) (i : Nat) : (needs.map casts).getD i [] = casts (needs.getD i []) := by
  rw [List.getD_eq_getElem?_getD, List.getD_eq_getElem?_getD, List.getElem?_map]
  cases needs[i]? <;> rfl
theorem casts_len' (W : List Nat) : (casts W).length = W.length := by simp [casts]
end Go.Idl
namespace Go.Proofs.YtleckdbdhkgcpaaDoor
open Go.RowKit Go.Shelf Go.Idl

theorem jn_joinL {up : List Nat} (h : Lat up) {a b : Lb} (ha : Gd up a) (hb : Gd up b) : joinL up a b = ⟨(jn up a.lv.toNat b.lv.toNat : Nat), a.ms ||| b.ms⟩ := by
  unfold joinL
  rw [h.joinI_eq ha.lt hb.lt]

set_option maxHeartbeats 8000000 in
set_option maxRecDepth 100000 in
theorem jjoin_any (n : Nat) (up : List Nat) (Z : Option Addr) (z : Nat) (a b : Lb) (w : World) (hn : up.length = n) (hL : Lat up) (hz : Reads w w.heap.size 1 Z (n * n) (u8s (tabTo up n (n * n)))) (ha : Gd up a) (hb : Gd up b) (ham : a.ms < 2 ^ 64) (hbm : b.ms < 2 ^ 64) :
    Calls Tryd.prog 35 #[.agg #[.int .i64 (n : Nat), .slice Z (n * n) z], lbV a, lbV b] w fun e w' => e = .returned (lbV (joinL up a b)) ∧ Below w.heap.size w w' := by
  refine (callsIn_wide (n := 20)).1 ?_
  have h64 : n ≤ 64 := by rw [← hn]; exact hL.n64
  rw [jn_joinL hL ha hb]
  have e1 := ha.eq
  have e2 := hb.eq
  have l1 := ha.lt
  have l2 := hb.lt
  rw [hn] at l1 l2
  clear ha hb
  obtain ⟨av, am⟩ := a
  obtain ⟨bv, bm⟩ := b
  dsimp only at e1 e2 l1 l2 ham hbm ⊢
  generalize av.toNat = i at *
  generalize bv.toNat = j at *
  subst e1 e2
  have hat := tabTo_at up l1 l2
  have hij : i * n + j < n * n := by
    have : (i + 1) * n ≤ n * n := Nat.mul_le_mul_right _ l1
    rw [Nat.add_mul] at this
    omega
  have hnn : n * n ≤ 4096 := by
    have : n * n ≤ 64 * 64 := Nat.mul_le_mul h64 h64
    omega
  have hj64 : jn up i j < 64 := by
    have := (hL.jn_is (a := i) (b := j) (by omega) (by omega)).lt
    omega
  obtain ⟨ad, rfl, hbk, hcl⟩ := hz.2 (by omega)
  have hc := hcl _ _ hat
  obtain ⟨W0, hW0⟩ : ∃ W0, (((w.alloc (.cells #[.int .i64 (n : Nat), .slice (some ad) (n * n) z] 54)).alloc (.cells #[.int .i64 (i : Nat), .int .u64 (am : Nat)] 29)).alloc (.cells #[.int .i64 (j : Nat), .int .u64 (bm : Nat)] 29)).alloc (.cells #[.int .i64 0, .int .u64 0] 29) = W0 := ⟨_, rfl⟩
  have kj : Blk W0 w.heap.size 54 #[.int .i64 (n : Nat), .slice (some ad) (n * n) z] := by rw [← hW0]; exact (((Blk.new w _ _).alloc _).alloc _).alloc _
  have k0 : Blk W0 (w.heap.size + 1) 29 #[.int .i64 (i : Nat), .int .u64 (am : Nat)] := by rw [← hW0]; exact ((Blk.new_at _ _ _ _ (by simp)).alloc _).alloc _
  have k1 : Blk W0 (w.heap.size + 2) 29 #[.int .i64 (j : Nat), .int .u64 (bm : Nat)] := by rw [← hW0]; exact (Blk.new_at _ _ _ _ (by simp)).alloc _
  have k2 : Blk W0 (w.heap.size + 3) 29 #[.int .i64 0, .int .u64 0] := by rw [← hW0]; exact Blk.new_at _ _ _ _ (by simp)
  have hB0 : Below w.heap.size w W0 := by rw [← hW0]; exact ((((Below.refl _ w).alloc (Nat.le_refl _) _).alloc (by simp) _).alloc (by simp; omega) _).alloc (by simp; omega) _
  obtain ⟨o0, o1⟩ := pair_cells kj
  obtain ⟨p0, p1⟩ := pair_cells k0
  obtain ⟨p2, p3⟩ := pair_cells k1
  obtain ⟨p4, p5⟩ := pair_cells k2
  have f4 := k2.frozen 0
  have f5 := k2.frozen 1
  have hor := u64_or_eq am bm ham hbm
  have q0 : W0.cell? (ad.add (i * n + j)) = some (.int .u8 (jn up i j : Nat)) := (hB0.cell (by rw [block_of_add]; exact hbk)).trans hc
  generalize jn up i j = v at *
  have b0 : ((0 : Int) ≤ (i : Int) * (n : Int) + (j : Int)) := by
    have : ((i * n + j : Nat) : Int) = (i : Int) * (n : Int) + (j : Int) := by push_cast; rfl
    omega
  obtain ⟨x, hx⟩ : ∃ x, x = i * n + j := ⟨_, rfl⟩
  have hxe : (i : Int) * (n : Int) + (j : Int) = (x : Int) := by rw [hx]; push_cast; rfl
  rw [← hx] at q0 hij
  obtain ⟨N, hN⟩ : ∃ N, N = n * n := ⟨_, rfl⟩
  rw [← hN] at hij o1 hnn
  have hlt0 : ((0 : Int) ≤ (x : Int)) := by omega
  have hlt1 : ((x : Int) < (N : Int)) := by omega
  have hmul : (i : Int) * (n : Int) ≤ 4096 ∧ 0 ≤ (i : Int) * (n : Int) := by
    have h1 : i * n ≤ 4096 := by omega
    have h2 : ((i * n : Nat) : Int) = (i : Int) * (n : Int) := by push_cast; rfl
    omega
  obtain ⟨hm1, hm0⟩ := hmul
  replace hN := Lib.hid hN
  replace hx := Lib.hid hx
  replace kj := Lib.hid kj
  replace k0 := Lib.hid k0
  replace k1 := Lib.hid k1
  replace k2 := Lib.hid k2
  replace hB0 := Lib.hid hB0
  replace hz := Lib.hid hz
  replace hn := Lib.hid hn
  replace hL := Lib.hid hL
  clear hat hc hcl b0
  refine callsIn_of_wp Tryd.func35 rfl trivial ?_ rfl
  simp only [Tryd.ntmps35, List.size_toArray, List.length_cons, List.length_nil, Nat.reduceAdd, Nat.reduceSub, Array.replicate_succ, Array.replicate_zero, List.push_toArray, List.append_toArray, List.nil_append, List.cons_append]
  gi_wp2
  (refine wpIn_region_quiet_tail 19 (by kernel_rfl) (by kernel_rfl) ?_; simp only [List.take_succ_cons, List.take_zero, List.drop_succ_cons, List.drop_zero]; (repeat (first | gi_big_quiet_step (fail) | (refine wpQuietIn_pass (fun _ _ _ _ => trivial) (by rfl) rfl ?_; simp only [List.setIfInBounds_toArray, List.set_cons_succ, List.set_cons_zero]) | (refine wpQuietIn_step (fun _ _ _ _ => trivial) ?_; intro K hK; refine Eq.mpr (if_pos (by rfl)) ?_; gi_big_quiet_op; gi_big_quiet_call ((fail))))); refine wpQuietIn_nil ?_; intro _ hw'; obtain ⟨nq, hw''⟩ := hw'; subst hw'')
  gi_wp2
  obtain ⟨e0, e1⟩ := pair_cells (pair_set (k2.out.drewN nq) (.int .i64 (v : Nat)) (.int .u64 ((am ||| bm : Nat) : Int)))
  exact bodyPost_ret (v := .agg #[.int .i64 (v : Nat), .int .u64 ((am ||| bm : Nat) : Int)]) (by simp [results, Tryd.f35, go_sem, e0, e1]) rfl ⟨rfl, ((below_drewNs hB0.out nq).setCell (by simp; omega) _).setCell (by simp; omega) _⟩

/-- What stands while a value is made. -/
structure ValB (w : World) (q : Nat) (jv sv : Array Value) (x : Lb) (wr : World) : Prop where
  kj : Blk wr w.heap.size 54 jv
  ks : Blk wr (w.heap.size + 1) 26 sv
  kr : Blk wr (w.heap.size + 2) 29 #[.int .i64 0, .int .u64 0]
  kv : Blk wr q 29 (lbC x)
  below : Below w.heap.size w wr
theorem ValB.drewN {w wr : World} {q : Nat} {jv sv : Array Value} {x : Lb} (h : ValB w q jv sv x wr) (n : Nat) : ValB w q jv sv x (wr.drewN n) := ⟨h.kj, h.ks, h.kr, h.kv, below_drewNs h.below n⟩
theorem ValB.more {w wr w2 : World} {q : Nat} {jv sv : Array Value} {x : Lb} (h : ValB w q jv sv x wr) (hb : Below wr.heap.size wr w2) : ValB w q jv sv x w2 :=
  ⟨h.kj.below hb h.kj.lt, h.ks.below hb h.ks.lt, h.kr.below hb h.kr.lt, h.kv.below hb h.kv.lt, h.below.trans (hb.mono h.below.size)⟩
theorem ValB.set_ {w wr : World} {q : Nat} {jv sv : Array Value} {x : Lb} (h : ValB w q jv sv x wr) (hq : w.heap.size + 2 < q) (y : Lb) : ValB w q jv sv y ((wr.setCell ⟨q, 0, none⟩ (.int .i64 y.lv)).setCell ⟨q, 1, none⟩ (.int .u64 (y.ms : Nat))) :=
  ⟨(h.kj.far (by simp; omega) _).far (by simp; omega) _, (h.ks.far (by simp; omega) _).far (by simp; omega) _, (h.kr.far (by simp; omega) _).far (by simp; omega) _, pair_set h.kv _ _, (h.below.setCell (by simp; omega) _).setCell (by simp; omega) _⟩

set_option maxHeartbeats 8000000 in
set_option maxRecDepth 100000 in
theorem value_any (n : Nat) (up : List Nat) (Z : Option Addr) (z : Nat) (C D L : Option Addr) (l lc m mc lL : Nat) (consts : List Lb) (needs : List (List Nat)) (lbs : List Lb) (i : Nat) (w : World) (hn : up.length = n) (hz : Reads w w.heap.size 1 Z (n * n) (u8s (tabTo up n (n * n))))
    (hS : Idl.Sys up consts needs) (hcm : ∀ k, k < consts.length → (consts.getD k z0).ms < 2 ^ 64) (hl : consts.length = l) (hl63 : l ≤ maxLen) (hc : Reads w w.heap.size 2 C l (lbVals consts)) (hd : NRows w w.heap.size D m (needs.map casts))
    (hLb : Lbs up l lbs) (hLm : ∀ k, k < l → (lbs.getD k z0).ms < 2 ^ 64) (hL : Reads w w.heap.size 2 L l (lbVals lbs)) (hi : i < l) :
    Calls Tryd.prog 30 #[.agg #[.int .i64 (n : Nat), .slice Z (n * n) z], .agg #[.slice C l lc, .slice D m mc], .slice L l lL, .int .i64 (i : Nat)] w fun e w' => e = .returned (lbV (valF up consts needs lbs i)) ∧ Below w.heap.size w w' := by
  refine (callsIn_wide (n := 20)).1 ?_
  have hml : maxLen = 9223372036854775807 := rfl
  rw [hml] at hl63
  have hm : m = l := by have := hd.1; rw [List.length_map, hS.len] at this; omega
  subst hm
  obtain ⟨ad, hC, hbk, e0, e1⟩ := reads_label hl hc hi
  obtain ⟨ad2, A2, c2, hD, hbk2, e2, l1, l2, hrow⟩ := hd.at_ hi
  rw [castss_getD, casts_len'] at e2 l1 hrow
  change w.cell? (ad.add (i * 2)) = some (Value.int .i64 (consts.getD i z0).lv) at e0
  change _ = some (Value.int .u64 ((consts.getD i z0).ms : Nat)) at e1
  have hgc := hS.gd i (by omega)
  have hmc := hcm i (by omega)
  have hnd := hS.nd i (by omega)
  rw [hl] at hnd
  have hval : valF up consts needs lbs i = valTo up (consts.getD i z0) (needs.getD i []) lbs := rfl
  rw [hval]
  generalize consts.getD i z0 = cl at *
  generalize needs.getD i [] = ns at *
  obtain ⟨lv, ms⟩ := cl
  dsimp only at e0 e1 hmc
  subst hC hD
  obtain ⟨W0, hW0⟩ : ∃ W0, (((w.alloc (.cells #[.int .i64 (n : Nat), .slice Z (n * n) z] 54)).alloc (.cells #[.slice (some ad) m lc, .slice (some ad2) m mc] 26)).alloc (.cells #[.int .i64 0, .int .u64 0] 29)) = W0 := ⟨_, rfl⟩
  obtain ⟨W1, hW1⟩ : ∃ W1, W0.alloc (.cells #[.int .i64 lv, .int .u64 (ms : Nat)] 29) = W1 := ⟨_, rfl⟩
  have s0 : W0.heap.size = w.heap.size + 3 := by rw [← hW0]; simp
  have s1 : W1.heap.size = w.heap.size + 4 := by rw [← hW1]; simp [s0]
  have b0 : Below w.heap.size w W0 := by rw [← hW0]; exact (((Below.refl _ w).alloc (Nat.le_refl _) _).alloc (by simp) _).alloc (by simp; omega) _
  have b01 : Below W0.heap.size W0 W1 := by rw [← hW1]; exact (Below.refl _ W0).alloc (Nat.le_refl _) _
  have b1 : Below w.heap.size w W1 := b0.trans (b01.mono b0.size)
  have ks0 : Blk W0 (w.heap.size + 1) 26 #[.slice (some ad) m lc, .slice (some ad2) m mc] := by rw [← hW0]; exact (Blk.new_at _ _ _ _ (by simp)).alloc _
  have kj : Blk W1 w.heap.size 54 #[.int .i64 (n : Nat), .slice Z (n * n) z] := by rw [← hW1, ← hW0]; exact (((Blk.new w _ _).alloc _).alloc _).alloc _
  have ks : Blk W1 (w.heap.size + 1) 26 #[.slice (some ad) m lc, .slice (some ad2) m mc] := ks0.below b01 ks0.lt
  have kr : Blk W1 (w.heap.size + 2) 29 #[.int .i64 0, .int .u64 0] := by rw [← hW1, ← hW0]; exact (Blk.new_at _ _ _ _ (by simp)).alloc _
  have kv : Blk W1 W0.heap.size 29 #[.int .i64 lv, .int .u64 (ms : Nat)] := by rw [← hW1]; exact Blk.new W0 _ _
  obtain ⟨t0, t1⟩ := pair_cells ks0
  obtain ⟨t2, t3⟩ := pair_cells ks
  have e0' := (b0.cell (p := ad.add (i * 2)) (by rw [block_of_add]; exact hbk)).trans e0
  have e1' := (b0.cell (p := ⟨(ad.add (i * 2)).block, (ad.add (i * 2)).off + 1, none⟩) (show (ad.add (i * 2)).block < _ by rw [block_of_add]; exact hbk)).trans e1
  have e2' := (b1.cell (p := ad2.add i) (by rw [block_of_add]; exact hbk2)).trans e2
  have hlt0 : ((i : Int) < (m : Int)) := by omega
  obtain ⟨NN, hNN⟩ : ∃ NN, NN = ns.length := ⟨_, rfl⟩
  rw [← hNN] at e2 e2' l1 hrow
  rw [hml] at l2
  replace hNN := Lib.hid hNN
  have hrow1 := Lib.hid (hrow.below b1)
  have hL1 := Lib.hid (hL.below b1)
  have hz1 := Lib.hid (hz.below b1)
  replace hz := Lib.hid hz
  replace hS := Lib.hid hS
  replace hn := Lib.hid hn
  replace hl := Lib.hid hl
  replace hcm := Lib.hid hcm
  replace hc := Lib.hid hc
  replace hd := Lib.hid hd
  replace hLb := Lib.hid hLb
  replace hLm := Lib.hid hLm
  replace hL := Lib.hid hL
  replace hrow := Lib.hid hrow
  replace hgc := Lib.hid hgc
  replace hmc := Lib.hid hmc
  replace hnd := Lib.hid hnd
  replace kj := Lib.hid kj
  replace ks := Lib.hid ks
  replace kr := Lib.hid kr
  replace kv := Lib.hid kv
  replace ks0 := Lib.hid ks0
  replace b0 := Lib.hid b0
  replace b01 := Lib.hid b01
  replace b1 := Lib.hid b1
  replace s0 := Lib.hid s0
  clear hval e0 e1 e2
  refine callsIn_of_wp Tryd.func30 rfl trivial ?_ rfl
  simp only [Tryd.ntmps30, List.size_toArray, List.length_cons, List.length_nil, Nat.reduceAdd, Nat.reduceSub, Array.replicate_succ, Array.replicate_zero, List.push_toArray, List.append_toArray, List.nil_append, List.cons_append]
  gi_wp2
  have hq3 : w.heap.size + 2 < W0.heap.size := by have := s0.out; omega
  have hstart : ValB w W0.heap.size #[.int .i64 (n : Nat), .slice Z (n * n) z] #[.slice (some ad) m lc, .slice (some ad2) m mc] ⟨lv, ms⟩ W1 := ⟨kj.out, ks.out, kr.out, kv.out, b1.out⟩
  replace hstart := Lib.hid hstart
  replace hq3 := Lib.hid hq3
  have hvg := fun (t : Nat) => valTo_gd hS.out.lat (n := m) hLb.out (ns.take t) ⟨lv, ms⟩ hgc.out (fun k hk => hnd.out k (List.mem_of_mem_take hk))
  have hvm := fun (t : Nat) => valTo_ms (up := up) (l := lbs) (ns.take t) ⟨lv, ms⟩ hmc.out (fun k hk => hLm.out k (hnd.out k (List.mem_of_mem_take hk)))
  replace hvg := Lib.hid hvg
  replace hvm := Lib.hid hvm
  generalize W0.heap.size = Q at *
  gi_loopw [23] (fun v wr => ∃ t : Nat, v = .int .i64 (t : Nat) ∧ t ≤ NN ∧ ValB w Q #[.int .i64 (n : Nat), .slice Z (n * n) z] #[.slice (some ad) m lc, .slice (some ad2) m mc] (valTo up ⟨lv, ms⟩ (ns.take t) lbs) wr) (fun v wr => NN - natOf v)
  case atStart => exact ⟨0, rfl, by omega, hstart.out⟩
  case round =>
    obtain ⟨t, rfl, htN, hV⟩ := hrel
    by_cases ht : t < NN
    · have hlt : ((t : Int) < (NN : Int)) := by omega
      have htl : t < ns.length := by have := hNN.out; omega
      have hsn := valTo_snoc up ⟨lv, ms⟩ lbs ns htl
      obtain ⟨ad3, hA2, hbk3, hcl⟩ := (hrow.out.below hV.below).2 (by omega)
      subst hA2
      have u0 := hcl t _ (nums_at (by rw [casts_len']; exact htl))
      rw [casts_getD] at u0
      have hkm : ns.getD t 0 < m := hnd.out _ (by rw [List.getD_eq_getElem?_getD, List.getElem?_eq_getElem htl]; exact List.getElem_mem htl)
      have hlen := hLb.out.len
      obtain ⟨ad4, hLe, hbk4, x0, x1⟩ := reads_label hlen (hL.out.below hV.below |>.more hV.below.size) hkm
      subst hLe
      change wr.cell? (ad4.add (ns.getD t 0 * 2)) = some (Value.int .i64 (lbs.getD (ns.getD t 0) z0).lv) at x0
      change _ = some (Value.int .u64 ((lbs.getD (ns.getD t 0) z0).ms : Nat)) at x1
      have hgx := hLb.out.gd _ hkm
      have hmx := hLm.out _ hkm
      have hgv := hvg.out t
      have hmv := hvm.out t
      generalize ns.getD t 0 = k at *
      generalize lbs.getD k z0 = lx at *
      generalize valTo up ⟨lv, ms⟩ (ns.take t) lbs = vx at *
      have hlt2 : ((k : Int) < (m : Int)) := by omega
      have hJ := fun q => jjoin_any n up Z z vx lx (wr.drewN q) hn.out hS.out.lat (((hz.out.below hV.below).more hV.below.size).drewN q) hgv hgx hmv hmx
      obtain ⟨v0, v1⟩ := pair_cells hV.kv
      obtain ⟨j0, j1⟩ := pair_cells hV.kj
      replace hV := Lib.hid hV
      replace hJ := Lib.hid hJ
      replace hsn := Lib.hid hsn
      replace hcl := Lib.hid hcl
      replace hgx := Lib.hid hgx
      replace hgv := Lib.hid hgv
      gi_wp2
      (refine wpIn_region_quiet_tail 6 (by kernel_rfl) (by kernel_rfl) ?_; simp only [List.take_succ_cons, List.take_zero, List.drop_succ_cons, List.drop_zero]; (repeat (first | gi_big_quiet_step (fail) | (refine wpQuietIn_pass (fun _ _ _ _ => trivial) (by rfl) rfl ?_; simp only [List.setIfInBounds_toArray, List.set_cons_succ, List.set_cons_zero]) | (refine wpQuietIn_step (fun _ _ _ _ => trivial) ?_; intro K hK; refine Eq.mpr (if_pos (by rfl)) ?_; gi_big_quiet_op; gi_big_quiet_call ((fail))))); refine wpQuietIn_nil ?_; intro _ hw'; obtain ⟨nq, hw''⟩ := hw'; subst hw'')
      have hVq := hV.out.drewN nq
      gi_wp2_with (refine ⟨trivial, ?_⟩; gi_at_call 35; refine (callsIn_wide.2 (hJ.out nq)).mono ?_; rintro e w3 ⟨rfl, hb3⟩; have k3 := hVq.more hb3; obtain ⟨q4, q5⟩ := pair_cells k3.kv; have f4 := k3.kv.frozen 0; have f5 := k3.kv.frozen 1; replace k3 := Lib.hid k3; clear hb3)
      go_roundw
      case rel => exact ⟨t + 1, by go_num, by omega, by rw [hsn.out]; exact k3.out.set_ hq3.out _⟩
      case measure => simp [natOf]; omega
    · have hte : t = NN := by omega
      have hlt : ¬ ((t : Int) < (NN : Int)) := by omega
      have htk : ns.take t = ns := List.take_of_length_le (by have := hNN.out; omega)
      rw [htk] at hV
      generalize hvx : valTo up ⟨lv, ms⟩ ns lbs = vx at *
      replace hvx := Lib.hid hvx
      obtain ⟨v0, v1⟩ := pair_cells hV.kv
      obtain ⟨r0, r1⟩ := pair_cells hV.kr
      have f0 := hV.kr.frozen 0
      have f1 := hV.kr.frozen 1
      obtain ⟨e0, e1⟩ := pair_cells (pair_set hV.kr (.int .i64 vx.lv) (.int .u64 (vx.ms : Nat)))
      have hfin : Below w.heap.size w ((wr.setCell ⟨w.heap.size + 2, 0, none⟩ (.int .i64 vx.lv)).setCell ⟨w.heap.size + 2, 1, none⟩ (.int .u64 (vx.ms : Nat))) := (hV.below.setCell (by simp) _).setCell (by simp) _
      replace hfin := Lib.hid hfin
      replace hV := Lib.hid hV
      gi_wp2
      exact bodyPost_ret (v := lbV vx) (by simp [results, Tryd.f30, go_sem, e0, e1]) rfl ⟨by rw [hvx.out], hfin.out⟩
end Go.Proofs.YtleckdbdhkgcpaaDoor
