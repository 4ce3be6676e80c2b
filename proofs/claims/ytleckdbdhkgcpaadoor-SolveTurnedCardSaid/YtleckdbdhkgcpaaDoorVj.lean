/- solve.table: a lattice's joins, ready. (joins).join, (joins).value. -/
import Derived.Test.YtleckdbdhkgcpaaDoorVr
import Derived.Test.YtleckdbdhkgcpaaDoorQt
import Derived.Test.YtleckdbdhkgcpaaDoorWp
namespace Go.Idl
open Go Go.RowKit
set_option linter.unusedSimpArgs false
set_option linter.unusedVariables false
/-- The joins, row after row. -/
def tabTo (up : List Nat) (n m : Nat) : List Nat := (List.range m).map fun t => jn up (t / n) (t % n)
def u8s (l : List Nat) : List Value := l.map fun k => Value.int .u8 (k : Nat)
theorem tabTo_len (up : List Nat) (n m : Nat) : (tabTo up n m).length = m := by simp [tabTo]
theorem tabTo_succ (up : List Nat) {n a b : Nat} (hb : b < n) : tabTo up n (a * n + b + 1) = tabTo up n (a * n + b) ++ [jn up a b] := by
  unfold tabTo
  rw [List.range_succ, List.map_append]
  have h1 : (a * n + b) / n = a := by
    rw [Nat.add_comm, Nat.add_mul_div_right _ _ (by omega), Nat.div_eq_of_lt hb]; omega
  have h2 : (a * n + b) % n = b := by
    rw [Nat.add_comm, Nat.add_mul_mod_self_right, Nat.mod_eq_of_lt hb]
  simp [h1, h2]
theorem tabTo_at (up : List Nat) {n a b : Nat} (ha : a < n) (hb : b < n) : (u8s (tabTo up n (n * n)))[a * n + b]? = some (.int .u8 (jn up a b : Nat)) := by
  have hlt : a * n + b < n * n := by
    have : (a + 1) * n ≤ n * n := Nat.mul_le_mul_right _ ha
    rw [Nat.add_mul] at this
    omega
  unfold u8s tabTo
  rw [List.getElem?_map, List.getElem?_map, List.getElem?_range hlt]
  have h1 : (a * n + b) / n = a := by
    rw [Nat.add_comm, Nat.add_mul_div_right _ _ (by omega), Nat.div_eq_of_lt hb]; omega
  have h2 : (a * n + b) % n = b := by
    rw [Nat.add_comm, Nat.add_mul_mod_self_right, Nat.mod_eq_of_lt hb]
  simp [h1, h2]
end Go.Idl
namespace Go.Proofs.YtleckdbdhkgcpaaDoor
open Go.RowKit Go.Shelf Go.Idl
set_option linter.unusedSimpArgs false
set_option linter.unusedVariables false

theorem u8_info : (Tryd.prog.info? 5).map (fun i => (i.zero, i.size, i.bytes)) = some (some (.int .u8 0), 1, 1) := by kernel_rfl

/-- What table gives: its numbers, in memory of its own. -/
def TabPost (up : List Nat) (n : Nat) (w : World) (e : Ending) (w' : World) : Prop :=
  ∃ Z z, e = .returned (.agg #[.int .i64 (n : Nat), .slice Z (n * n) z]) ∧ Reads w' w'.heap.size 1 Z (n * n) (u8s (tabTo up n (n * n))) ∧ Below w.heap.size w w'

/-- What holds when m joins are laid. -/
def TabI (up : List Nat) (n m : Nat) (w wr : World) : Prop :=
  ∃ Z z, Blk wr w.heap.size 54 #[.int .i64 0, .slice none 0 0] ∧ Blk wr (w.heap.size + 1) 54 #[.int .i64 (n : Nat), .slice Z m z] ∧ wr.ownsRow w.heap.size 5 1 (.slice Z m z) m (u8s (tabTo up n m)) ∧ Below w.heap.size w wr

set_option maxHeartbeats 8000000 in
set_option maxRecDepth 100000 in
theorem table_any (A : Option Addr) (n c : Nat) (up : List Nat) (w : World) (hn : up.length = n) (hL : Lat up) (hM : Masks up) (hr : Reads w w.heap.size 1 A n (u64s up)) :
    Calls Tryd.prog 24 #[.slice A n c] w fun e w' => TabPost up n w e w' := by
  have h64 : n ≤ 64 := by rw [← hn]; exact hL.n64
  obtain ⟨i0, hi0, hz0, hz1, hz2⟩ := info_parts u8_info
  replace hr := Lib.hid hr
  replace hM := Lib.hid hM
  replace hn := Lib.hid hn
  replace hL := Lib.hid hL
  go_enter Tryd.func24, Tryd.ntmps24
  go_wp2
  go_loopw [12] (fun v wr => ∃ a : Nat, v = .int .i64 (a : Nat) ∧ a ≤ n ∧ TabI up n (a * n) w wr) (fun v wr => n - natOf v)
  case atStart =>
    refine ⟨0, rfl, by omega, none, 0, ?_, ?_, ?_, ((Below.refl _ w).alloc (Nat.le_refl _) _).alloc (by simp) _⟩
    · exact (Blk.new w _ _).alloc _
    · rw [Nat.zero_mul]
      exact Blk.new_at _ _ _ _ (by simp)
    · rw [Nat.zero_mul]
      exact World.ownsRow_nil _ _ _ _
  case round =>
    obtain ⟨a, rfl, han, hI⟩ := hrel
    by_cases ha : a < n
    · have hlt : ((a : Int) < (n : Int)) := by omega
      replace hI := Lib.hid hI
      go_wp2
      go_loopw [17] (fun v wr' => ∃ b : Nat, v = .int .i64 (b : Nat) ∧ b ≤ n ∧ TabI up n (a * n + b) w wr') (fun v wr' => n - natOf v)
      case atStart => exact ⟨0, rfl, by omega, hI.out⟩
      case round =>
        obtain ⟨b, rfl, hbn, hJ⟩ := hrel
        by_cases hb : b < n
        · have hlt2 : ((b : Int) < (n : Int)) := by omega
          have hj := hL.out.jn_is (a := a) (b := b) (by have := hn.out; omega) (by have := hn.out; omega)
          have hjn : jn up a b < n := by have := hj.lt; have := hn.out; omega
          have heq := fun k (hk : k < n) => hL.out.and_eq (a := a) (b := b) (k := k) (by have := hn.out; omega) (by have := hn.out; omega) (by have := hn.out; omega)
          replace hj := Lib.hid hj
          replace heq := Lib.hid heq
          replace hJ := Lib.hid hJ
          go_wp2
          go_loopw [6] (fun v wr'' => ∃ k : Nat, v = .int .i64 (k : Nat) ∧ k ≤ jn up a b ∧ TabI up n (a * n + b) w wr'') (fun v wr'' => n - natOf v)
          case atStart => exact ⟨0, rfl, by omega, hJ.out⟩
          case round =>
            obtain ⟨k, rfl, hkj, hK⟩ := hrel
            have hK0 := hK
            obtain ⟨Z, z, kR, kJ, ho, hB⟩ := hK
            have hkn : k < n := by omega
            have hrk := (hr.out.below hB).more hB.size
            obtain ⟨ad, hA, hbk, e1⟩ := reads_mask hn.out hrk ha
            obtain ⟨ad1, hA1, _, e2⟩ := reads_mask hn.out hrk hb
            obtain ⟨ad2, hA2, _, e3⟩ := reads_mask hn.out hrk hkn
            rw [hA] at hA1 hA2
            obtain rfl : ad = ad1 := by injection hA1
            obtain rfl : ad = ad2 := by injection hA2
            subst hA
            have hlt3 : ((k : Int) < (n : Int)) := by omega
            have hkq := heq.out k hkn
            have hand := u64_and_eq (up.getD a 0) (up.getD b 0) (hM.out a) (hM.out b)
            replace hK0 := Lib.hid hK0
            obtain ⟨j0, j1⟩ := pair_cells kJ
            replace kR := Lib.hid kR
            replace kJ := Lib.hid kJ
            replace ho := Lib.hid ho
            replace hB := Lib.hid hB
            replace hrk := Lib.hid hrk
            generalize up.getD a 0 = ma at *
            generalize up.getD b 0 = mb at *
            generalize up.getD k 0 = mk at *
            by_cases hm : ma &&& mb = mk
            · obtain rfl : k = jn up a b := hkq.1 hm
              have hne : (((ma &&& mb : Nat) : Int) != (mk : Int)) = false := by rw [hm]; simp
              replace hkq := Lib.hid hkq
              replace hm := Lib.hid hm
              have hmn : a * n + b < 4096 := by
                have h1 : a * n ≤ 63 * n := Nat.mul_le_mul_right _ (by omega)
                omega
              have hml : maxLen = 9223372036854775807 := rfl
              go_wp2
              go_quiet (fail)
              go_wp2_with (
                at_builtin
                refine wpList_append_any ((wr.drewN nq).alloc (.cells [Value.int .u8 (jn up a b : Nat)].toArray 5)) rfl _ _ 52 rfl w.heap.size 5 i0 (.int .u8 0) 1 1 Tryd.underlying52 hi0 hz0 hz1 hz2 rfl (by decide) _ (a * n + b) _ rfl (World.ownsRow.alloc (w := wr.drewN nq) ho.out _) _ _ 1 1 [.int .u8 (jn up a b : Nat)] rfl (Reads.newN (wr.drewN nq) 5 1 1 [.int .u8 (jn up a b : Nat)] rfl) (by simp [Value.oneCell']) (by rw [hml]; omega) (by omega) (Nat.le_trans hB.out.size (by simp)) ?_
                intro v' w1 ho1 hg1 hat
                obtain ⟨Z', z', rfl⟩ := ownsRow_slice ho1
                have hneJ : (Value.slice Z (a * n + b) z).ownBlock ≠ some (w.heap.size + 1) := own_blk_ne ho.out kJ.out (by decide)
                have hneR : (Value.slice Z (a * n + b) z).ownBlock ≠ some w.heap.size := own_blk_ne ho.out kR.out (by decide)
                have hsz : w.heap.size + 2 ≤ wr.heap.size := by have := kJ.out.lt; omega
                have kJ1 := ((kJ.out.drewN nq).alloc (.cells [Value.int .u8 (jn up a b : Nat)].toArray 5)).grown hg1 (fun e => hneJ e.symm)
                have kR1 := ((kR.out.drewN nq).alloc (.cells [Value.int .u8 (jn up a b : Nat)].toArray 5)).grown hg1 (fun e => hneR e.symm)
                have hB1 := ((below_drewNs hB.out nq).alloc (by simp [World.drewN]; omega) (.cells [Value.int .u8 (jn up a b : Nat)].toArray 5)).grown hg1 (by simp [World.drewN]; omega) (fun g e => ownsRow_base ho.out g e)
                obtain ⟨p0, p1⟩ := pair_cells kJ1
                have f0 := kJ1.frozen 0
                have f1 := kJ1.frozen 1
                have fin : TabI up n (a * n + b + 1) w (w1.setCell ⟨w.heap.size + 1, 1, none⟩ (.slice Z' (a * n + b + 1) z')) := by
                  refine ⟨Z', z', kR1.far (by simp) _, by simpa using kJ1.set_ 1 (.slice Z' (a * n + b + 1) z'), ?_, hB1.setCell (by simp) _⟩
                  rw [tabTo_succ up hb]
                  have e : u8s (tabTo up n (a * n + b) ++ [jn up a b]) = u8s (tabTo up n (a * n + b)) ++ [.int .u8 (jn up a b : Nat)] := by simp [u8s]
                  rw [e]
                  exact ownsRow_setCell ho1 (own_blk_ne ho1 kJ1 (by decide)) _
                replace fin := Lib.hid fin
                replace kJ1 := Lib.hid kJ1
                replace kR1 := Lib.hid kR1
                replace hB1 := Lib.hid hB1
                clear ho1 hg1 hat hneJ hneR)
              go_roundw
              case rel => exact ⟨b + 1, by go_num, by omega, fin.out⟩
              case measure => simp [natOf]; omega
            · have hkl : k < jn up a b := by
                rcases Nat.lt_or_ge k (jn up a b) with h | h
                · exact h
                · exact absurd (hkq.2 (by omega)) hm
              have hne : (((ma &&& mb : Nat) : Int) != (mk : Int)) = true := by simp; omega
              replace hkq := Lib.hid hkq
              replace hm := Lib.hid hm
              go_wp2
              go_quiet (fail)
              go_wp2
              go_roundw
              case rel => exact ⟨k + 1, by go_num, by omega, Z, z, kR.out.drewN _, kJ.out.drewN _, ho.out, below_drewNs hB.out _⟩
              case measure => simp [natOf]; omega
        · have hbe : b = n := by omega
          have hlt2 : ¬ ((b : Int) < (n : Int)) := by omega
          rw [hbe] at hJ
          replace hJ := Lib.hid hJ
          go_wp2
          go_roundw
          case rel => exact ⟨a + 1, by go_num, by omega, by rw [Nat.add_mul, Nat.one_mul]; exact hJ.out⟩
          case measure => simp [natOf]; omega
    · have hae : a = n := by omega
      have hlt : ¬ ((a : Int) < (n : Int)) := by omega
      subst hae
      obtain ⟨Z, z, kR, kJ, ho, hB⟩ := hI
      obtain ⟨j0, j1⟩ := pair_cells kJ
      obtain ⟨r0, r1⟩ := pair_cells kR
      have f0 := kR.frozen 0
      have f1 := kR.frozen 1
      obtain ⟨e0, e1⟩ := pair_cells (pair_set kR (.int .i64 (a : Nat)) (.slice Z (a * a) z))
      have fin : Reads ((wr.setCell ⟨w.heap.size, 0, none⟩ (.int .i64 (a : Nat))).setCell ⟨w.heap.size, 1, none⟩ (.slice Z (a * a) z)) ((wr.setCell ⟨w.heap.size, 0, none⟩ (.int .i64 (a : Nat))).setCell ⟨w.heap.size, 1, none⟩ (.slice Z (a * a) z)).heap.size 1 Z (a * a) (u8s (tabTo up a (a * a))) ∧
          Below w.heap.size w ((wr.setCell ⟨w.heap.size, 0, none⟩ (.int .i64 (a : Nat))).setCell ⟨w.heap.size, 1, none⟩ (.slice Z (a * a) z)) :=
        ⟨Reads.of_own (ownsRow_setCell (ownsRow_setCell ho (own_blk_ne ho kR (by decide)) _) (own_blk_ne ho kR (by decide)) _), (hB.setCell (Nat.le_refl _) _).setCell (Nat.le_refl _) _⟩
      replace fin := Lib.hid fin
      replace kR := Lib.hid kR
      replace kJ := Lib.hid kJ
      replace ho := Lib.hid ho
      replace hB := Lib.hid hB
      go_wp2
      refine bodyPost_ret (v := .agg #[.int .i64 (a : Nat), .slice Z (a * a) z]) (by simp [results, Tryd.f24, go_sem, e0, e1]) rfl ⟨Z, z, rfl, fin.out.1, fin.out.2⟩
end Go.Proofs.YtleckdbdhkgcpaaDoor
namespace Go.Idl
open Go Go.RowKit
set_option linter.unusedSimpArgs false
set_option linter.unusedVariables false
theorem valTo_snoc (up : List Nat) (c : Lb) (l : List Lb) (ns : List Nat) {t : Nat} (ht : t < ns.length) : valTo up c (ns.take (t + 1)) l = joinL up (valTo up c (ns.take t) l) (l.getD (ns.getD t 0) z0) := by
  unfold valTo
  have e : ns.getD t 0 = ns[t] := by rw [List.getD_eq_getElem?_getD, List.getElem?_eq_getElem ht]; rfl
  rw [List.take_succ_eq_append_getElem ht, List.foldl_append, e]
  rfl
theorem casts_getD (ns : List Nat) (t : Nat) : (casts ns).getD t 0 = (ns.getD t 0 : Nat) := by
  unfold casts
  rw [List.getD_eq_getElem?_getD, List.getD_eq_getElem?_getD, List.getElem?_map]
  cases ns[t]? <;> rfl
theorem castss_getD (needs : List (List Nat)) (i : Nat) : (needs.map casts).getD i [] = casts (needs.getD i []) := by
  rw [List.getD_eq_getElem?_getD, List.getD_eq_getElem?_getD, List.getElem?_map]
  cases needs[i]? <;> rfl
theorem casts_len' (W : List Nat) : (casts W).length = W.length := by simp [casts]
end Go.Idl
namespace Go.Proofs.YtleckdbdhkgcpaaDoor
open Go.RowKit Go.Shelf Go.Idl
set_option linter.unusedSimpArgs false
set_option linter.unusedVariables false

theorem jn_joinL {up : List Nat} (h : Lat up) {a b : Lb} (ha : Gd up a) (hb : Gd up b) : joinL up a b = ⟨(jn up a.lv.toNat b.lv.toNat : Nat), a.ms ||| b.ms⟩ := by
  unfold joinL
  rw [h.joinI_eq ha.lt hb.lt]

set_option maxHeartbeats 8000000 in
set_option maxRecDepth 100000 in
theorem jjoin_any (n : Nat) (up : List Nat) (Z : Option Addr) (z : Nat) (a b : Lb) (w : World) (hn : up.length = n) (hL : Lat up) (hz : Reads w w.heap.size 1 Z (n * n) (u8s (tabTo up n (n * n)))) (ha : Gd up a) (hb : Gd up b) (ham : a.ms < 2 ^ 64) (hbm : b.ms < 2 ^ 64) :
    Calls Tryd.prog 35 #[.agg #[.int .i64 (n : Nat), .slice Z (n * n) z], lbV a, lbV b] w fun e w' => e = .returned (lbV (joinL up a b)) ∧ Below w.heap.size w w' := by
  refine (callsIn_wide (n := 20)).1 ?_
  have h64 : n ≤ 64 := by rw [← hn]; exact hL.n64
  rw [jn_joinL hL ha hb]
  have e1 := ha.eq
  have e2 := hb.eq
  have l1 := ha.lt
  have l2 := hb.lt
  rw [hn] at l1 l2
  clear ha hb
  obtain ⟨av, am⟩ := a
  obtain ⟨bv, bm⟩ := b
  dsimp only at e1 e2 l1 l2 ham hbm ⊢
  generalize av.toNat = i at *
  generalize bv.toNat = j at *
  subst e1 e2
  have hat := tabTo_at up l1 l2
  have hij : i * n + j < n * n := by
    have : (i + 1) * n ≤ n * n := Nat.mul_le_mul_right _ l1
    rw [Nat.add_mul] at this
    omega
  have hnn : n * n ≤ 4096 := by
    have : n * n ≤ 64 * 64 := Nat.mul_le_mul h64 h64
    omega
  have hj64 : jn up i j < 64 := by
    have := (hL.jn_is (a := i) (b := j) (by omega) (by omega)).lt
    omega
  obtain ⟨ad, rfl, hbk, hcl⟩ := hz.2 (by omega)
  have hc := hcl _ _ hat
  obtain ⟨W0, hW0⟩ : ∃ W0, (((w.alloc (.cells #[.int .i64 (n : Nat), .slice (some ad) (n * n) z] 54)).alloc (.cells #[.int .i64 (i : Nat), .int .u64 (am : Nat)] 29)).alloc (.cells #[.int .i64 (j : Nat), .int .u64 (bm : Nat)] 29)).alloc (.cells #[.int .i64 0, .int .u64 0] 29) = W0 := ⟨_, rfl⟩
  have kj : Blk W0 w.heap.size 54 #[.int .i64 (n : Nat), .slice (some ad) (n * n) z] := by rw [← hW0]; exact (((Blk.new w _ _).alloc _).alloc _).alloc _
  have k0 : Blk W0 (w.heap.size + 1) 29 #[.int .i64 (i : Nat), .int .u64 (am : Nat)] := by rw [← hW0]; exact ((Blk.new_at _ _ _ _ (by simp)).alloc _).alloc _
  have k1 : Blk W0 (w.heap.size + 2) 29 #[.int .i64 (j : Nat), .int .u64 (bm : Nat)] := by rw [← hW0]; exact (Blk.new_at _ _ _ _ (by simp)).alloc _
  have k2 : Blk W0 (w.heap.size + 3) 29 #[.int .i64 0, .int .u64 0] := by rw [← hW0]; exact Blk.new_at _ _ _ _ (by simp)
  have hB0 : Below w.heap.size w W0 := by rw [← hW0]; exact ((((Below.refl _ w).alloc (Nat.le_refl _) _).alloc (by simp) _).alloc (by simp; omega) _).alloc (by simp; omega) _
  obtain ⟨o0, o1⟩ := pair_cells kj
  obtain ⟨p0, p1⟩ := pair_cells k0
  obtain ⟨p2, p3⟩ := pair_cells k1
  obtain ⟨p4, p5⟩ := pair_cells k2
  have f4 := k2.frozen 0
  have f5 := k2.frozen 1
  have hor := u64_or_eq am bm ham hbm
  have q0 : W0.cell? (ad.add (i * n + j)) = some (.int .u8 (jn up i j : Nat)) := (hB0.cell (by rw [block_of_add]; exact hbk)).trans hc
  generalize jn up i j = v at *
  have b0 : ((0 : Int) ≤ (i : Int) * (n : Int) + (j : Int)) := by
    have : ((i * n + j : Nat) : Int) = (i : Int) * (n : Int) + (j : Int) := by push_cast; rfl
    omega
  obtain ⟨x, hx⟩ : ∃ x, x = i * n + j := ⟨_, rfl⟩
  have hxe : (i : Int) * (n : Int) + (j : Int) = (x : Int) := by rw [hx]; push_cast; rfl
  rw [← hx] at q0 hij
  obtain ⟨N, hN⟩ : ∃ N, N = n * n := ⟨_, rfl⟩
  rw [← hN] at hij o1 hnn
  have hlt0 : ((0 : Int) ≤ (x : Int)) := by omega
  have hlt1 : ((x : Int) < (N : Int)) := by omega
  have hmul : (i : Int) * (n : Int) ≤ 4096 ∧ 0 ≤ (i : Int) * (n : Int) := by
    have h1 : i * n ≤ 4096 := by omega
    have h2 : ((i * n : Nat) : Int) = (i : Int) * (n : Int) := by push_cast; rfl
    omega
  obtain ⟨hm1, hm0⟩ := hmul
  replace hN := Lib.hid hN
  replace hx := Lib.hid hx
  replace kj := Lib.hid kj
  replace k0 := Lib.hid k0
  replace k1 := Lib.hid k1
  replace k2 := Lib.hid k2
  replace hB0 := Lib.hid hB0
  replace hz := Lib.hid hz
  replace hn := Lib.hid hn
  replace hL := Lib.hid hL
  clear hat hc hcl b0
  refine callsIn_of_wp Tryd.func35 rfl trivial ?_ rfl
  simp only [Tryd.ntmps35, List.size_toArray, List.length_cons, List.length_nil, Nat.reduceAdd, Nat.reduceSub, Array.replicate_succ, Array.replicate_zero, List.push_toArray, List.append_toArray, List.nil_append, List.cons_append]
  gi_wp2
  (refine wpIn_region_quiet_tail 19 (by kernel_rfl) (by kernel_rfl) ?_; simp only [List.take_succ_cons, List.take_zero, List.drop_succ_cons, List.drop_zero]; (repeat (first | gi_big_quiet_step (fail) | (refine wpQuietIn_pass (fun _ _ _ _ => trivial) (by rfl) rfl ?_; simp only [List.setIfInBounds_toArray, List.set_cons_succ, List.set_cons_zero]) | (refine wpQuietIn_step (fun _ _ _ _ => trivial) ?_; intro K hK; refine Eq.mpr (if_pos (by rfl)) ?_; gi_big_quiet_op; gi_big_quiet_call ((fail))))); refine wpQuietIn_nil ?_; intro _ hw'; obtain ⟨nq, hw''⟩ := hw'; subst hw'')
  gi_wp2
  obtain ⟨e0, e1⟩ := pair_cells (pair_set (k2.out.drewN nq) (.int .i64 (v : Nat)) (.int .u64 ((am ||| bm : Nat) : Int)))
  exact bodyPost_ret (v := .agg #[.int .i64 (v : Nat), .int .u64 ((am ||| bm : Nat) : Int)]) (by simp [results, Tryd.f35, go_sem, e0, e1]) rfl ⟨rfl, ((below_drewNs hB0.out nq).setCell (by simp; omega) _).setCell (by simp; omega) _⟩

/-- What stands while a value is made. -/
structure ValB (w : World) (q : Nat) (jv sv : Array Value) (x : Lb) (wr : World) : Prop where
  kj : Blk wr w.heap.size 54 jv
  ks : Blk wr (w.heap.size + 1) 26 sv
  kr : Blk wr (w.heap.size + 2) 29 #[.int .i64 0, .int .u64 0]
  kv : Blk wr q 29 (lbC x)
  below : Below w.heap.size w wr
theorem ValB.drewN {w wr : World} {q : Nat} {jv sv : Array Value} {x : Lb} (h : ValB w q jv sv x wr) (n : Nat) : ValB w q jv sv x (wr.drewN n) := ⟨h.kj, h.ks, h.kr, h.kv, below_drewNs h.below n⟩
theorem ValB.more {w wr w2 : World} {q : Nat} {jv sv : Array Value} {x : Lb} (h : ValB w q jv sv x wr) (hb : Below wr.heap.size wr w2) : ValB w q jv sv x w2 :=
  ⟨h.kj.below hb h.kj.lt, h.ks.below hb h.ks.lt, h.kr.below hb h.kr.lt, h.kv.below hb h.kv.lt, h.below.trans (hb.mono h.below.size)⟩
theorem ValB.set_ {w wr : World} {q : Nat} {jv sv : Array Value} {x : Lb} (h : ValB w q jv sv x wr) (hq : w.heap.size + 2 < q) (y : Lb) : ValB w q jv sv y ((wr.setCell ⟨q, 0, none⟩ (.int .i64 y.lv)).setCell ⟨q, 1, none⟩ (.int .u64 (y.ms : Nat))) :=
  ⟨(h.kj.far (by simp; omega) _).far (by simp; omega) _, (h.ks.far (by simp; omega) _).far (by simp; omega) _, (h.kr.far (by simp; omega) _).far (by simp; omega) _, pair_set h.kv _ _, (h.below.setCell (by simp; omega) _).setCell (by simp; omega) _⟩

set_option maxHeartbeats 8000000 in
set_option maxRecDepth 100000 in
theorem value_any (n : Nat) (up : List Nat) (Z : Option Addr) (z : Nat) (C D L : Option Addr) (l lc m mc lL : Nat) (consts : List Lb) (needs : List (List Nat)) (lbs : List Lb) (i : Nat) (w : World) (hn : up.length = n) (hz : Reads w w.heap.size 1 Z (n * n) (u8s (tabTo up n (n * n))))
    (hS : Idl.Sys up consts needs) (hcm : ∀ k, k < consts.length → (consts.getD k z0).ms < 2 ^ 64) (hl : consts.length = l) (hl63 : l ≤ maxLen) (hc : Reads w w.heap.size 2 C l (lbVals consts)) (hd : NRows w w.heap.size D m (needs.map casts))
    (hLb : Lbs up l lbs) (hLm : ∀ k, k < l → (lbs.getD k z0).ms < 2 ^ 64) (hL : Reads w w.heap.size 2 L l (lbVals lbs)) (hi : i < l) :
    Calls Tryd.prog 30 #[.agg #[.int .i64 (n : Nat), .slice Z (n * n) z], .agg #[.slice C l lc, .slice D m mc], .slice L l lL, .int .i64 (i : Nat)] w fun e w' => e = .returned (lbV (valF up consts needs lbs i)) ∧ Below w.heap.size w w' := by
  refine (callsIn_wide (n := 20)).1 ?_
  have hml : maxLen = 9223372036854775807 := rfl
  rw [hml] at hl63
  have hm : m = l := by have := hd.1; rw [List.length_map, hS.len] at this; omega
  subst hm
  obtain ⟨ad, hC, hbk, e0, e1⟩ := reads_label hl hc hi
  obtain ⟨ad2, A2, c2, hD, hbk2, e2, l1, l2, hrow⟩ := hd.at_ hi
  rw [castss_getD, casts_len'] at e2 l1 hrow
  change w.cell? (ad.add (i * 2)) = some (Value.int .i64 (consts.getD i z0).lv) at e0
  change _ = some (Value.int .u64 ((consts.getD i z0).ms : Nat)) at e1
  have hgc := hS.gd i (by omega)
  have hmc := hcm i (by omega)
  have hnd := hS.nd i (by omega)
  rw [hl] at hnd
  have hval : valF up consts needs lbs i = valTo up (consts.getD i z0) (needs.getD i []) lbs := rfl
  rw [hval]
  generalize consts.getD i z0 = cl at *
  generalize needs.getD i [] = ns at *
  obtain ⟨lv, ms⟩ := cl
  dsimp only at e0 e1 hmc
  subst hC hD
  obtain ⟨W0, hW0⟩ : ∃ W0, (((w.alloc (.cells #[.int .i64 (n : Nat), .slice Z (n * n) z] 54)).alloc (.cells #[.slice (some ad) m lc, .slice (some ad2) m mc] 26)).alloc (.cells #[.int .i64 0, .int .u64 0] 29)) = W0 := ⟨_, rfl⟩
  obtain ⟨W1, hW1⟩ : ∃ W1, W0.alloc (.cells #[.int .i64 lv, .int .u64 (ms : Nat)] 29) = W1 := ⟨_, rfl⟩
  have s0 : W0.heap.size = w.heap.size + 3 := by rw [← hW0]; simp
  have s1 : W1.heap.size = w.heap.size + 4 := by rw [← hW1]; simp [s0]
  have b0 : Below w.heap.size w W0 := by rw [← hW0]; exact (((Below.refl _ w).alloc (Nat.le_refl _) _).alloc (by simp) _).alloc (by simp; omega) _
  have b01 : Below W0.heap.size W0 W1 := by rw [← hW1]; exact (Below.refl _ W0).alloc (Nat.le_refl _) _
  have b1 : Below w.heap.size w W1 := b0.trans (b01.mono b0.size)
  have ks0 : Blk W0 (w.heap.size + 1) 26 #[.slice (some ad) m lc, .slice (some ad2) m mc] := by rw [← hW0]; exact (Blk.new_at _ _ _ _ (by simp)).alloc _
  have kj : Blk W1 w.heap.size 54 #[.int .i64 (n : Nat), .slice Z (n * n) z] := by rw [← hW1, ← hW0]; exact (((Blk.new w _ _).alloc _).alloc _).alloc _
  have ks : Blk W1 (w.heap.size + 1) 26 #[.slice (some ad) m lc, .slice (some ad2) m mc] := ks0.below b01 ks0.lt
  have kr : Blk W1 (w.heap.size + 2) 29 #[.int .i64 0, .int .u64 0] := by rw [← hW1, ← hW0]; exact (Blk.new_at _ _ _ _ (by simp)).alloc _
  have kv : Blk W1 W0.heap.size 29 #[.int .i64 lv, .int .u64 (ms : Nat)] := by rw [← hW1]; exact Blk.new W0 _ _
  obtain ⟨t0, t1⟩ := pair_cells ks0
  obtain ⟨t2, t3⟩ := pair_cells ks
  have e0' := (b0.cell (p := ad.add (i * 2)) (by rw [block_of_add]; exact hbk)).trans e0
  have e1' := (b0.cell (p := ⟨(ad.add (i * 2)).block, (ad.add (i * 2)).off + 1, none⟩) (show (ad.add (i * 2)).block < _ by rw [block_of_add]; exact hbk)).trans e1
  have e2' := (b1.cell (p := ad2.add i) (by rw [block_of_add]; exact hbk2)).trans e2
  have hlt0 : ((i : Int) < (m : Int)) := by omega
  obtain ⟨NN, hNN⟩ : ∃ NN, NN = ns.length := ⟨_, rfl⟩
  rw [← hNN] at e2 e2' l1 hrow
  rw [hml] at l2
  replace hNN := Lib.hid hNN
  have hrow1 := Lib.hid (hrow.below b1)
  have hL1 := Lib.hid (hL.below b1)
  have hz1 := Lib.hid (hz.below b1)
  replace hz := Lib.hid hz
  replace hS := Lib.hid hS
  replace hn := Lib.hid hn
  replace hl := Lib.hid hl
  replace hcm := Lib.hid hcm
  replace hc := Lib.hid hc
  replace hd := Lib.hid hd
  replace hLb := Lib.hid hLb
  replace hLm := Lib.hid hLm
  replace hL := Lib.hid hL
  replace hrow := Lib.hid hrow
  replace hgc := Lib.hid hgc
  replace hmc := Lib.hid hmc
  replace hnd := Lib.hid hnd
  replace kj := Lib.hid kj
  replace ks := Lib.hid ks
  replace kr := Lib.hid kr
  replace kv := Lib.hid kv
  replace ks0 := Lib.hid ks0
  replace b0 := Lib.hid b0
  replace b01 := Lib.hid b01
  replace b1 := Lib.hid b1
  replace s0 := Lib.hid s0
  clear hval e0 e1 e2
  refine callsIn_of_wp Tryd.func30 rfl trivial ?_ rfl
  simp only [Tryd.ntmps30, List.size_toArray, List.length_cons, List.length_nil, Nat.reduceAdd, Nat.reduceSub, Array.replicate_succ, Array.replicate_zero, List.push_toArray, List.append_toArray, List.nil_append, List.cons_append]
  gi_wp2
  have hq3 : w.heap.size + 2 < W0.heap.size := by have := s0.out; omega
  have hstart : ValB w W0.heap.size #[.int .i64 (n : Nat), .slice Z (n * n) z] #[.slice (some ad) m lc, .slice (some ad2) m mc] ⟨lv, ms⟩ W1 := ⟨kj.out, ks.out, kr.out, kv.out, b1.out⟩
  replace hstart := Lib.hid hstart
  replace hq3 := Lib.hid hq3
  have hvg := fun (t : Nat) => valTo_gd hS.out.lat (n := m) hLb.out (ns.take t) ⟨lv, ms⟩ hgc.out (fun k hk => hnd.out k (List.mem_of_mem_take hk))
  have hvm := fun (t : Nat) => valTo_ms (up := up) (l := lbs) (ns.take t) ⟨lv, ms⟩ hmc.out (fun k hk => hLm.out k (hnd.out k (List.mem_of_mem_take hk)))
  replace hvg := Lib.hid hvg
  replace hvm := Lib.hid hvm
  generalize W0.heap.size = Q at *
  gi_loopw [23] (fun v wr => ∃ t : Nat, v = .int .i64 (t : Nat) ∧ t ≤ NN ∧ ValB w Q #[.int .i64 (n : Nat), .slice Z (n * n) z] #[.slice (some ad) m lc, .slice (some ad2) m mc] (valTo up ⟨lv, ms⟩ (ns.take t) lbs) wr) (fun v wr => NN - natOf v)
  case atStart => exact ⟨0, rfl, by omega, hstart.out⟩
  case round =>
    obtain ⟨t, rfl, htN, hV⟩ := hrel
    by_cases ht : t < NN
    · have hlt : ((t : Int) < (NN : Int)) := by omega
      have htl : t < ns.length := by have := hNN.out; omega
      have hsn := valTo_snoc up ⟨lv, ms⟩ lbs ns htl
      obtain ⟨ad3, hA2, hbk3, hcl⟩ := (hrow.out.below hV.below).2 (by omega)
      subst hA2
      have u0 := hcl t _ (nums_at (by rw [casts_len']; exact htl))
      rw [casts_getD] at u0
      have hkm : ns.getD t 0 < m := hnd.out _ (by rw [List.getD_eq_getElem?_getD, List.getElem?_eq_getElem htl]; exact List.getElem_mem htl)
      have hlen := hLb.out.len
      obtain ⟨ad4, hLe, hbk4, x0, x1⟩ := reads_label hlen (hL.out.below hV.below |>.more hV.below.size) hkm
      subst hLe
      change wr.cell? (ad4.add (ns.getD t 0 * 2)) = some (Value.int .i64 (lbs.getD (ns.getD t 0) z0).lv) at x0
      change _ = some (Value.int .u64 ((lbs.getD (ns.getD t 0) z0).ms : Nat)) at x1
      have hgx := hLb.out.gd _ hkm
      have hmx := hLm.out _ hkm
      have hgv := hvg.out t
      have hmv := hvm.out t
      generalize ns.getD t 0 = k at *
      generalize lbs.getD k z0 = lx at *
      generalize valTo up ⟨lv, ms⟩ (ns.take t) lbs = vx at *
      have hlt2 : ((k : Int) < (m : Int)) := by omega
      have hJ := fun q => jjoin_any n up Z z vx lx (wr.drewN q) hn.out hS.out.lat (((hz.out.below hV.below).more hV.below.size).drewN q) hgv hgx hmv hmx
      obtain ⟨v0, v1⟩ := pair_cells hV.kv
      obtain ⟨j0, j1⟩ := pair_cells hV.kj
      replace hV := Lib.hid hV
      replace hJ := Lib.hid hJ
      replace hsn := Lib.hid hsn
      replace hcl := Lib.hid hcl
      replace hgx := Lib.hid hgx
      replace hgv := Lib.hid hgv
      gi_wp2
      (refine wpIn_region_quiet_tail 6 (by kernel_rfl) (by kernel_rfl) ?_; simp only [List.take_succ_cons, List.take_zero, List.drop_succ_cons, List.drop_zero]; (repeat (first | gi_big_quiet_step (fail) | (refine wpQuietIn_pass (fun _ _ _ _ => trivial) (by rfl) rfl ?_; simp only [List.setIfInBounds_toArray, List.set_cons_succ, List.set_cons_zero]) | (refine wpQuietIn_step (fun _ _ _ _ => trivial) ?_; intro K hK; refine Eq.mpr (if_pos (by rfl)) ?_; gi_big_quiet_op; gi_big_quiet_call ((fail))))); refine wpQuietIn_nil ?_; intro _ hw'; obtain ⟨nq, hw''⟩ := hw'; subst hw'')
      have hVq := hV.out.drewN nq
      gi_wp2_with (refine ⟨trivial, ?_⟩; gi_at_call 35; refine (callsIn_wide.2 (hJ.out nq)).mono ?_; rintro e w3 ⟨rfl, hb3⟩; have k3 := hVq.more hb3; obtain ⟨q4, q5⟩ := pair_cells k3.kv; have f4 := k3.kv.frozen 0; have f5 := k3.kv.frozen 1; replace k3 := Lib.hid k3; clear hb3)
      go_roundw
      case rel => exact ⟨t + 1, by go_num, by omega, by rw [hsn.out]; exact k3.out.set_ hq3.out _⟩
      case measure => simp [natOf]; omega
    · have hte : t = NN := by omega
      have hlt : ¬ ((t : Int) < (NN : Int)) := by omega
      have htk : ns.take t = ns := List.take_of_length_le (by have := hNN.out; omega)
      rw [htk] at hV
      generalize hvx : valTo up ⟨lv, ms⟩ ns lbs = vx at *
      replace hvx := Lib.hid hvx
      obtain ⟨v0, v1⟩ := pair_cells hV.kv
      obtain ⟨r0, r1⟩ := pair_cells hV.kr
      have f0 := hV.kr.frozen 0
      have f1 := hV.kr.frozen 1
      obtain ⟨e0, e1⟩ := pair_cells (pair_set hV.kr (.int .i64 vx.lv) (.int .u64 (vx.ms : Nat)))
      have hfin : Below w.heap.size w ((wr.setCell ⟨w.heap.size + 2, 0, none⟩ (.int .i64 vx.lv)).setCell ⟨w.heap.size + 2, 1, none⟩ (.int .u64 (vx.ms : Nat))) := (hV.below.setCell (by simp) _).setCell (by simp) _
      replace hfin := Lib.hid hfin
      replace hV := Lib.hid hV
      gi_wp2
      exact bodyPost_ret (v := lbV vx) (by simp [results, Tryd.f30, go_sem, e0, e1]) rfl ⟨by rw [hvx.out], hfin.out⟩
end Go.Proofs.YtleckdbdhkgcpaaDoor
