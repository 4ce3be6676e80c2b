/- solve.table: a lattice's joins, ready. -/
import Derived.Test.YtleckdbdhkgcpaaDoorVr
namespace Go.Idl
open Go Go.RowKit
/-- The joins, row after row. -/
def tabTo (up : List Nat) (n m : Nat) : List Nat := (List.range m).map fun t => jn up (t / n) (t % n)
def u8s (l : List Nat) : List Value := l.map fun k => Value.int .u8 (k : Nat)
theorem tabTo_len (up : List Nat) (n m : Nat) : (tabTo up n m).length = m := by simp [tabTo]
theorem tabTo_succ (up : List Nat) {n a b : Nat} (hb : b < n) : tabTo up n (a * n + b + 1) = tabTo up n (a * n + b) ++ [jn up a b] := by
  unfold tabTo
  rw [List.range_succ, List.map_append]
  have h1 : (a * n + b) / n = a := by
    rw [Nat.add_comm, Nat.add_mul_div_right _ _ (by omega), Nat.div_eq_of_lt hb]; omega
  have h2 : (a * n + b) % n = b := by
    rw [Nat.add_comm, Nat.add_mul_mod_self_right, Nat.mod_eq_of_lt hb]
  simp [h1, h2]
theorem tabTo_at (up : List Nat) {n a b : Nat} (ha : a < n) (hb : b < n) : (u8s (tabTo up n (n * n)))[a * n + b]? = some (.int .u8 (jn up a b : Nat)) := by
  have hlt : a * n + b < n * n := by
    have : (a + 1) * n ≤ n * n := Nat.mul_le_mul_right _ ha
    rw [Nat.add_mul] at this
    omega
  unfold u8s tabTo
  rw [List.getElem?_map, List.getElem?_map, List.getElem?_range hlt]
  have h1 : (a * n + b) / n = a := by
    rw [Nat.add_comm, Nat.add_mul_div_right _ _ (by omega), Nat.div_eq_of_lt hb]; omega
  have h2 : (a * n + b) % n = b := by
    rw [Nat.add_comm, Nat.add_mul_mod_self_right, Nat.mod_eq_of_lt hb]
  simp [h1, h2]
end Go.Idl
namespace Go.Proofs.YtleckdbdhkgcpaaDoor
open Go.RowKit Go.Shelf Go.Idl

theorem u8_info : (Tryd.prog.info? 5).map (fun i => (i.zero, i.size, i.bytes)) = some (some (.int .u8 0), 1, 1) := by kernel_rfl

/-- What table gives: its numbers, in memory of its own. -/
def TabPost (up : List Nat) (n : Nat) (w : World) (e : Ending) (w' : World) : Prop :=
  ∃ Z z, e = .returned (.agg #[.int .i64 (n : Nat), .slice Z (n * n) z]) ∧ Reads w' w'.heap.size 1 Z (n * n) (u8s (tabTo up n (n * n))) ∧ Below w.heap.size w w'

/-- What holds when m joins are laid. -/
def TabI (up : List Nat) (n m : Nat) (w wr : World) : Prop :=
  ∃ Z z, Blk wr w.heap.size 54 #[.int .i64 0, .slice none 0 0] ∧ Blk wr (w.heap.size + 1) 54 #[.int .i64 (n : Nat), .slice Z m z] ∧ wr.ownsRow w.heap.size 5 1 (.slice Z m z) m (u8s (tabTo up n m)) ∧ Below w.heap.size w wr

set_option maxHeartbeats 8000000 in
set_option maxRecDepth 100000 in
theorem table_any (A : Option Addr) (n c : Nat) (up : List Nat) (w : World) (hn : up.length = n) (hL : Lat up) (hM : Masks up) (hr : Reads w w.heap.size 1 A n (u64s up)) :
    Calls Tryd.prog 24 #[.slice A n c] w fun e w' => TabPost up n w e w' := by
  have h64 : n ≤ 64 := by rw [← hn]; exact hL.n64
  obtain ⟨i0, hi0, hz0, hz1, hz2⟩ := info_parts u8_info
  replace hr := Lib.hid hr
  replace hM := Lib.hid hM
  replace hn := Lib.hid hn
  replace hL := Lib.hid hL
  go_enter Tryd.func24, Tryd.ntmps24
  go_wp2
  go_loopw [12] (fun v wr => ∃ a : Nat, v = .int .i64 (a : Nat) ∧ a ≤ n ∧ TabI up n (a * n) w wr) (fun v wr => n - natOf v)
  case atStart =>
    refine ⟨0, rfl, by omega, none, 0, ?_, ?_, ?_, ((Below.refl _ w).alloc (Nat.le_refl _) _).alloc (by simp) _⟩
    · exact (Blk.new w _ _).alloc _
    · rw [Nat.zero_mul]
      exact Blk.new_at _ _ _ _ (by simp)
    · rw [Nat.zero_mul]
      exact World.ownsRow_nil _ _ _ _
  case round =>
    obtain ⟨a, rfl, han, hI⟩ := hrel
    by_cases ha : a < n
    · have hlt : ((a : Int) < (n : Int)) := by omega
      replace hI := Lib.hid hI
      go_wp2
      go_loopw [17] (fun v wr' => ∃ b : Nat, v = .int .i64 (b : Nat) ∧ b ≤ n ∧ TabI up n (a * n + b) w wr') (fun v wr' => n - natOf v)
      case atStart => exact ⟨0, rfl, by omega, hI.out⟩
      case round =>
        obtain ⟨b, rfl, hbn, hJ⟩ := hrel
        by_cases hb : b < n
        · have hlt2 : ((b : Int) < (n : Int)) := by omega
          have hj := hL.out.jn_is (a := a) (b := b) (by have := hn.out; omega) (by have := hn.out; omega)
          have hjn : jn up a b < n := by have := hj.lt; have := hn.out; omega
          have heq := fun k (hk : k < n) => hL.out.and_eq (a := a) (b := b) (k := k) (by have := hn.out; omega) (by have := hn.out; omega) (by have := hn.out; omega)
          replace hj := Lib.hid hj
          replace heq := Lib.hid heq
          replace hJ := Lib.hid hJ
          go_wp2
          go_loopw [6] (fun v wr'' => ∃ k : Nat, v = .int .i64 (k : Nat) ∧ k ≤ jn up a b ∧ TabI up n (a * n + b) w wr'') (fun v wr'' => n - natOf v)
          case atStart => exact ⟨0, rfl, by omega, hJ.out⟩
          case round =>
            obtain ⟨k, rfl, hkj, hK⟩ := hrel
            have hK0 := hK
            obtain ⟨Z, z, kR, kJ, ho, hB⟩ := hK
            have hkn : k < n := by omega
            have hrk := (hr.out.below hB).more hB.size
            obtain ⟨ad, hA, hbk, e1⟩ := reads_mask hn.out hrk ha
            obtain ⟨ad1, hA1, _, e2⟩ := reads_mask hn.out hrk hb
            obtain ⟨ad2, hA2, _, e3⟩ := reads_mask hn.out hrk hkn
            rw [hA] at hA1 hA2
            obtain rfl : ad = ad1 := by injection hA1
            obtain rfl : ad = ad2 := by injection hA2
            subst hA
            have hlt3 : ((k : Int) < (n : Int)) := by omega
            have hkq := heq.out k hkn
            have hand := u64_and_eq (up.getD a 0) (up.getD b 0) (hM.out a) (hM.out b)
            replace hK0 := Lib.hid hK0
            obtain ⟨j0, j1⟩ := pair_cells kJ
            replace kR := Lib.hid kR
            replace kJ := Lib.hid kJ
            replace ho := Lib.hid ho
            replace hB := Lib.hid hB
            replace hrk := Lib.hid hrk
            generalize up.getD a 0 = ma at *
            generalize up.getD b 0 = mb at *
            generalize up.getD k 0 = mk at *
            by_cases hm : ma &&& mb = mk
            · obtain rfl : k = jn up a b := hkq.1 hm
              have hne : (((ma &&& mb : Nat) : Int) != (mk : Int)) = false := by rw [hm]; simp
              replace hkq := Lib.hid hkq
              replace hm := Lib.hid hm
              have hmn : a * n + b < 4096 := by
                have h1 : a * n ≤ 63 * n := Nat.mul_le_mul_right _ (by omega)
                omega
              have hml : maxLen = 9223372036854775807 := rfl
              go_wp2
              go_quiet (fail)
              go_wp2_with (
                at_builtin
                refine wpList_append_any ((wr.drewN nq).alloc (.cells [Value.int .u8 (jn up a b : Nat)].toArray 5)) rfl _ _ 52 rfl w.heap.size 5 i0 (.int .u8 0) 1 1 Tryd.underlying52 hi0 hz0 hz1 hz2 rfl (by decide) _ (a * n + b) _ rfl (World.ownsRow.alloc (w := wr.drewN nq) ho.out _) _ _ 1 1 [.int .u8 (jn up a b : Nat)] rfl (Reads.newN (wr.drewN nq) 5 1 1 [.int .u8 (jn up a b : Nat)] rfl) (by simp [Value.oneCell']) (by rw [hml]; omega) (by omega) (Nat.le_trans hB.out.size (by simp)) ?_
                intro v' w1 ho1 hg1 hat
                obtain ⟨Z', z', rfl⟩ := ownsRow_slice ho1
                have hneJ : (Value.slice Z (a * n + b) z).ownBlock ≠ some (w.heap.size + 1) := own_blk_ne ho.out kJ.out (by decide)
                have hneR : (Value.slice Z (a * n + b) z).ownBlock ≠ some w.heap.size := own_blk_ne ho.out kR.out (by decide)
                have hsz : w.heap.size + 2 ≤ wr.heap.size := by have := kJ.out.lt; omega
                have kJ1 := ((kJ.out.drewN nq).alloc (.cells [Value.int .u8 (jn up a b : Nat)].toArray 5)).grown hg1 (fun e => hneJ e.symm)
                have kR1 := ((kR.out.drewN nq).alloc (.cells [Value.int .u8 (jn up a b : Nat)].toArray 5)).grown hg1 (fun e => hneR e.symm)
                have hB1 := ((below_drewNs hB.out nq).alloc (by simp [World.drewN]; omega) (.cells [Value.int .u8 (jn up a b : Nat)].toArray 5)).grown hg1 (by simp [World.drewN]; omega) (fun g e => ownsRow_base ho.out g e)
                obtain ⟨p0, p1⟩ := pair_cells kJ1
                have f0 := kJ1.frozen 0
                have f1 := kJ1.frozen 1
                have fin : TabI up n (a * n + b + 1) w (w1.setCell ⟨w.heap.size + 1, 1, none⟩ (.slice Z' (a * n + b + 1) z')) := by
                  refine ⟨Z', z', kR1.far (by simp) _, by simpa using kJ1.set_ 1 (.slice Z' (a * n + b + 1) z'), ?_, hB1.setCell (by simp) _⟩
                  rw [tabTo_succ up hb]
                  have e : u8s (tabTo up n (a * n + b) ++ [jn up a b]) = u8s (tabTo up n (a * n + b)) ++ [.int .u8 (jn up a b : Nat)] := by simp [u8s]
                  rw [e]
                  exact ownsRow_setCell ho1 (own_blk_ne ho1 kJ1 (by decide)) _
                replace fin := Lib.hid fin
                replace kJ1 := Lib.hid kJ1
                replace kR1 := Lib.hid kR1
                replace hB1 := Lib.hid hB1
                clear ho1 hg1 hat hneJ hneR)
              go_roundw
              case rel => exact ⟨b + 1, by go_num, by omega, fin.out⟩
              case measure => simp [natOf]; omega
            · have hkl : k < jn up a b := by
                rcases Nat.lt_or_ge k (jn up a b) with h | h
                · exact h
                · exact absurd (hkq.2 (by omega)) hm
              have hne : (((ma &&& mb : Nat) : Int) != (mk : Int)) = true := by simp; omega
              replace hkq := Lib.hid hkq
              replace hm := Lib.hid hm
              go_wp2
              go_quiet (fail)
              go_wp2
              go_roundw
              case rel => exact ⟨k + 1, by go_num, by omega, Z, z, kR.out.drewN _, kJ.out.drewN _, ho.out, below_drewNs hB.out _⟩
              case measure => simp [natOf]; omega
        · have hbe : b = n := by omega
          have hlt2 : ¬ ((b : Int) < (n : Int)) := by omega
          rw [hbe] at hJ
          replace hJ := Lib.hid hJ
          go_wp2
          go_roundw
          case rel => exact ⟨a + 1, by go_num, by omega, by rw [Nat.add_mul, Nat.one_mul]; exact hJ.out⟩
          case measure => simp [natOf]; omega
    · have hae : a = n := by omega
      have hlt : ¬ ((a : Int) < (n : Int)) := by omega
      subst hae
      obtain ⟨Z, z, kR, kJ, ho, hB⟩ := hI
      obtain ⟨j0, j1⟩ := pair_cells kJ
      obtain ⟨r0, r1⟩ := pair_cells kR
      have f0 := kR.frozen 0
      have f1 := kR.frozen 1
      obtain ⟨e0, e1⟩ := pair_cells (pair_set kR (.int .i64 (a : Nat)) (.slice Z (a * a) z))
      have fin : Reads ((wr.setCell ⟨w.heap.size, 0, none⟩ (.int .i64 (a : Nat))).setCell ⟨w.heap.size, 1, none⟩ (.slice Z (a * a) z)) ((wr.setCell ⟨w.heap.size, 0, none⟩ (.int .i64 (a : Nat))).setCell ⟨w.heap.size, 1, none⟩ (.slice Z (a * a) z)).heap.size 1 Z (a * a) (u8s (tabTo up a (a * a))) ∧
          Below w.heap.size w ((wr.setCell ⟨w.heap.size, 0, none⟩ (.int .i64 (a : Nat))).setCell ⟨w.heap.size, 1, none⟩ (.slice Z (a * a) z)) :=
        ⟨Reads.of_own (ownsRow_setCell (ownsRow_setCell ho (own_blk_ne ho kR (by decide)) _) (own_blk_ne ho kR (by decide)) _), (hB.setCell (Nat.le_refl _) _).setCell (Nat.le_refl _) _⟩
      replace fin := Lib.hid fin
      replace kR := Lib.hid kR
      replace kJ := Lib.hid kJ
      replace ho := Lib.hid ho
      replace hB := Lib.hid hB
      go_wp2
      refine bodyPost_ret (v := .agg #[.int .i64 (a : Nat), .slice Z (a * a) z]) (by simp [results, Tryd.f24, go_sem, e0, e1]) rfl ⟨Z, z, rfl, fin.out.1, fin.out.2⟩
end Go.Proofs.YtleckdbdhkgcpaaDoor
