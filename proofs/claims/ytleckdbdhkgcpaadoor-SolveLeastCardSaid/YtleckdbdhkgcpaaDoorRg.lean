/- The reference's Height. -/
import Derived.Test.YtleckdbdhkgcpaaDoorRj
import Derived.Test.YtleckdbdhkgcpaaDoorPg
import Derived.Test.YtleckdbdhkgcpaaDoorHe
import Derived.Test.YtleckdbdhkgcpaaDoorRr
namespace Go.Proofs.YtleckdbdhkgcpaaDoor
open Go.RowKit Go.Shelf Go.Idl

theorem quiet_plainB {P : Program} {f : FuncId} {args : Array Value} {w : World} {n : Nat} {v : Value}
    (h : Calls P f args (w.drewN n) fun e w' => e = .returned v ∧ w.drewN n = w') : Calls P f args (w.drewN n) fun e w'' => e = .returned v ∧ ∃ m, w'' = w.drewN m :=
  h.mono fun _ _ ⟨he, hm⟩ => ⟨he, n, hm.symm⟩

set_option maxHeartbeats 8000000 in
set_option maxRecDepth 100000 in
theorem rheight_any (A : Option Addr) (n c : Nat) (up : List Nat) (w : World) (hn : up.length = n) (hM : Masks up) (hO : Idl.Ord up) (hr : Reads w w.heap.size 1 A n (u64s up)) :
    Calls Tryd.prog 22 #[.slice A n c] w fun e w' => e = .returned (.int .i64 (heightN up : Nat)) ∧ Below w.heap.size w w' := by
  have h64 : n ≤ 64 := by rw [← hn]; exact hO.n64
  obtain ⟨i0, hi0, hz0, hz1, hz2⟩ := info_parts int_info
  have hmk := fun W => run_make_rowN (P := Tryd.prog) 40 3 i0 (.int .i64 0) Tryd.underlying40 hi0 hz0 .i64 .i64 n n (Nat.le_refl _) (by rw [hz2]; omega) (by omega) W
  replace hr := Lib.hid hr
  replace hM := Lib.hid hM
  replace hn := Lib.hid hn
  replace hO := Lib.hid hO
  go_enter Tryd.func22, Tryd.ntmps22
  go_wp2
  go_loopw [4] (fun v wr => ∃ (r : Nat) (L : List Nat), v = .int .i64 (r : Nat) ∧ r ≤ n ∧ Blk wr w.heap.size 3 (i64s L).toArray ∧ Swept up r L ∧ Below w.heap.size w wr) (fun v wr => n - natOf v)
  case atStart =>
    refine ⟨0, List.replicate up.length 0, rfl, by omega, ?_, Swept.zero up, (Below.refl _ w).alloc (Nat.le_refl _) _⟩
    rw [hn.out, made_i64]
    exact Blk.new_at w _ _ _ rfl
  case round =>
    obtain ⟨r, L, rfl, hrn, hb, hsw, hB⟩ := hrel
    by_cases hlt0 : r < n
    · have hlt : ((r : Int) < (n : Int)) := by omega
      have hst := hsw.start
      replace hb := Lib.hid hb
      replace hsw := Lib.hid hsw
      replace hst := Lib.hid hst
      replace hB := Lib.hid hB
      go_wp2
      go_loopw [5] (fun v wr => ∃ (a : Nat) (L1 : List Nat), v = .int .i64 (a : Nat) ∧ a ≤ n ∧ Blk wr w.heap.size 3 (i64s L1).toArray ∧ Sweep up L a 0 L1 ∧ Below w.heap.size w wr) (fun v wr => n - natOf v)
      case atStart => exact ⟨0, L, rfl, by omega, hb.out, hst.out, hB.out⟩
      case round =>
        obtain ⟨a, L1, rfl, han, hb, hs1, hB⟩ := hrel
        by_cases ha : a < n
        · have hlt1 : ((a : Int) < (n : Int)) := by omega
          replace hb := Lib.hid hb
          replace hs1 := Lib.hid hs1
          replace hB := Lib.hid hB
          go_wp2
          go_loopw [6] (fun v wr => ∃ (b : Nat) (L2 : List Nat), v = .int .i64 (b : Nat) ∧ b ≤ n ∧ Blk wr w.heap.size 3 (i64s L2).toArray ∧ Sweep up L a b L2 ∧ Below w.heap.size w wr) (fun v wr => n - natOf v)
          case atStart => exact ⟨0, L1, rfl, by omega, hb.out, hs1.out, hB.out⟩
          case round =>
            obtain ⟨b, L2, rfl, hbn, hb, hs2, hB⟩ := hrel
            by_cases hbl : b < n
            · have hlt2 : ((b : Int) < (n : Int)) := by omega
              have hlen := hs2.len
              have ca : wr.cell? ⟨w.heap.size, a, none⟩ = some (.int .i64 (L2.getD a 0 : Nat)) := by rw [hb.cell]; exact i64s_at _ _ (by have := hn.out; omega)
              have cb : wr.cell? ⟨w.heap.size, b, none⟩ = some (.int .i64 (L2.getD b 0 : Nat)) := by rw [hb.cell]; exact i64s_at _ _ (by have := hn.out; omega)
              have fa := hb.frozen a
              have hxa := hs2.hi a (by have := hn.out; omega)
              have hxb := hs2.hi b (by have := hn.out; omega)
              have hga := hgt_le up a
              have hgb := hgt_le up b
              have hnn := hn.out
              have hkeep := hs2.keep (b := b) (by omega)
              have hraise := fun h1 h2 => hs2.raise hO.out (by omega) (b := b) (by omega) h1 h2
              have hab : above up a b = (decide (a ≠ b) && le up a b) := rfl
              have hcall := fun q => above_any A n c up a b (wr.drewN q) hn.out hM.out ha (by omega) (((hr.out.below hB).more hB.size).drewN q)
              generalize hxe : L2.getD a 0 = x at *
              generalize hye : L2.getD b 0 = y at *
              generalize hle : le up a b = z at *
              replace hkeep := Lib.hid hkeep
              replace hraise := Lib.hid hraise
              replace hb := Lib.hid hb
              replace hs2 := Lib.hid hs2
              replace hB := Lib.hid hB
              replace hxe := Lib.hid hxe
              replace hye := Lib.hid hye
              replace hle := Lib.hid hle
              replace hlen := Lib.hid hlen
              by_cases hab0 : a = b
              · have hne : ((a : Int) != (b : Int)) = false := by rw [hab0]; simp
                have hsw' := Lib.hid (hkeep.out (fun h => by rw [hab, decide_eq_false (fun h => h hab0), Bool.false_and] at h; cases h))
                replace hcall := Lib.hid hcall
                replace hab := Lib.hid hab
                subst hab0
                go_wp2
                go_quiet (fail)
                go_wp2
                go_roundw
                case rel => exact ⟨a + 1, L2, by go_num, by omega, hb.out.drewN _, hsw'.out, below_drewN hB.out _⟩
                case measure => simp [natOf]; omega
              · have hne : ((a : Int) != (b : Int)) = true := by simp; omega
                rw [decide_eq_true hab0, Bool.true_and] at hab
                cases z with
                | false =>
                  have hsw' := Lib.hid (hkeep.out (fun h => by rw [hab] at h; cases h))
                  have hCall := Lib.hid hcall
                  clear hcall
                  replace hab := Lib.hid hab
                  go_wp2
                  go_quiet (first | (go_at_call 33; exact quiet_plainB (hCall.out _)))
                  go_wp2
                  go_roundw
                  case rel => exact ⟨b + 1, L2, by go_num, by omega, hb.out.drewN _, hsw'.out, below_drewN hB.out _⟩
                  case measure => simp [natOf]; omega
                | true =>
                  by_cases hxy : (x : Int) < (y : Int) + 1
                  · have hsw' := Lib.hid (hraise.out hab (by omega))
                    have hCall := Lib.hid hcall
                    clear hcall
                    replace hab := Lib.hid hab
                    go_wp2
                    go_quiet (first | (go_at_call 33; exact quiet_plainB (hCall.out _)))
                    go_wp2
                    go_roundw
                    case rel =>
                      refine ⟨b + 1, L2.set a (y + 1), by go_num, by omega, ?_, hsw'.out, ?_⟩
                      · first
                          | exact i64s_blk_set (hb.out.drewN _) a (y + 1)
                          | exact (i64s_blk_set hb.out a (y + 1)).drewN _
                      · first
                          | exact (below_drewN hB.out _).setCell (by simp) _
                          | exact below_drewN (hB.out.setCell (by simp) _) _
                    case measure => simp [natOf]; omega
                  · have hsw' := Lib.hid (hkeep.out (fun _ => by omega))
                    have hCall := Lib.hid hcall
                    clear hcall
                    replace hab := Lib.hid hab
                    go_wp2
                    go_quiet (first | (go_at_call 33; exact quiet_plainB (hCall.out _)))
                    go_wp2
                    go_roundw
                    case rel => exact ⟨b + 1, L2, by go_num, by omega, hb.out.drewN _, hsw'.out, below_drewN hB.out _⟩
                    case measure => simp [natOf]; omega
            · have hbe : b = n := by omega
              have hlt2 : ¬ ((b : Int) < (n : Int)) := by omega
              have hnx : Sweep up L (a + 1) 0 L2 := Sweep.next (by rw [hbe, ← hn.out] at hs2; exact hs2)
              replace hb := Lib.hid hb
              replace hnx := Lib.hid hnx
              replace hB := Lib.hid hB
              clear hs2
              go_wp2
              go_roundw
              case rel => exact ⟨a + 1, L2, by go_num, by omega, hb.out, hnx.out, hB.out⟩
              case measure => simp [natOf]; omega
        · have hae : a = n := by omega
          have hlt1 : ¬ ((a : Int) < (n : Int)) := by omega
          have hdn : Swept up (r + 1) L1 := Sweep.done hsw.out (by rw [hae, ← hn.out] at hs1; exact hs1)
          replace hb := Lib.hid hb
          replace hdn := Lib.hid hdn
          replace hB := Lib.hid hB
          clear hs1
          go_wp2
          go_roundw
          case rel => exact ⟨r + 1, L1, by go_num, by omega, hb.out, hdn.out, hB.out⟩
          case measure => simp [natOf]; omega
    · have hre : r = n := by omega
      have hlt : ¬ ((r : Int) < (n : Int)) := by omega
      have hfull : Swept up up.length L := by rw [hre, ← hn.out] at hsw; exact hsw
      have hmost := most_of hfull
      have hall : ∀ k, k < n → L.getD k 0 ≤ 64 := fun k hk => by
        have := hfull.hi k (by have := hn.out; omega)
        have := hgt_le up k
        have := hn.out
        omega
      have hlen := hfull.len
      replace hfull := Lib.hid hfull
      replace hmost := Lib.hid hmost
      replace hall := Lib.hid hall
      replace hsw := Lib.hid hsw
      replace hb := Lib.hid hb
      replace hB := Lib.hid hB
      replace hlen := Lib.hid hlen
      go_wp2
      go_loopw [7, 8] (fun v7 v8 wr' => ∃ k : Nat, v8 = .int .i64 (k : Nat) ∧ k ≤ n ∧ v7 = .int .i64 (sup k (fun _ => true) (fun a => L.getD a 0) : Nat) ∧ wr' = wr) (fun v7 v8 wr' => n - natOf v8)
      case atStart => exact ⟨0, rfl, by omega, rfl, rfl⟩
      case round =>
        obtain ⟨k, rfl, hkn, rfl, rfl⟩ := hrel
        by_cases hk : k < n
        · have hltk : ((k : Int) < (n : Int)) := by omega
          have ck := hb.out.cell k
          rw [i64s_at _ _ (by have := hn.out; have := hlen.out; omega)] at ck
          have hs := sup_succ k (fun _ => true) (fun a => L.getD a 0)
          rw [if_pos rfl] at hs
          generalize L.getD k 0 = x at *
          generalize sup k (fun _ => true) (fun a => L.getD a 0) = y at *
          by_cases hxy : (y : Int) < (x : Int)
          · have hm : max y x = x := by omega
            rw [hm] at hs
            replace hs := Lib.hid hs
            go_wp2
            go_roundw
            case rel => exact ⟨k + 1, by go_num, by omega, by rw [hs.out], by trivial⟩
            case measure => simp [natOf]; omega
          · have hm : max y x = y := by omega
            rw [hm] at hs
            replace hs := Lib.hid hs
            go_wp2
            go_roundw
            case rel => exact ⟨k + 1, by go_num, by omega, by rw [hs.out], by trivial⟩
            case measure => simp [natOf]; omega
        · have hke : k = n := by omega
          have hltk : ¬ ((k : Int) < (n : Int)) := by omega
          have hfin : sup k (fun _ => true) (fun a => L.getD a 0) = heightN up := by rw [hke, ← hn.out]; exact hmost.out
          rw [hfin]
          go_wp2
          go_ret
          exact ⟨rfl, hB.out⟩

end Go.Proofs.YtleckdbdhkgcpaaDoor
