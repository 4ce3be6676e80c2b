/- mask.All: the iterator over a set's numbers: its contract for every loop body that keeps what lay below. -/
import Derived.RangeFuncNested
import Derived.RangeFuncBound
import Derived.RangeFuncCalls
import Derived.RangeFuncLeaves
import Derived.Shelf.Abstract
import Derived.Shelf.RegionOpen
import Derived.WalkKit
import Derived.OwnWalkIn
import Derived.TacticsInMore
import Derived.LoopNIn
import Derived.LoopIn
import Derived.Outline
import Derived.Test.YtleckdbdhkgcpaaDoorTz
import Derived.Test.YtleckdbdhkgcpaaDoorRf
namespace Go.Proofs.YtleckdbdhkgcpaaDoor
open Go.RowKit Go.Shelf Go.Idl
attribute [local go_sem] Oper.semAt_some

/-- A number of a set. -/
abbrev Bit (m : Nat) := { x : Nat // x ∈ bitsOf m }
/-- How many numbers are still to come. -/
def restLen : Value → Nat | .int _ q => (bitsOf q.toNat).length | _ => 0

theorem all_makes (m : Nat) (w : World) : Calls Tryd.prog 46 #[.int .u64 m] w fun e w' => e = .returned (.func (.func 53) #[] #[.pointer (some ⟨w.heap.size, 0, none⟩)]) ∧ w.alloc (.cells #[.int .u64 m] 27) = w' := by
  go_enter Tryd.func46, Tryd.ntmps46
  go_wp2
  go_ret
  exact ⟨rfl, rfl⟩

theorem bit_and_pred (r : Nat) (hr : r < 2 ^ 64) (h0 : r ≠ 0) : bits BinOp.and IntKind.u64 (r : Int) (IntKind.u64.wrap ((r : Int) - 1)) = ((r &&& (r - 1) : Nat) : Int) := by
  have e : IntKind.u64.wrap ((r : Int) - 1) = ((r - 1 : Nat) : Int) := by rw [IntKind.wrap_u64]; omega
  rw [e, u64_and_eq _ _ hr (by omega)]

set_option maxRecDepth 100000 in
set_option maxHeartbeats 2000000 in
theorem all_stops (n : Nat) (hn : 1 ≤ n) (m : Nat) (hm : m < 2 ^ 64) (Bm n₀ : Nat) (w : World) (hn0 : 0 < n₀) (hBm : Bm < w.heap.size) (hT : Tab w) (hc : w.cell? ⟨Bm, 0, none⟩ = some (.int .u64 m)) :
    SeqStopsK Fence.wide n Tryd.prog 53 #[.pointer (some ⟨Bm, 0, none⟩)] (fun x : Bit m => #[.int .i64 (x.1 : Nat)]) (Below n₀) (fun xs => xs.map (·.1) = bitsOf m) (fun pre => pre.map (·.1) <+: bitsOf m) 64 w := by
  intro l J Jx W hW hJ hJx hY h0
  have hc' : W.cell? ⟨Bm, 0, none⟩ = some (.int .u64 m) := (hW.cell (p := ⟨Bm, 0, none⟩) hBm).trans hc
  have hT' := Lib.hid (hT.later hW)
  replace hY := Lib.hid hY
  replace hJ := Lib.hid hJ
  replace hJx := Lib.hid hJx
  replace hW := Lib.hid hW
  replace hT := Lib.hid hT
  clear hc
  refine callsIn_of_wp Tryd.func53 rfl trivial ?_ rfl
  simp only [Tryd.ntmps53, List.size_toArray, List.length_cons, List.length_nil, Nat.reduceAdd, Nat.reduceSub, Array.replicate_succ, Array.replicate_zero, List.push_toArray, List.append_toArray, List.nil_append, List.cons_append]
  gi_wp2
  gi_loopw [3] (fun v wr => ∃ (pre : List (Bit m)) (r : Nat), v = .int .u64 r ∧ r < 2 ^ 64 ∧ bitsOf m = pre.map (·.1) ++ bitsOf r ∧ J pre wr ∧ Tab wr ∧ Below n₀ W wr) (fun v wr => restLen v)
  case atStart => exact ⟨[], m, rfl, hm, rfl, h0, hT'.out, Below.refl _ _⟩
  case round =>
    obtain ⟨pre, r, rfl, hr, hx, hJs, hTw, hnx⟩ := hrel
    by_cases hz : r = 0
    · subst hz
      rw [bitsOf_zero, List.append_nil] at hx
      replace hx := Lib.hid hx
      gi_wp2
      go_end0
      exact ⟨⟨_, rfl⟩, .inl ⟨pre, hx.out.symm, hJs⟩⟩
    · have hb : ((r : Int) == 0) = false := by simp; omega
      have hb2 : ((r : Int) != 0) = true := by simp; omega
      obtain ⟨hk, hs⟩ := bits_step r hr hz
      have C := tz_any r hr hz wr hTw
      have HA := Lib.hid (bit_and_pred r hr hz)
      generalize Lib.ctz 64 r = k at hk hs C
      rw [hs] at hx
      have hmem : k ∈ bitsOf m := by rw [hx]; simp
      have hlen : pre.length < 64 := by
        have h1 := congrArg List.length hx
        have h2 : (bitsOf m).length ≤ 64 := by
          unfold bitsOf
          exact Nat.le_trans (List.length_filter_le _ _) (by simp)
        simp at h1; omega
      obtain ⟨fn, tmps, assign, body, hy, hR⟩ := hY.out pre ⟨k, hmem⟩ wr hJs hlen
      dsimp only at hy
      have hlen' := Lib.hid hlen
      have hpre : (pre ++ [(⟨k, hmem⟩ : Bit m)]).map (·.1) ++ bitsOf (r &&& (r - 1)) = bitsOf m := by
        simp only [List.map_append, List.map_cons, List.map_nil, List.append_assoc, List.cons_append, List.nil_append]
        exact hx.symm
      have hand : r &&& (r - 1) < 2 ^ 64 := Nat.lt_of_le_of_lt Nat.and_le_left hr
      have hms : restLen (.int .u64 ((r &&& (r - 1) : Nat) : Int)) < restLen (.int .u64 (r : Int)) := by
        show (bitsOf (Int.toNat _)).length < (bitsOf (Int.toNat _)).length
        rw [Int.toNat_natCast, Int.toNat_natCast, hs]; simp
      replace hpre := Lib.hid hpre
      replace hx := Lib.hid hx
      replace hs := Lib.hid hs
      replace hms := Lib.hid hms
      replace hmem := Lib.hid hmem
      replace C := Lib.hid C
      clear hz hk hlen
      gi_wp2_with (refine ⟨trivial, ?_⟩; gi_at_call 54; refine (callsIn_wide.2 C.out).mono ?_; rintro e w' ⟨rfl, rfl⟩)
      refine hR.mono ?_
      rintro e W3 (⟨rfl, hJ3, hk3⟩ | ⟨rfl, hJx3⟩)
      · gi_wp2
        go_roundw
        case rel => exact ⟨_, _, by rw [HA.out], hand, hpre.out.symm, hJ3, hTw.below hk3 hn0, hnx.trans hk3⟩
        case measure => simp only [HA.out]; exact hms.out
      · gi_wp2
        refine bodyPost_ret (results_none rfl _ _ _) rfl ?_
        exact ⟨⟨_, rfl⟩, .inr ⟨_, ⟨_, hpre.out⟩, hJx3⟩⟩

end Go.Proofs.YtleckdbdhkgcpaaDoor
