/- The laws' helper told; joins, meets and bounds of levels of a lattice as plain numbers. -/
import Derived.Test.YtaclogfchlphlaaDoorAw
import Derived.Test.YtaclogfchlphlaaDoorJm
import Derived.Test.YtaclogfchlphlaaDoorLw
namespace Go.Proofs.YtaclogfchlphlaaDoor
open Go.RowKit Go.Shelf Go.Idl

theorem told_yes (k : Nat) (w : World) : Calls Tryd.prog 32 #[.int .i64 (k : Nat), .bool true] w fun e w' => e = .returned (.int .i64 (k : Nat)) ∧ w = w' := by
  go_enter Tryd.func32, Tryd.ntmps32
  go_wp2
  go_ret
  exact ⟨rfl, rfl⟩

theorem both_of {up : List Nat} {x y : Nat} (hq : latB up = true) (hx : x < up.length) (hy : y < up.length) : bothL up x y = true := bothL_iff.2 ⟨by omega, by omega, by omega, by omega, hq⟩
theorem join_lat (A : Option Addr) (n c : Nat) (up : List Nat) (hn : up.length = n) (hn63 : n ≤ maxLen) (hM : Masks up) (hq : latB up = true) (x y k : Nat) (hx : x < n) (hy : y < n) (hk : jn up x y = k) (W : World) (hT : Tab W) (hr : Reads W W.heap.size 1 A n (u64s up)) :
    Calls Tryd.prog 26 #[.slice A n c, .int .i64 (x : Nat), .int .i64 (y : Nat)] W fun e w' => e = .returned (.tuple #[.int .i64 (k : Nat), .bool true]) ∧ Below W.heap.size W w' := by
  have h := join_any A n c up x y W hT hn hn63 hM hr
  rw [both_of hq (by omega) (by omega), if_pos rfl, Int.toNat_natCast, Int.toNat_natCast, (Lat.of hM hq).joinI_eq (by omega) (by omega), hk] at h
  exact h
theorem meet_lat (A : Option Addr) (n c : Nat) (up : List Nat) (hn : up.length = n) (hn63 : n ≤ maxLen) (hM : Masks up) (hq : latB up = true) (x y k : Nat) (hx : x < n) (hy : y < n) (hk : mt up x y = k) (W : World) (hT : Tab W) (hr : Reads W W.heap.size 1 A n (u64s up)) :
    Calls Tryd.prog 27 #[.slice A n c, .int .i64 (x : Nat), .int .i64 (y : Nat)] W fun e w' => e = .returned (.tuple #[.int .i64 (k : Nat), .bool true]) ∧ Below W.heap.size W w' := by
  have h := meet_any A n c up x y W hT hn hn63 hM hr
  rw [both_of hq (by omega) (by omega), if_pos rfl, Int.toNat_natCast, Int.toNat_natCast, (Lat.of hM hq).meetI_eq (by omega) (by omega), hk] at h
  exact h
theorem leq_lat (A : Option Addr) (n c : Nat) (up : List Nat) (hn : up.length = n) (hn63 : n ≤ maxLen) (hM : Masks up) (hq : latB up = true) (x y : Nat) (t : Bool) (hx : x < n) (hy : y < n) (hk : le up x y = t) (W : World) (hT : Tab W) (hr : Reads W W.heap.size 1 A n (u64s up)) :
    Calls Tryd.prog 28 #[.slice A n c, .int .i64 (x : Nat), .int .i64 (y : Nat)] W fun e w' => e = .returned (.bool t) ∧ Below W.heap.size W w' := by
  have h := leq_any A n c up x y W hT hn hn63 hM hr
  rw [both_of hq (by omega) (by omega), Int.toNat_natCast, Int.toNat_natCast, hk, Bool.true_and] at h
  exact h
end Go.Proofs.YtaclogfchlphlaaDoor
