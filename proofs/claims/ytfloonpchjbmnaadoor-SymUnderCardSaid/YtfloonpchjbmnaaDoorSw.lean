/- sym.Low: the level that a label becomes. -/
import Derived.Test.YtfloonpchjbmnaaDoorSp
namespace Go.Idl
open Go Go.RowKit
/-- Levels as labels. -/
def lows (zs : List Int) : List Lb := zs.map fun k => ⟨k, 0⟩
theorem lows_len (zs : List Int) : (lows zs).length = zs.length := by simp [lows]
theorem lows_snoc (zs : List Int) (i : Nat) (hi : i < zs.length) : lows (zs.take (i + 1)) = lows (zs.take i) ++ [⟨zs[i], 0⟩] := by
  unfold lows
  rw [List.take_succ_eq_append_getElem hi, List.map_append]
  rfl
theorem lows_lms (zs : List Int) : Lms (lows zs) := by
  intro k
  unfold lows
  rw [List.getD_eq_getElem?_getD, List.getElem?_map]
  cases zs[k]? with
  | none => exact Nat.two_pow_pos 64
  | some z => exact Nat.two_pow_pos 64
end Go.Idl
namespace Go.Proofs.YtfloonpchjbmnaaDoor
open Go.RowKit Go.Shelf Go.Idl

theorem label_info : (Tryd.prog.info? 25).map (fun i => (i.zero, i.size, i.bytes)) = some (some (.agg #[.int .i64 0, .int .u64 0]), 2, 16) := by kernel_rfl
theorem ownsRow_below {w w' : World} {base : Nat} {e : TypeId} {size n : Nat} {v : Value} {xs : List Value} (h : w.ownsRow base e size v n xs) (hb : Below w.heap.size w w') : w'.ownsRow base e size v n xs := by
  refine ⟨h.1, ?_⟩
  rcases h.2 with h0 | ⟨g, cap, cur, hv, hg, hh, hrest⟩
  · exact .inl h0
  · exact .inr ⟨g, cap, cur, hv, hg, Blk.below (t := e) (cs := cur) hh hb (Blk.lt (t := e) (cs := cur) hh), hrest⟩

set_option maxHeartbeats 4000000 in
theorem slow_any (A : Option Addr) (n c : Nat) (up : List Nat) (l : Lb) (Z : Option Addr) (m d : Nat) (zs : List Int) (pc : Int) (w : World) (hT : Tab w) (hn : up.length = n) (hn63 : n ≤ maxLen) (hM : Masks up) (hr : Reads w w.heap.size 1 A n (u64s up))
    (hl : l.ms < 2 ^ 64) (ham : zs.length = m) (hm : m * 16 ≤ 140737488355328) (hz : Reads w w.heap.size 1 Z m (ints zs)) :
    Calls Tryd.prog 16 #[.slice A n c, lbV l, .slice Z m d, .int .i64 pc] w fun e w' => e = .returned (.tuple #[.int .i64 (putL up l (lows zs) ⟨pc, 0⟩).lv, .bool (putOk up l (lows zs) ⟨pc, 0⟩)]) ∧ Below w.heap.size w w' := by
  obtain ⟨i0, hi0, hz0, hz1, hz2⟩ := info_parts label_info
  have hml : maxLen = 9223372036854775807 := rfl
  obtain ⟨lv, lm⟩ := l
  dsimp only at hl ⊢
  have hb0 : Below w.heap.size w (w.alloc (.cells #[.int .i64 lv, .int .u64 (lm : Nat)] 25)) := (Below.refl _ w).alloc (Nat.le_refl _) _
  have k0 := Blk.new w 25 #[.int .i64 lv, .int .u64 (lm : Nat)]
  have hsz : (w.alloc (.cells #[.int .i64 lv, .int .u64 (lm : Nat)] 25)).heap.size = w.heap.size + 1 := by simp
  replace hT := Lib.hid hT
  replace hr := Lib.hid hr
  replace hM := Lib.hid hM
  replace hn := Lib.hid hn
  replace ham := Lib.hid ham
  replace hz := Lib.hid hz
  replace hb0 := Lib.hid hb0
  replace k0 := Lib.hid k0
  replace hsz := Lib.hid hsz
  go_enter Tryd.func16, Tryd.ntmps16
  go_wp2
  go_loopw [10, 17] (fun v10 v17 wr => ∃ (i : Nat) (A' : Option Addr) (c' : Nat), v17 = .int .i64 (i : Nat) ∧ i ≤ m ∧ v10 = .slice A' i c' ∧ wr.ownsRow (w.heap.size + 1) 25 2 (.slice A' i c') i (lbVals (lows (zs.take i))) ∧ w.heap.size + 1 ≤ wr.heap.size ∧ Blk wr w.heap.size 25 #[.int .i64 lv, .int .u64 (lm : Nat)] ∧ Below w.heap.size w wr) (fun v10 v17 wr => m - natOf v17)
  case atStart => exact ⟨0, none, 0, rfl, by omega, rfl, World.ownsRow_nil _ _ _ _, by rw [hsz.out]; omega, k0.out, hb0.out⟩
  case round =>
    obtain ⟨i, A', c', rfl, him, rfl, hown, hsw, hk, hB⟩ := hrel
    by_cases hi : i < m
    · have hlt : ((i : Int) < (m : Int)) := by omega
      have hil : i < zs.length := by rw [ham.out]; exact hi
      obtain ⟨ad, hZ, hbk, hcell⟩ := (hz.out.below hB).2 (by omega)
      subst hZ
      have hci := hcell _ _ (ints_at hil)
      have hsn := lows_snoc zs i hil
      generalize zs[i] = z at *
      replace hcell := Lib.hid hcell
      replace hsn := Lib.hid hsn
      replace hown := Lib.hid hown
      replace hk := Lib.hid hk
      replace hB := Lib.hid hB
      go_wp2_with (at_builtin; refine wpList_append_new wr rfl _ _ 26 rfl (w.heap.size + 1) 25 i0 (.agg #[.int .i64 0, .int .u64 0]) 2 16 Tryd.underlying26 hi0 hz0 hz1 hz2 rfl (by decide) (.slice A' i c') i (lbVals (lows (zs.take i))) rfl hown.out 1 1 [.int .i64 z, .int .u64 0] rfl rfl (by simp [Value.oneCell']) (by omega) (by omega) hsw ?_; intro A2 c2 w4 hown2 hb5; replace hown2 := Lib.hid hown2; replace hb5 := Lib.hid hb5)
      go_roundw
      case rel =>
        refine ⟨i + 1, A2, c2, by go_num, by omega, rfl, ?_, Nat.le_trans hsw hb5.out.size, hk.out.below hb5.out (by omega), hB.out.trans (hb5.out.mono (by omega))⟩
        rw [hsn.out, lbVals_append]
        exact hown2.out
      case measure => simp [natOf]; omega
    · have hie : i = m := by omega
      have hlt : ¬ ((i : Int) < (m : Int)) := by omega
      rw [List.take_of_length_le (by have := ham.out; omega)] at hown
      have hrd := Reads.of_own hown
      subst hie
      obtain ⟨c0, c1⟩ := pair_cells hk
      have hP := put_any A n c up ⟨lv, lm⟩ A' i c' (lows zs) ⟨pc, 0⟩ wr (hT.out.later hB) hn.out hn63 hM.out ((hr.out.below hB).more hB.size) hl (Nat.two_pow_pos 64) (by rw [lows_len]; exact ham.out) (by omega) hrd (lows_lms zs)
      replace hP := Lib.hid hP
      replace hrd := Lib.hid hrd
      replace hown := Lib.hid hown
      replace hk := Lib.hid hk
      replace hB := Lib.hid hB
      go_wp2_with fail
      refine hP.out.mono ?_
      rintro e w5 ⟨rfl, hb5⟩
      generalize hxe : putL up ⟨lv, lm⟩ (lows zs) ⟨pc, 0⟩ = x at *
      generalize hbe : putOk up ⟨lv, lm⟩ (lows zs) ⟨pc, 0⟩ = b at *
      replace hxe := Lib.hid hxe
      replace hbe := Lib.hid hbe
      obtain ⟨xv, xm⟩ := x
      replace hb5 := Lib.hid hb5
      go_wp2
      go_ret2
      exact ⟨by rw [hxe.out, hbe.out]; rfl, (hB.out.trans (hb5.out.mono hB.out.size)).alloc (Nat.le_trans hB.out.size hb5.out.size) _⟩

end Go.Proofs.YtfloonpchjbmnaaDoor
