/- The reference's Low and Cap. -/
import Derived.Test.YtfloonpchjbmnaaDoorSq
import Derived.Test.YtfloonpchjbmnaaDoorSw
namespace Go.Idl
/-- A call that is right: what is put may be. -/
theorem put_parts {up : List Nat} {l : Lb} {args : List Lb} {pc : Lb} (h : putOk up l args pc = true) : args.length ≤ 6 ∧ latB up = true ∧ Gd up l ∧ Gd up pc ∧ fitsB l.ms args.length = true ∧ ∀ k, k < args.length → Gd up (args.getD k ⟨0, 0⟩) := by
  obtain ⟨h1, h2, h3, h4, h5, h6⟩ := putOk_iff.1 h
  refine ⟨h1, h2, goodB_iff.1 h3, goodB_iff.1 h4, h5, fun k hk => ?_⟩
  rw [List.all_eq_true] at h6
  exact goodB_iff.1 (h6 _ (by rw [List.getD_eq_getElem?_getD, List.getElem?_eq_getElem hk]; exact List.getElem_mem hk))
end Go.Idl
namespace Go.Proofs.YtfloonpchjbmnaaDoor
open Go.RowKit Go.Shelf Go.Idl

theorem field_lv (x y : Int) (W : World) : (Instr.field 25 (.agg #[.int .i64 x, .int .u64 y]) 0).run Tryd.prog W = .ok (.int .i64 x) W := by kernel_rfl
set_option maxHeartbeats 4000000 in
theorem rlow_any (A : Option Addr) (n c : Nat) (up : List Nat) (l : Lb) (Z : Option Addr) (m d : Nat) (zs : List Int) (pc : Int) (w : World) (hn : up.length = n) (hM : Masks up) (hr : Reads w w.heap.size 1 A n (u64s up))
    (hl : l.ms < 2 ^ 64) (ham : zs.length = m) (hz : Reads w w.heap.size 1 Z m (ints zs)) (hok : putOk up l (lows zs) ⟨pc, 0⟩ = true) :
    Calls Tryd.prog 18 #[.slice A n c, lbV l, .slice Z m d, .int .i64 pc] w fun e w' => e = .returned (.int .i64 (putF up l (lows zs) ⟨pc, 0⟩).lv) ∧ Below w.heap.size w w' := by
  obtain ⟨i0, hi0, hz0, hz1, hz2⟩ := info_parts label_info
  have hml : maxLen = 9223372036854775807 := rfl
  obtain ⟨o1, o2, o3, o4, o5, o6⟩ := put_parts hok
  rw [lows_len, ham] at o1 o5
  obtain ⟨lv, lm⟩ := l
  dsimp only at hl ⊢
  have hb0 : Below w.heap.size w (w.alloc (.cells #[.int .i64 lv, .int .u64 (lm : Nat)] 25)) := (Below.refl _ w).alloc (Nat.le_refl _) _
  have k0 := Blk.new w 25 #[.int .i64 lv, .int .u64 (lm : Nat)]
  have hsz : (w.alloc (.cells #[.int .i64 lv, .int .u64 (lm : Nat)] 25)).heap.size = w.heap.size + 1 := by simp
  replace hok := Lib.hid hok
  replace o2 := Lib.hid o2
  replace o3 := Lib.hid o3
  replace o4 := Lib.hid o4
  replace o5 := Lib.hid o5
  replace o6 := Lib.hid o6
  replace hr := Lib.hid hr
  replace hM := Lib.hid hM
  replace hn := Lib.hid hn
  replace ham := Lib.hid ham
  replace hz := Lib.hid hz
  replace hb0 := Lib.hid hb0
  replace k0 := Lib.hid k0
  replace hsz := Lib.hid hsz
  go_enter Tryd.func18, Tryd.ntmps18
  go_wp2
  go_loopw [9, 10] (fun v9 v10 wr => ∃ (i : Nat) (A' : Option Addr) (c' : Nat), v10 = .int .i64 (i : Nat) ∧ i ≤ m ∧ v9 = .slice A' i c' ∧ wr.ownsRow (w.heap.size + 1) 25 2 (.slice A' i c') i (lbVals (lows (zs.take i))) ∧ w.heap.size + 1 ≤ wr.heap.size ∧ Blk wr w.heap.size 25 #[.int .i64 lv, .int .u64 (lm : Nat)] ∧ Below w.heap.size w wr) (fun v9 v10 wr => m - natOf v10)
  case atStart => exact ⟨0, none, 0, rfl, by omega, rfl, World.ownsRow_nil _ _ _ _, by rw [hsz.out]; omega, k0.out, hb0.out⟩
  case round =>
    obtain ⟨i, A', c', rfl, him, rfl, hown, hsw, hk, hB⟩ := hrel
    by_cases hi : i < m
    · have hlt : ((i : Int) < (m : Int)) := by omega
      have hil : i < zs.length := by rw [ham.out]; exact hi
      obtain ⟨ad, hZ, hbk, hcell⟩ := (hz.out.below hB).2 (by omega)
      subst hZ
      have hci := hcell _ _ (ints_at hil)
      have hsn := lows_snoc zs i hil
      generalize zs[i] = z at *
      replace hcell := Lib.hid hcell
      replace hsn := Lib.hid hsn
      replace hown := Lib.hid hown
      replace hk := Lib.hid hk
      replace hB := Lib.hid hB
      go_wp2_with (at_builtin; refine wpList_append_new wr rfl _ _ 26 rfl (w.heap.size + 1) 25 i0 (.agg #[.int .i64 0, .int .u64 0]) 2 16 Tryd.underlying26 hi0 hz0 hz1 hz2 rfl (by decide) (.slice A' i c') i (lbVals (lows (zs.take i))) rfl hown.out 1 1 [.int .i64 z, .int .u64 0] rfl rfl (by simp [Value.oneCell']) (by omega) (by omega) hsw ?_; intro A2 c2 w4 hown2 hb5; replace hown2 := Lib.hid hown2; replace hb5 := Lib.hid hb5)
      go_roundw
      case rel =>
        refine ⟨i + 1, A2, c2, by go_num, by omega, rfl, ?_, Nat.le_trans hsw hb5.out.size, hk.out.below hb5.out (by omega), hB.out.trans (hb5.out.mono (by omega))⟩
        rw [hsn.out, lbVals_append]
        exact hown2.out
      case measure => simp [natOf]; omega
    · have hie : i = m := by omega
      have hlt : ¬ ((i : Int) < (m : Int)) := by omega
      rw [List.take_of_length_le (by have := ham.out; omega)] at hown
      have hrd := Reads.of_own hown
      subst hie
      obtain ⟨c0, c1⟩ := pair_cells hk
      have hP := rput_any A n c up ⟨lv, lm⟩ A' i c' (lows zs) ⟨pc, 0⟩ wr hn.out hM.out ((hr.out.below hB).more hB.size) o2.out hl o3.out (Nat.two_pow_pos 64) o4.out (by rw [lows_len]; exact ham.out) o1 hrd (lows_lms zs) o6.out o5.out
      replace hP := Lib.hid hP
      replace hrd := Lib.hid hrd
      replace hown := Lib.hid hown
      replace hk := Lib.hid hk
      replace hB := Lib.hid hB
      go_wp2_with fail
      refine hP.out.mono ?_
      rintro e w5 ⟨rfl, hb5⟩
      generalize hxe : putF up ⟨lv, lm⟩ (lows zs) ⟨pc, 0⟩ = x at *
      replace hxe := Lib.hid hxe
      obtain ⟨xv, xm⟩ := x
      replace hb5 := Lib.hid hb5
      dsimp only [lbV]
      have hfd := fun W => field_lv xv (xm : Nat) W
      go_wp2
      go_ret
      exact ⟨by rw [hxe.out]; rfl, hB.out.trans (hb5.out.mono hB.out.size)⟩

end Go.Proofs.YtfloonpchjbmnaaDoor
