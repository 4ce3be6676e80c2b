/- lattice.Bottom, Top. -/
import Derived.Test.YtaclogfchlphlaaDoorJm
namespace Go.Idl
theorem sub_full (up : List Nat) (h64 : up.length ≤ 64) (k : Nat) : subB (belowN up.length) (up.getD k 0) = (List.range up.length).all fun m => le up k m := by
  rw [Bool.eq_iff_iff, subB_iff, List.all_eq_true]
  constructor
  · intro h m hm
    exact h m (by rw [testBit_belowN]; have := List.mem_range.1 hm; simp; omega)
  · intro h m hm
    rw [testBit_belowN] at hm
    simp at hm
    exact h m (List.mem_range.2 (by omega))
theorem least_end (up : List Nat) (h64 : up.length ≤ 64) : leastI up (belowN up.length) = endI up := by
  rw [leastI_first]
  unfold endI
  have hb : ∀ k, (belowN up.length).testBit k = decide (k < up.length) := by
    intro k
    rw [testBit_belowN, decide_eq_decide]
    omega
  rw [firstI_more h64 (fun k h1 h2 => by rw [hb, decide_eq_false (by omega)]; rfl)]
  exact firstI_congr fun k hk => by rw [hb, decide_eq_true hk, Bool.true_and, sub_full up h64 k]
theorem end_downs (up : List Nat) : endI (downs up) = farI up := by
  unfold endI farI
  rw [length_downs]
  refine firstI_congr fun k hk => all_range_congr fun m hm => ?_
  rw [le_downs' up k m hk]
theorem bits_below (n : Nat) : ∀ k ∈ bitsOf (belowN (n : Nat)), k < n := by
  intro k hk
  have h := (mem_bitsOf.1 hk).2
  rw [testBit_belowN] at h
  simp at h
  omega
end Go.Idl
namespace Go.Proofs.YtaclogfchlphlaaDoor
open Go.RowKit Go.Shelf Go.Idl

theorem bottom_any (A : Option Addr) (n c : Nat) (up : List Nat) (w : World) (hT : Tab w) (hn : up.length = n) (hn63 : n ≤ maxLen) (hM : Masks up) (hr : Reads w w.heap.size 1 A n (u64s up)) :
    Calls Tryd.prog 19 #[.slice A n c] w fun e w' => e = .returned (.tuple #[.int .i64 (if latB up = true then endI up else 0), .bool (latB up)]) ∧ Below w.heap.size w w' := by
  have hml : maxLen = 9223372036854775807 := rfl
  cases hq : latB up with
  | false =>
    rw [if_neg (by simp)]
    replace hT := Lib.hid hT
    replace hr := Lib.hid hr
    replace hM := Lib.hid hM
    replace hn := Lib.hid hn
    replace hq := Lib.hid hq
    go_enter Tryd.func19, Tryd.ntmps19
    go_wp2_with fail
    refine (right_lat A n c up _ hT.out hn.out hn63 hM.out hr.out).mono ?_
    rintro x w1 ⟨rfl, hb1⟩
    rw [hq.out]
    replace hb1 := Lib.hid hb1
    go_wp2
    go_ret2
    exact ⟨rfl, hb1.out⟩
  | true =>
    rw [if_pos rfl]
    have h64 := (Lat.of hM hq).toOrd.n64
    have hle := least_end up h64
    rw [hn] at hle h64
    have hbl := belowN_lt (n : Nat)
    have hbs := bits_below n
    rw [← hle]
    replace hT := Lib.hid hT
    replace hr := Lib.hid hr
    replace hM := Lib.hid hM
    replace hn := Lib.hid hn
    replace hq := Lib.hid hq
    replace hle := Lib.hid hle
    replace hbs := Lib.hid hbs
    go_enter Tryd.func19, Tryd.ntmps19
    go_wp2_with fail
    refine (right_lat A n c up _ hT.out hn.out hn63 hM.out hr.out).mono ?_
    rintro x w1 ⟨rfl, hb1⟩
    rw [hq.out]
    have hr1 := Lib.hid ((hr.out.below hb1).more hb1.size)
    have hT1 := Lib.hid (hT.out.later hb1)
    replace hb1 := Lib.hid hb1
    go_wp2_with fail
    refine (below_any (n : Nat) w1 (by omega)).mono ?_
    rintro x w2 ⟨rfl, rfl⟩
    go_wp2_with fail
    refine (least_any A n c up _ w1 hT1.out hn.out hM.out hbl hbs.out hr1.out).mono ?_
    rintro x w2 ⟨rfl, hb2⟩
    replace hb2 := Lib.hid (hb1.out.trans (hb2.mono hb1.out.size))
    go_wp2_with fail
    go_ret2
    exact ⟨rfl, hb2.out⟩

theorem top_any (A : Option Addr) (n c : Nat) (up : List Nat) (w : World) (hT : Tab w) (hn : up.length = n) (hn63 : n ≤ maxLen) (hM : Masks up) (hr : Reads w w.heap.size 1 A n (u64s up)) :
    Calls Tryd.prog 20 #[.slice A n c] w fun e w' => e = .returned (.tuple #[.int .i64 (if latB up = true then farI up else 0), .bool (latB up)]) ∧ Below w.heap.size w w' := by
  have hml : maxLen = 9223372036854775807 := rfl
  cases hq : latB up with
  | false =>
    rw [if_neg (by simp)]
    replace hT := Lib.hid hT
    replace hr := Lib.hid hr
    replace hM := Lib.hid hM
    replace hn := Lib.hid hn
    replace hq := Lib.hid hq
    go_enter Tryd.func20, Tryd.ntmps20
    go_wp2_with fail
    refine (right_lat A n c up _ hT.out hn.out hn63 hM.out hr.out).mono ?_
    rintro x w1 ⟨rfl, hb1⟩
    rw [hq.out]
    replace hb1 := Lib.hid hb1
    go_wp2
    go_ret2
    exact ⟨rfl, hb1.out⟩
  | true =>
    rw [if_pos rfl]
    have hO := (Lat.of hM hq).toOrd
    have h64 := hO.n64
    have hn2 : (downs up).length = n := by rw [length_downs, hn]
    have hM2 := masks_downs h64
    have hle := least_end (downs up) (by rw [length_downs]; exact h64)
    rw [hn2, end_downs] at hle
    rw [hn] at h64
    have hbl := belowN_lt (n : Nat)
    have hbs := bits_below n
    rw [← hle]
    replace hT := Lib.hid hT
    replace hr := Lib.hid hr
    replace hM := Lib.hid hM
    replace hn := Lib.hid hn
    replace hq := Lib.hid hq
    replace hO := Lib.hid hO
    replace hn2 := Lib.hid hn2
    replace hM2 := Lib.hid hM2
    replace hle := Lib.hid hle
    replace hbs := Lib.hid hbs
    go_enter Tryd.func20, Tryd.ntmps20
    go_wp2_with fail
    refine (right_lat A n c up _ hT.out hn.out hn63 hM.out hr.out).mono ?_
    rintro x w1 ⟨rfl, hb1⟩
    rw [hq.out]
    have hr1 := Lib.hid ((hr.out.below hb1).more hb1.size)
    have hT1 := Lib.hid (hT.out.later hb1)
    replace hb1 := Lib.hid hb1
    go_wp2_with fail
    refine (turned_any A n c up w1 hT1.out hn.out hM.out hO.out hr1.out).mono ?_
    rintro x w2 ⟨g, rfl, hg, hbg, hb2⟩
    have hr2 := Lib.hid (reads_of_blk (n := n) hbg (by rw [u64s_len]; exact hn2.out) w2.heap.size hbg.lt)
    have hT2 := Lib.hid (hT1.out.later hb2)
    replace hb2 := Lib.hid (hb1.out.trans (hb2.mono hb1.out.size))
    replace hbg := Lib.hid hbg
    go_wp2_with fail
    refine (below_any (n : Nat) w2 (by omega)).mono ?_
    rintro x w3 ⟨rfl, rfl⟩
    go_wp2_with fail
    refine (least_any _ n n (downs up) _ w2 hT2.out hn2.out hM2.out hbl hbs.out hr2.out).mono ?_
    rintro x w3 ⟨rfl, hb3⟩
    replace hb3 := Lib.hid (hb2.out.trans (hb3.mono hb2.out.size))
    go_wp2_with fail
    go_ret2
    exact ⟨rfl, hb3.out⟩

end Go.Proofs.YtaclogfchlphlaaDoor
