/- MaskSums: two sets have together as many as both at one time and each of them by itself; for every two sets, the library's table lying as its text lays it. -/
import Derived.Test.YtmfgonjlkehkoaaDoorCo
import Derived.Test.YtmfgonjlkehkoaaDoorMa
import Derived.Laws.DeepNot64
namespace Go.Proofs.YtmfgonjlkehkoaaDoor
open Go.RowKit Go.Idl

theorem walkMaskSums (a b : Nat) (ha : a < 2 ^ 64) (hb : b < 2 ^ 64) (w : World) (hT : Tab w) : Calls Tryd.prog 4 #[.int .u64 a, .int .u64 b] w fun e w' => e = .returned (.bool true) ∧ Below w.heap.size w w' := by
  have h1 := countN_sums a b
  have h2 := countN_not a ha
  have l1 := countN_le a
  have l2 := countN_le b
  have l3 := countN_le (a ||| b)
  have l4 := countN_le (a &&& b)
  have eo := Lib.hid (u64_or_eq a b ha hb)
  have ea := Lib.hid (u64_and_eq a b ha hb)
  have go := Lib.hid (Nat.or_lt_two_pow ha hb)
  have ga := Lib.hid (Nat.lt_of_le_of_lt Nat.and_le_left ha : a &&& b < 2 ^ 64)
  have q1 : (((countN a : Nat) : Int) + ((countN b : Nat) : Int) == ((countN (a ||| b) : Nat) : Int) + ((countN (a &&& b) : Nat) : Int)) = true := by
    rw [beq_iff_eq]; omega
  have ex := Lib.hid (xor_max a ha)
  have gx := Lib.hid (by omega : 2 ^ 64 - 1 - a < 2 ^ 64)
  have hle : (belowN ((countN a : Nat) : Int) : Int) ≤ (belowN 64 : Int) := by
    have := lowN_lt (countN a) l1
    rw [belowN_low ((countN a : Nat) : Int) (countN a) (by omega), show belowN 64 = 18446744073709551615 by decide]
    omega
  have q2 : (((64 - countN a : Nat) : Int) == 64 - ((countN a : Nat) : Int)) = true := by rw [beq_iff_eq]; omega
  replace h1 := Lib.hid h1
  replace h2 := Lib.hid h2
  replace ha := Lib.hid ha
  replace hb := Lib.hid hb
  replace hT := Lib.hid hT
  go_enter Tryd.func4, Tryd.ntmps4
  go_wp2_with fail
  refine (count_any a ha.out _ hT.out).mono ?_
  rintro e w1 ⟨rfl, hb1⟩
  replace hT := Lib.hid (hT.out.later hb1)
  replace hb1 := Lib.hid hb1
  go_wp2_with fail
  refine (count_any b hb.out _ hT.out).mono ?_
  rintro e w2 ⟨rfl, hb2⟩
  replace hT := Lib.hid (hT.out.later hb2)
  replace hb1 := Lib.hid (hb1.out.trans (hb2.mono hb1.out.size))
  clear hb2
  go_wp2_with fail
  rw [eo.out]
  refine (count_any _ go.out _ hT.out).mono ?_
  rintro e w3 ⟨rfl, hb2⟩
  replace hT := Lib.hid (hT.out.later hb2)
  replace hb1 := Lib.hid (hb1.out.trans (hb2.mono hb1.out.size))
  clear hb2
  go_wp2_with fail
  rw [ea.out]
  refine (count_any _ ga.out _ hT.out).mono ?_
  rintro e w4 ⟨rfl, hb2⟩
  replace hT := Lib.hid (hT.out.later hb2)
  replace hb1 := Lib.hid (hb1.out.trans (hb2.mono hb1.out.size))
  clear hb2
  go_wp2_with fail
  rw [ex.out]
  refine (count_any _ gx.out _ hT.out).mono ?_
  rintro e w5 ⟨rfl, hb2⟩
  replace hT := Lib.hid (hT.out.later hb2)
  replace hb1 := Lib.hid (hb1.out.trans (hb2.mono hb1.out.size))
  clear hb2
  rw [h2.out]
  go_wp2_with fail
  refine (count_any a ha.out _ hT.out).mono ?_
  rintro e w6 ⟨rfl, hb2⟩
  replace hT := Lib.hid (hT.out.later hb2)
  replace hb1 := Lib.hid (hb1.out.trans (hb2.mono hb1.out.size))
  clear hb2
  go_wp2_with fail
  refine (count_any a ha.out _ hT.out).mono ?_
  rintro e w7 ⟨rfl, hb2⟩
  replace hT := Lib.hid (hT.out.later hb2)
  replace hb1 := Lib.hid (hb1.out.trans (hb2.mono hb1.out.size))
  clear hb2
  go_wp2_with fail
  refine (below_any _ _ (by omega)).mono ?_
  rintro e w8 ⟨rfl, rfl⟩
  go_wp2_with fail
  refine (below_any _ _ (by decide)).mono ?_
  rintro e w8 ⟨rfl, rfl⟩
  go_wp2_with fail
  go_ret
  exact ⟨rfl, hb1.out⟩

end Go.Proofs.YtmfgonjlkehkoaaDoor
