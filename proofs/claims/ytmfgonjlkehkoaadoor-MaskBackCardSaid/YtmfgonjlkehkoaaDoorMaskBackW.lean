/- The walk of MaskBack. -/
import Derived.Test.YtmfgonjlkehkoaaDoorMaskAllW
import Derived.Test.YtmfgonjlkehkoaaDoorOf
namespace Go.Proofs.YtmfgonjlkehkoaaDoor
open Go.RowKit Go.Idl

def intsOf (m : Nat) : List Int := (bitsOf m).map fun k : Nat => (k : Int)
theorem fold_with (j : Nat) : ∀ (l : List Int) (m : Nat), (∀ i ∈ l, 0 ≤ i ∧ i < 64) → ((l.foldl (fun m i => withN m i) m).testBit j = true ↔ m.testBit j = true ∨ (j : Int) ∈ l)
  | [], m, _ => by simp
  | i :: r, m, h => by
    have hi := h i (by simp)
    rw [List.foldl_cons, fold_with j r _ (fun x hx => h x (by simp [hx]))]
    unfold withN
    rw [if_pos hi, testBit_or_bit]
    simp only [Bool.or_eq_true, decide_eq_true_eq, List.mem_cons]
    constructor
    · rintro ((h0 | h0) | h0)
      · exact .inl h0
      · exact .inr (.inl (by omega))
      · exact .inr (.inr h0)
    · rintro (h0 | h0 | h0)
      · exact .inl (.inl h0)
      · exact .inl (.inr (by omega))
      · exact .inr h0
theorem ofN_bits (m : Nat) (hm : m < 2 ^ 64) : ofN (intsOf m) = m := by
  apply Nat.eq_of_testBit_eq
  intro j
  rw [Bool.eq_iff_iff]
  unfold ofN
  rw [fold_with j]
  · unfold intsOf
    simp only [Nat.zero_testBit, Bool.false_eq_true, false_or, List.mem_map]
    constructor
    · rintro ⟨a, ha, e⟩
      have : a = j := by omega
      subst this
      exact (mem_bitsOf.1 ha).2
    · intro h
      exact ⟨j, mem_bitsOf.2 ⟨tb_lt hm h, h⟩, rfl⟩
  · intro i hi
    unfold intsOf at hi
    obtain ⟨a, ha, rfl⟩ := List.mem_map.1 hi
    have := (mem_bitsOf.1 ha).1
    omega
theorem ofOk_bits (m : Nat) : ofOk (intsOf m) = true := by
  unfold ofOk intsOf
  rw [List.all_eq_true]
  intro i hi
  obtain ⟨a, ha, rfl⟩ := List.mem_map.1 hi
  have := (mem_bitsOf.1 ha).1
  unfold okI
  simp; omega
theorem outN_bits (m : Nat) (hm : m < 2 ^ 64) : outN (intsOf m) = m := by unfold outN; rw [ofOk_bits, if_pos rfl, ofN_bits m hm]
theorem has_with (m k : Nat) (hk : k < 64) : hasB (withN m k) k = true := by
  rw [hasB_in hk]
  unfold withN
  rw [if_pos (by omega), Int.toNat_natCast, testBit_or_bit]
  simp
theorem has_without (m k : Nat) (hm : m < 2 ^ 64) (hk : k < 64) : hasB (withoutN m k) k = false := by
  rw [hasB_in hk, testBit_withoutN m k k hm hk]
  simp
theorem without_with (m k : Nat) (hm : m < 2 ^ 64) (hk : k < 64) : withoutN (withN m k) k = withoutN m k := by
  apply Nat.eq_of_testBit_eq
  intro j
  rw [testBit_withoutN _ k j (withN_lt m k hm) hk, testBit_withoutN m k j hm hk]
  unfold withN
  rw [if_pos (by omega), Int.toNat_natCast, testBit_or_bit]
  by_cases h : j = k
  · simp [h]
  · have : ¬ k = j := fun e => h e.symm
    simp [h, this]

theorem walkMaskBack (m k : Nat) (hm : m < 2 ^ 64) (hk : k < 256) (w : World) (hT : Tab w) : Calls Tryd.prog 6 #[.int .u64 m, .int .u8 k] w fun e w' => e = .returned (.bool true) ∧ Below w.heap.size w w' := by
  have hmod := Lib.hid (show ((k : Int) % 64) = ((k % 64 : Nat) : Int) by omega)
  have hj : k % 64 < 64 := Nat.mod_lt _ (by decide)
  generalize k % 64 = j at *
  have ht : tk m 64 = bitsOf m := List.take_of_length_le (countN_le m)
  have hle := countN_le m
  have hcl : (bitsOf m).length = countN m := rfl
  have CH := fun W (h : Tab W) => hall_any m hm 64 W h
  rw [ht, hcl] at CH
  replace CH := Lib.hid CH
  have e1 := Lib.hid (outN_bits m hm)
  have e2 := Lib.hid (ofOk_bits m)
  have e3 := Lib.hid (has_with m j hj)
  have e4 := Lib.hid (has_without m j hm hj)
  have e5 := Lib.hid (without_with m j hm hj)
  have hw := Lib.hid (withN_lt m j hm)
  have hwo := Lib.hid (withoutN_lt m j hm)
  have q1 : (((withoutN m j : Nat) : Int) == ((withoutN m j : Nat) : Int)) = true := by simp
  have q0 : ((m : Int) == (m : Int)) = true := by simp
  have hm' := Lib.hid hm
  replace hT := Lib.hid hT
  clear ht hcl hm
  go_enter Tryd.func6, Tryd.ntmps6
  go_wp2_with fail
  rw [hmod.out]
  refine (CH.out _ hT.out).mono ?_
  rintro e w1 ⟨A, c, rfl, hown, hb1⟩
  have hr := Reads.of_own hown
  rw [nats_ints] at hr
  replace hr := Lib.hid hr
  replace hb1 := Lib.hid hb1
  clear hown
  go_wp2_with fail
  refine (of_any A c (countN m) (intsOf m) w1 (by unfold intsOf; rw [List.length_map]; rfl) (by omega) hr.out).mono ?_
  rintro e w2 ⟨rfl, rfl⟩
  rw [e1.out, e2.out]
  go_wp2_with fail
  refine (with_any m j _ hm'.out).mono ?_
  rintro e w2 ⟨rfl, rfl⟩
  go_wp2_with fail
  refine (has_any _ j _ hw.out).mono ?_
  rintro e w2 ⟨rfl, rfl⟩
  rw [e3.out]
  go_wp2_with fail
  refine (without_any m j _ hm'.out).mono ?_
  rintro e w2 ⟨rfl, rfl⟩
  go_wp2_with fail
  refine (has_any _ j _ hwo.out).mono ?_
  rintro e w2 ⟨rfl, rfl⟩
  rw [e4.out]
  go_wp2_with fail
  refine (with_any m j _ hm'.out).mono ?_
  rintro e w2 ⟨rfl, rfl⟩
  go_wp2_with fail
  refine (without_any _ j _ hw.out).mono ?_
  rintro e w2 ⟨rfl, rfl⟩
  rw [e5.out]
  go_wp2_with fail
  refine (without_any m j _ hm'.out).mono ?_
  rintro e w2 ⟨rfl, rfl⟩
  go_wp2_with fail
  go_ret
  exact ⟨rfl, hb1.out⟩

end Go.Proofs.YtmfgonjlkehkoaaDoor
