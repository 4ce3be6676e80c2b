/- mask.Last: the greatest number of a set. -/
import Derived.Test.YtmfgonjlkehkoaaDoorLe
import Derived.Test.YtmfgonjlkehkoaaDoorBi
import Derived.WalkKit
import Derived.WalkLawsBesides
import Derived.Lib.Hide
import Derived.Lib.BitFns
import Derived.Lib.ItoaNum
namespace Go.Proofs.YtmfgonjlkehkoaaDoor
open Go.RowKit Go.Idl

theorem range'_last (p : Nat → Bool) (k : Nat) (hk : p k = true) (n : Nat) (hn : k < n) (h : ∀ i, k < i → p i = false) : ((List.range n).filter p).getLast? = some k := by
  obtain ⟨d, rfl⟩ : ∃ d, n = k + 1 + d := ⟨n - k - 1, by omega⟩
  have e : (List.range (k + 1 + d)).filter p = (List.range (k + 1)).filter p := by
    rw [List.range_add, List.filter_append]
    have : ((List.range d).map (k + 1 + ·)).filter p = [] := by
      rw [List.filter_eq_nil_iff]
      intro x hx
      obtain ⟨y, _, rfl⟩ := List.mem_map.1 hx
      rw [h _ (by omega)]
      simp
    rw [this, List.append_nil]
  rw [e, List.range_succ, List.filter_append, List.filter_cons_of_pos hk]
  simp

theorem bits_last (m : Nat) (hm : m < 2 ^ 64) : (match (bitsOf m).getLast? with | none => (-1 : Int) | some k => (k : Int)) = (Lib.bitLen m : Int) - 1 := by
  by_cases h0 : m = 0
  · subst h0
    rw [bitsOf_zero]
    decide
  · obtain ⟨h1, h2, h3⟩ := Lib.bitLenAux_bounds 64 m hm h0
    have e : Lib.bitLen m = Lib.bitLenAux 64 m := rfl
    rw [e]
    generalize Lib.bitLenAux 64 m = b at h1 h2 h3
    obtain ⟨k, rfl⟩ : ∃ k, b = k + 1 := ⟨b - 1, by omega⟩
    simp only [Nat.add_sub_cancel] at h2
    have ht : m.testBit k = true := by
      rw [Nat.testBit_eq_decide_div_mod_eq]
      have : m / 2 ^ k = 1 := by
        rw [Nat.pow_succ] at h3
        apply Nat.le_antisymm
        · exact Nat.le_of_lt_succ ((Nat.div_lt_iff_lt_mul (Nat.two_pow_pos k)).2 (by omega))
        · exact (Nat.le_div_iff_mul_le (Nat.two_pow_pos k)).2 (by omega)
      rw [this]; rfl
    have hl : (bitsOf m).getLast? = some k := range'_last _ k ht 64 (tb_lt hm ht) fun i hi => Nat.testBit_lt_two_pow (Nat.lt_of_lt_of_le h3 (Nat.pow_le_pow_right (by decide) (by omega)))
    rw [hl]
    show (k : Int) = _
    omega

theorem last_any (m : Nat) (hm : m < 2 ^ 64) (w : World) :
    Calls Tryd.prog 13 #[.int .u64 m] w fun e w' => e = .returned (.int .i64 (match (bitsOf m).getLast? with | none => (-1 : Int) | some k => (k : Int))) ∧ w = w' := by
  rw [bits_last m hm]
  have C := len64_any m w (by omega) (by omega)
  rw [Int.toNat_natCast] at C
  have hb : Lib.bitLen m ≤ 64 := Lib.bitLen_le m 64 (by omega) hm
  replace C := Lib.hid C
  go_enter Tryd.func13, Tryd.ntmps13
  go_wp2_with fail
  refine C.out.mono ?_
  rintro e w' ⟨rfl, rfl⟩
  go_wp2_with fail
  go_ret
  exact ⟨rfl, rfl⟩

end Go.Proofs.YtmfgonjlkehkoaaDoor
