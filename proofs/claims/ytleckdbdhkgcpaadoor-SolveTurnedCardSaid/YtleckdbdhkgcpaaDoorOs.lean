/- Fields of a struct argument opened: a slice of numbers; a number. -/
import Derived.Test.YtleckdbdhkgcpaaDoorFr
import Derived.Lib.SmallJoins
namespace Go.Idl
open Go Go.RowKit Go.WideShapes Go.ChangeShapes Go.ChangeAt

variable {H : Type} {enc : TypeId × Value → H} {P : Program}
theorem open_ints_trod {W : World} {base : Nat} {sp : Nat → Bool} {held : Bool} {t e : TypeId} {k : IntKind} {v : Value} {fuel : Nat} {x : DataW H × List MemPlace} (ht : P.underlying t = some (.slice e)) (he : P.underlying e = some (.int k)) (hc : P.cellsOf e = 1)
    (hf : DataW.trod enc P W base sp held fuel t [v] = some x) :
    ∃ (A : Option Addr) (n c : Nat) (zs : List Int), v = .slice A n c ∧ zs.length = n ∧ Reads W W.heap.size 1 A n (zs.map (Value.int k)) ∧ n ≤ maxLen ∧ (∀ z ∈ zs, (Lit.int k z).wf = true) ∧ n ≤ c ∧ c ≤ maxLen := by
  rcases open_ints ht he hc hf with ⟨hcs, hx⟩ | ⟨a, len, cap, zs, hcs, _, hl, hm, hz, hx, hcell, hwz⟩
  · obtain rfl : v = .slice none 0 0 := by simpa using hcs
    exact ⟨none, 0, 0, [], rfl, rfl, Reads.none_, Nat.zero_le _, fun z hz => (by cases hz), Nat.le_refl _, Nat.zero_le _⟩
  · obtain rfl : v = .slice (some a) len cap := by simpa using hcs
    have hln : len ≤ zs.length := by rw [hz]; split <;> omega
    refine ⟨some a, len, cap, zs.take len, rfl, by rw [List.length_take]; omega, ⟨by simp [List.length_map, List.length_take]; omega, fun hn => ⟨a, rfl, ?_, fun j u hu => ?_⟩⟩, Nat.le_trans hl hm, fun z hz' => hwz z (List.mem_of_mem_take hz'), hl, hm⟩
    · have := hcell 0 (by omega)
      have := World.block_lt_of_cell? _ _ this
      rwa [block_of_add] at this
    · have hj : j < len := by
        have := (List.getElem?_eq_some_iff.1 hu).1
        simp only [List.length_map, List.length_take] at this
        omega
      rw [hcell j (by omega), ← hu, List.getElem?_map, List.getElem?_take, if_pos hj, List.getElem?_eq_getElem (by omega)]
      simp [List.getD, show j < zs.length by omega]
theorem open_int_trod {W : World} {base : Nat} {sp : Nat → Bool} {held : Bool} {t : TypeId} {k : IntKind} {v : Value} {fuel : Nat} {x : DataW H × List MemPlace} (ht : P.underlying t = some (.int k))
    (hf : DataW.trod enc P W base sp held fuel t [v] = some x) : ∃ z : Int, v = .int k z ∧ (Lit.int k z).wf = true := by
  obtain ⟨z, hz, _, hw⟩ := DataW.trod_int ht hf
  exact ⟨z, by simpa using hz, hw⟩
end Go.Idl
