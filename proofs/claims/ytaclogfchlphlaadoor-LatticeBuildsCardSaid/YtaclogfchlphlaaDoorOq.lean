/- An argument that is a slice of pairs, opened. -/
import Derived.Test.YtaclogfchlphlaaDoorFr
import Derived.Test.YtaclogfchlphlaaDoorBu
import Derived.Deep.Slices
namespace Go.Proofs.YtaclogfchlphlaaDoor
open Go.RowKit Go.Idl Go.WideShapes Go.ChangeShapes Go.ChangeAt Go.Deep

theorem choose_list {α : Type} {Q : Nat → α → Prop} : ∀ n, (∀ i, i < n → ∃ p, Q i p) → ∃ l : List α, l.length = n ∧ ∀ i p, l[i]? = some p → Q i p
  | 0, _ => ⟨[], rfl, fun i p h => by simp at h⟩
  | n + 1, h => by
    obtain ⟨l, hl, hq⟩ := choose_list n (fun i hi => h i (by omega))
    obtain ⟨p, hp⟩ := h n (by omega)
    refine ⟨l ++ [p], by simp [hl], fun i q hi => ?_⟩
    by_cases hin : i < l.length
    · rw [List.getElem?_append_left hin] at hi
      exact hq i q hi
    · rw [List.getElem?_append_right (by omega)] at hi
      have h0 : i = n := by
        have := (List.getElem?_eq_some_iff.1 hi).1
        simp at this
        omega
      subst h0
      rw [hl, Nat.sub_self] at hi
      obtain rfl : p = q := by simpa using hi
      exact hp

theorem open_pairs {H : Type} {enc : TypeId × Value → H} {W : World} {r : Reach} {base b0 : Nat} {sp : Nat → Bool} {held : Bool} {v : Value} {d : DataW H} {p : List MemPlace}
    (hv : Value.okWide Tryd.prog W r b0 22 v) (h : DataW.Trod enc Tryd.prog W base sp held 22 v d p) :
    ∃ (A : Option Addr) (m c : Nat) (ps : List (Int × Int)), v = .slice A m c ∧ ps.length = m ∧ Reads W W.heap.size 2 A m (pairVals ps) ∧ m ≤ maxLen := by
  obtain ⟨A, n, c, rfl⟩ := okWide_slice Tryd.underlying22 hv
  obtain ⟨fuel, hf⟩ := h
  have hC : Tryd.prog.cellsOf 33 = 2 := by kernel_rfl
  have hC1 : Tryd.prog.cellsOf 3 = 1 := by kernel_rfl
  rcases open_slice Tryd.underlying22 hf with ⟨hcs, _⟩ | ⟨a, len, cap, m, q, D, Pl, hcs, _, hl, hm, hmm, _, hi⟩
  · simp only [Value.cells, List.cons.injEq, Value.slice.injEq, and_true] at hcs
    obtain ⟨rfl, rfl, rfl⟩ := hcs
    exact ⟨none, 0, 0, [], rfl, rfl, Reads.none_, Nat.zero_le _⟩
  · simp only [Value.cells, List.cons.injEq, Value.slice.injEq, and_true] at hcs
    obtain ⟨rfl, rfl, rfl⟩ := hcs
    have hln : n ≤ m := by rw [hmm]; split <;> omega
    have hx : ∀ i, i < n → ∃ p : Int × Int, W.cell? (a.add (i * 2)) = some (.int .i64 p.1) ∧ W.cell? (a.add (i * 2 + 1)) = some (.int .i64 p.2) := by
      intro i hin
      obtain ⟨cs', hc, ht⟩ := hi i (by omega)
      rw [hC] at hc
      obtain ⟨_, hlen, hcell⟩ := World.cells?_some hc
      obtain ⟨xs, k, _, _, hl2, hxs, hel⟩ := DataW.trod_array Tryd.underlying33 ht
      rw [hC1] at hel
      have e0 := hel 0 (by omega)
      have e1 := hel 1 (by omega)
      rw [List.getElem?_eq_getElem (by omega)] at e0 e1
      obtain ⟨z0, h0, _, _⟩ := DataW.trod_int Tryd.underlying3 e0
      obtain ⟨z1, h1, _, _⟩ := DataW.trod_int Tryd.underlying3 e1
      match cs', hlen with
      | [u0, u1], _ =>
        simp at h0 h1
        subst h0 h1
        refine ⟨(z0, z1), hcell 0 (by omega), ?_⟩
        have := hcell 1 (by omega)
        rw [add_of_add] at this
        exact this
    obtain ⟨ps, hps, hq⟩ := choose_list n hx
    refine ⟨some a, n, c, ps, rfl, hps, ⟨by rw [pairVals_len, hps], fun hn => ⟨a, rfl, ?_, fun j u hu => ?_⟩⟩, Nat.le_trans hl hm⟩
    · obtain ⟨p, hp, _⟩ := hx 0 hn
      have := World.block_lt_of_cell? _ _ hp
      rwa [block_of_add] at this
    · have hj : j < n * 2 := by
        have := (List.getElem?_eq_some_iff.1 hu).1
        rw [pairVals_len, hps] at this
        exact this
      have hjl : j / 2 < ps.length := by omega
      have hp : ps[j / 2]? = some ps[j / 2] := List.getElem?_eq_getElem hjl
      obtain ⟨c0, c1⟩ := hq _ _ hp
      obtain ⟨v0, v1⟩ := pairVals_at ps (j / 2) _ hp
      rcases Nat.mod_two_eq_zero_or_one j with h2 | h2
      · have e : j / 2 * 2 = j := by omega
        rw [e] at v0 c0
        rw [v0] at hu
        rw [c0]
        exact hu
      · have e : j / 2 * 2 + 1 = j := by omega
        rw [e] at v1 c1
        rw [v1] at hu
        rw [c1]
        exact hu
end Go.Proofs.YtaclogfchlphlaaDoor
