/- Arguments opened: labels, rows of numbers, a system. -/
import Derived.Test.YtleckdbdhkgcpaaDoorOm
import Derived.Test.YtleckdbdhkgcpaaDoorOs
import Derived.Test.YtleckdbdhkgcpaaDoorVr
import Derived.Deep.Slices
import Derived.Deep.SlicePairs
import Derived.Lib.SmallJoins
namespace Go.Proofs.YtleckdbdhkgcpaaDoor
open Go.RowKit Go.Idl Go.WideShapes Go.ChangeShapes Go.ChangeAt Go.Deep Go.Joins
set_option linter.unusedSimpArgs false
set_option linter.unusedVariables false

theorem choose_list {α : Type} {Q : Nat → α → Prop} : ∀ n, (∀ i, i < n → ∃ p, Q i p) → ∃ l : List α, l.length = n ∧ ∀ i p, l[i]? = some p → Q i p
  | 0, _ => ⟨[], rfl, fun i p h => by simp at h⟩
  | n + 1, h => by
    obtain ⟨l, hl, hq⟩ := choose_list n (fun i hi => h i (by omega))
    obtain ⟨p, hp⟩ := h n (by omega)
    refine ⟨l ++ [p], by simp [hl], fun i q hi => ?_⟩
    by_cases hin : i < l.length
    · rw [List.getElem?_append_left hin] at hi
      exact hq i q hi
    · rw [List.getElem?_append_right (by omega)] at hi
      have h0 : i = n := by
        have := (List.getElem?_eq_some_iff.1 hi).1
        simp at this
        omega
      subst h0
      rw [hl, Nat.sub_self] at hi
      obtain rfl : p = q := by simpa using hi
      exact hp

theorem open_label_trod {H : Type} {enc : TypeId × Value → H} {W : World} {base : Nat} {sp : Nat → Bool} {held : Bool} {fuel : Nat} {u0 u1 : Value} {x : DataW H × List MemPlace}
    (h : DataW.trod enc Tryd.prog W base sp held fuel 29 [u0, u1] = some x) : ∃ a : Lb, u0 = .int .i64 a.lv ∧ u1 = .int .u64 (a.ms : Nat) ∧ a.ms < 2 ^ 64 ∧ (Lit.int .i64 a.lv).wf = true := by
  obtain ⟨y0, y1, n, hx, _, t0, t1⟩ := trod_struct2 Tryd.underlying29 h
  have c0 : Tryd.prog.cellsOf 3 = 1 := by kernel_rfl
  have c1 : Tryd.prog.cellsOf 27 = 1 := by kernel_rfl
  simp [c0, c1] at t0 t1
  obtain ⟨p, rfl, hp⟩ := open_int_trod Tryd.underlying3 t0
  obtain ⟨q, rfl, hw⟩ := open_int_trod Tryd.underlying27 t1
  have hb := bounds_u64 hw
  exact ⟨⟨p, q.toNat⟩, rfl, by congr 1; show q = ((q.toNat : Nat) : Int); omega, by show q.toNat < 2 ^ 64; omega, hp⟩

theorem open_labels_trod {H : Type} {enc : TypeId × Value → H} {W : World} {base : Nat} {sp : Nat → Bool} {held : Bool} {fuel : Nat} {v : Value} {x : DataW H × List MemPlace}
    (hf : DataW.trod enc Tryd.prog W base sp held fuel 23 [v] = some x) :
    ∃ (A : Option Addr) (m c : Nat) (ls : List Lb), v = .slice A m c ∧ ls.length = m ∧ Reads W W.heap.size 2 A m (lbVals ls) ∧ m ≤ maxLen ∧ (∀ k, (ls.getD k z0).ms < 2 ^ 64) ∧ m ≤ c ∧ c ≤ maxLen := by
  have hC : Tryd.prog.cellsOf 29 = 2 := by kernel_rfl
  rcases open_slice Tryd.underlying23 hf with ⟨hcs, _⟩ | ⟨a, len, cap, m, q, D, Pl, hcs, _, hl, hm, hmm, _, hi⟩
  · obtain rfl : v = .slice none 0 0 := by simpa using hcs
    exact ⟨none, 0, 0, [], rfl, rfl, Reads.none_, Nat.zero_le _, fun k => Nat.two_pow_pos 64, Nat.le_refl _, Nat.zero_le _⟩
  · obtain rfl : v = .slice (some a) len cap := by simpa using hcs
    have hln : len ≤ m := by rw [hmm]; split <;> omega
    have hx : ∀ i, i < len → ∃ p : Lb, W.cell? (a.add (i * 2)) = some (.int .i64 p.lv) ∧ W.cell? (a.add (i * 2 + 1)) = some (.int .u64 (p.ms : Nat)) ∧ p.ms < 2 ^ 64 := by
      intro i hin
      obtain ⟨cs', hc, ht⟩ := hi i (by omega)
      rw [hC] at hc
      obtain ⟨_, hlen, hcell⟩ := World.cells?_some hc
      match cs', hlen with
      | [u0, u1], _ =>
        obtain ⟨p, rfl, rfl, hp, _⟩ := open_label_trod ht
        refine ⟨p, hcell 0 (by omega), ?_, hp⟩
        have := hcell 1 (by omega)
        rw [add_of_add] at this
        exact this
    obtain ⟨ps, hps, hq⟩ := choose_list len hx
    refine ⟨some a, len, cap, ps, rfl, hps, ⟨by rw [lbVals_len, hps], fun hn => ⟨a, rfl, ?_, fun j u hu => ?_⟩⟩, Nat.le_trans hl hm, fun k => ?_, hl, hm⟩
    · obtain ⟨p, hp, _⟩ := hx 0 hn
      have := World.block_lt_of_cell? _ _ hp
      rwa [block_of_add] at this
    · have hj : j < len * 2 := by
        have := (List.getElem?_eq_some_iff.1 hu).1
        rw [lbVals_len, hps] at this
        exact this
      have hjl : j / 2 < ps.length := by omega
      have hp : ps[j / 2]? = some (ps.getD (j / 2) ⟨0, 0⟩) := by rw [List.getD_eq_getElem?_getD, List.getElem?_eq_getElem hjl]; rfl
      obtain ⟨c0, c1, _⟩ := hq _ _ hp
      obtain ⟨v0, v1⟩ := lbVals_at ps (j / 2) hjl
      rcases Nat.mod_two_eq_zero_or_one j with h2 | h2
      · have e : j / 2 * 2 = j := by omega
        rw [e] at v0 c0
        rw [v0] at hu
        rw [c0]
        exact hu
      · have e : j / 2 * 2 + 1 = j := by omega
        rw [e] at v1 c1
        rw [v1] at hu
        rw [c1]
        exact hu
    · rw [List.getD_eq_getElem?_getD]
      cases h : ps[k]? with
      | none => exact Nat.two_pow_pos 64
      | some p => exact (hq _ _ h).2.2

theorem open_rows_trod {H : Type} {enc : TypeId × Value → H} {W : World} {base : Nat} {sp : Nat → Bool} {held : Bool} {fuel : Nat} {v : Value} {x : DataW H × List MemPlace}
    (hf : DataW.trod enc Tryd.prog W base sp held fuel 24 [v] = some x) :
    ∃ (A : Option Addr) (m c : Nat) (needs : List (List Int)), v = .slice A m c ∧ NRows W W.heap.size A m needs ∧ m ≤ maxLen ∧ m ≤ c ∧ c ≤ maxLen := by
  have hC : Tryd.prog.cellsOf 40 = 1 := by kernel_rfl
  have hC1 : Tryd.prog.cellsOf 3 = 1 := by kernel_rfl
  rcases open_slice Tryd.underlying24 hf with ⟨hcs, _⟩ | ⟨a, len, cap, m, q, D, Pl, hcs, _, hl, hm, hmm, _, hi⟩
  · obtain rfl : v = .slice none 0 0 := by simpa using hcs
    exact ⟨none, 0, 0, [], rfl, ⟨rfl, [], Reads.none_, fun i hi => absurd hi (Nat.not_lt_zero i)⟩, Nat.zero_le _, Nat.le_refl _, Nat.zero_le _⟩
  · obtain rfl : v = .slice (some a) len cap := by simpa using hcs
    have hln : len ≤ m := by rw [hmm]; split <;> omega
    have hx : ∀ i, i < len → ∃ p : Value × List Int, W.cell? (a.add i) = some p.1 ∧ ∃ A c, p.1 = .slice A p.2.length c ∧ p.2.length ≤ c ∧ c ≤ maxLen ∧ Reads W W.heap.size 1 A p.2.length (nums p.2) := by
      intro i hin
      obtain ⟨cs', hc, ht⟩ := hi i (by omega)
      rw [hC, Nat.mul_one] at hc
      obtain ⟨_, hlen, hcell⟩ := World.cells?_some hc
      match cs', hlen with
      | [u0], _ =>
        obtain ⟨A, n, c, zs, rfl, hz, hr, _, _, h1, h2⟩ := open_ints_trod Tryd.underlying40 Tryd.underlying3 hC1 ht
        refine ⟨(.slice A n c, zs), hcell 0 (by omega), A, c, by rw [hz], (show zs.length ≤ c by omega), h2, ?_⟩
        show Reads W W.heap.size 1 A zs.length (nums zs)
        rw [hz]
        exact hr
    obtain ⟨ps, hps, hq⟩ := choose_list len hx
    have hget : ∀ i, i < len → ps[i]? = some ps[i]! := fun i hi => by
      rw [List.getElem?_eq_getElem (by omega), List.getElem!_eq_getElem?_getD, List.getElem?_eq_getElem (by omega)]
      rfl
    refine ⟨some a, len, cap, ps.map (·.2), rfl, ⟨by rw [List.length_map, hps], ps.map (·.1), ⟨by rw [List.length_map, hps]; omega, fun hn => ⟨a, rfl, ?_, fun j u hu => ?_⟩⟩, fun i hi => ?_⟩, Nat.le_trans hl hm, hl, hm⟩
    · obtain ⟨p, hp, _⟩ := hx 0 hn
      have := World.block_lt_of_cell? _ _ hp
      rwa [block_of_add] at this
    · rw [List.getElem?_map] at hu
      obtain ⟨p, hp, rfl⟩ := Option.map_eq_some_iff.1 hu
      exact (hq j p hp).1
    · obtain ⟨h1, A, c, e, l1, l2, hr⟩ := hq i _ (hget i hi)
      have e2 : (ps.map (·.2)).getD i [] = ps[i]!.2 := by
        rw [List.getD_eq_getElem?_getD, List.getElem?_map, hget i hi]
        rfl
      rw [e2]
      refine ⟨A, c, ?_, l1, l2, hr⟩
      rw [List.getElem?_map, hget i hi, ← e]
      rfl

/-- A system, opened. -/
theorem open_sys {H : Type} {enc : TypeId × Value → H} {W : World} {r : Reach} {base b0 : Nat} {sp : Nat → Bool} {held : Bool} {v : Value} {d : DataW H} {p : List MemPlace}
    (hv : Value.okWide Tryd.prog W r b0 26 v) (h : DataW.Trod enc Tryd.prog W base sp held 26 v d p) :
    ∃ (C D : Option Addr) (l lc m mc : Nat) (consts : List Lb) (needs : List (List Int)), v = .agg #[.slice C l lc, .slice D m mc] ∧ consts.length = l ∧ l ≤ maxLen ∧ Reads W W.heap.size 2 C l (lbVals consts) ∧ (∀ k, (consts.getD k z0).ms < 2 ^ 64) ∧ m ≤ maxLen ∧ NRows W W.heap.size D m needs := by
  obtain ⟨u0, u1, y0, y1, fu, rfl, _, _, t0, t1⟩ := Joins.open_agg2 Tryd.underlying26 (by kernel_rfl) (by kernel_rfl) hv h
  obtain ⟨C, l, lc, consts, rfl, h1, h2, h3, h4, _, _⟩ := open_labels_trod t0
  obtain ⟨D, m, mc, needs, rfl, g1, g2, _, _⟩ := open_rows_trod t1
  exact ⟨C, D, l, lc, m, mc, consts, needs, rfl, h1, h3, h2, h4, g2, g1⟩
theorem open_labels {H : Type} {enc : TypeId × Value → H} {W : World} {r : Reach} {base b0 : Nat} {sp : Nat → Bool} {held : Bool} {v : Value} {d : DataW H} {p : List MemPlace}
    (hv : Value.okWide Tryd.prog W r b0 23 v) (h : DataW.Trod enc Tryd.prog W base sp held 23 v d p) :
    ∃ (A : Option Addr) (m c : Nat) (ls : List Lb), v = .slice A m c ∧ ls.length = m ∧ Reads W W.heap.size 2 A m (lbVals ls) ∧ m ≤ maxLen ∧ (∀ k, (ls.getD k z0).ms < 2 ^ 64) ∧ m ≤ c ∧ c ≤ maxLen := by
  obtain ⟨A, n, c, rfl⟩ := okWide_slice Tryd.underlying23 hv
  obtain ⟨fuel, hf⟩ := h
  exact open_labels_trod hf
theorem labels_room {H : Type} {enc : TypeId × Value → H} {W : World} {base : Nat} {sp : Nat → Bool} {held : Bool} {A : Option Addr} {m c : Nat} {d : DataW H} {p : List MemPlace} {ts : List TypeId} {ds : List (DataW H)} {j : Nat}
    (hsz : (DataW.weightsEach Tryd.prog ts ds).all (· ≤ reachBytes) = true) (ht : ts[j]? = some 23) (hd : ds[j]? = some d)
    (h : DataW.Trod enc Tryd.prog W base sp held 23 (.slice A m c) d p) : m * 16 ≤ 140737488355328 := by
  obtain ⟨fuel, hf⟩ := h
  rcases DataW.trod_slice Tryd.underlying23 hf with ⟨hcs, _⟩ | ⟨a, len, cap, elems, rest, n, _, hcs, hx, _, _, _, hl, _⟩
  · obtain ⟨_, rfl, _⟩ : A = none ∧ m = 0 ∧ c = 0 := by simpa [Value.cells] using hcs
    omega
  · obtain ⟨_, rfl, _⟩ : A = some a ∧ m = len ∧ c = cap := by simpa [Value.cells] using hcs
    have hx1 : d = .slice (elems.map (·.1)) (rest.map (·.1)) := (Prod.mk.inj hx).1
    subst hx1
    have := sized_slice hsz ht hd Tryd.underlying23
    have hb : Tryd.prog.bytesOf 29 = 16 := by kernel_rfl
    have hR : reachBytes = 140737488351232 := rfl
    rw [hb, hR] at this
    simp only [List.length_map] at this
    rw [← hl]
    omega
end Go.Proofs.YtleckdbdhkgcpaaDoor
