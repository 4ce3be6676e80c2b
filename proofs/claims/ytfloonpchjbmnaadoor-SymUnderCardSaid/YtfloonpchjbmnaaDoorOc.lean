/- Arguments that are slices of labels, and calls, opened. -/
import Derived.Test.YtfloonpchjbmnaaDoorOl
import Derived.Test.YtfloonpchjbmnaaDoorOm
import Derived.Test.YtfloonpchjbmnaaDoorSp
import Derived.Deep.SlicePairs
import Derived.Lib.SmallJoins
namespace Go.Proofs.YtfloonpchjbmnaaDoor
open Go.RowKit Go.Idl Go.WideShapes Go.ChangeShapes Go.ChangeAt Go.Deep Go.Joins

theorem choose_list {α : Type} {Q : Nat → α → Prop} : ∀ n, (∀ i, i < n → ∃ p, Q i p) → ∃ l : List α, l.length = n ∧ ∀ i p, l[i]? = some p → Q i p
  | 0, _ => ⟨[], rfl, fun i p h => by simp at h⟩
  | n + 1, h => by
    obtain ⟨l, hl, hq⟩ := choose_list n (fun i hi => h i (by omega))
    obtain ⟨p, hp⟩ := h n (by omega)
    refine ⟨l ++ [p], by simp [hl], fun i q hi => ?_⟩
    by_cases hin : i < l.length
    · rw [List.getElem?_append_left hin] at hi
      exact hq i q hi
    · rw [List.getElem?_append_right (by omega)] at hi
      have h0 : i = n := by
        have := (List.getElem?_eq_some_iff.1 hi).1
        simp at this
        omega
      subst h0
      rw [hl, Nat.sub_self] at hi
      obtain rfl : p = q := by simpa using hi
      exact hp

theorem open_label_trod {H : Type} {enc : TypeId × Value → H} {W : World} {base : Nat} {sp : Nat → Bool} {held : Bool} {fuel : Nat} {u0 u1 : Value} {x : DataW H × List MemPlace}
    (h : DataW.trod enc Tryd.prog W base sp held fuel 25 [u0, u1] = some x) : ∃ a : Lb, u0 = .int .i64 a.lv ∧ u1 = .int .u64 (a.ms : Nat) ∧ a.ms < 2 ^ 64 := by
  obtain ⟨y0, y1, n, hx, _, t0, t1⟩ := trod_struct2 Tryd.underlying25 h
  have c0 : Tryd.prog.cellsOf 3 = 1 := by kernel_rfl
  have c1 : Tryd.prog.cellsOf 23 = 1 := by kernel_rfl
  simp [c0, c1] at t0 t1
  obtain ⟨p, rfl, _⟩ := open_int_trod Tryd.underlying3 t0
  obtain ⟨q, rfl, hw⟩ := open_int_trod Tryd.underlying23 t1
  have hb := bounds_u64 hw
  exact ⟨⟨p, q.toNat⟩, rfl, by congr 1; show q = ((q.toNat : Nat) : Int); omega, by show q.toNat < 2 ^ 64; omega⟩

theorem open_labels_trod {H : Type} {enc : TypeId × Value → H} {W : World} {base : Nat} {sp : Nat → Bool} {held : Bool} {fuel : Nat} {v : Value} {x : DataW H × List MemPlace}
    (hf : DataW.trod enc Tryd.prog W base sp held fuel 26 [v] = some x) :
    ∃ (A : Option Addr) (m c : Nat) (ls : List Lb), v = .slice A m c ∧ ls.length = m ∧ Reads W W.heap.size 2 A m (lbVals ls) ∧ m ≤ maxLen ∧ Lms ls ∧ m ≤ c ∧ c ≤ maxLen := by
  have hC : Tryd.prog.cellsOf 25 = 2 := by kernel_rfl
  rcases open_slice Tryd.underlying26 hf with ⟨hcs, _⟩ | ⟨a, len, cap, m, q, D, Pl, hcs, _, hl, hm, hmm, _, hi⟩
  · obtain rfl : v = .slice none 0 0 := by simpa using hcs
    exact ⟨none, 0, 0, [], rfl, rfl, Reads.none_, Nat.zero_le _, fun k => Nat.two_pow_pos 64, Nat.le_refl _, Nat.zero_le _⟩
  · obtain rfl : v = .slice (some a) len cap := by simpa using hcs
    have hln : len ≤ m := by rw [hmm]; split <;> omega
    have hx : ∀ i, i < len → ∃ p : Lb, W.cell? (a.add (i * 2)) = some (.int .i64 p.lv) ∧ W.cell? (a.add (i * 2 + 1)) = some (.int .u64 (p.ms : Nat)) ∧ p.ms < 2 ^ 64 := by
      intro i hin
      obtain ⟨cs', hc, ht⟩ := hi i (by omega)
      rw [hC] at hc
      obtain ⟨_, hlen, hcell⟩ := World.cells?_some hc
      match cs', hlen with
      | [u0, u1], _ =>
        obtain ⟨p, rfl, rfl, hp⟩ := open_label_trod ht
        refine ⟨p, hcell 0 (by omega), ?_, hp⟩
        have := hcell 1 (by omega)
        rw [add_of_add] at this
        exact this
    obtain ⟨ps, hps, hq⟩ := choose_list len hx
    refine ⟨some a, len, cap, ps, rfl, hps, ⟨by rw [lbVals_len, hps], fun hn => ⟨a, rfl, ?_, fun j u hu => ?_⟩⟩, Nat.le_trans hl hm, fun k => ?_, hl, hm⟩
    · obtain ⟨p, hp, _⟩ := hx 0 hn
      have := World.block_lt_of_cell? _ _ hp
      rwa [block_of_add] at this
    · have hj : j < len * 2 := by
        have := (List.getElem?_eq_some_iff.1 hu).1
        rw [lbVals_len, hps] at this
        exact this
      have hjl : j / 2 < ps.length := by omega
      have hp : ps[j / 2]? = some (ps.getD (j / 2) ⟨0, 0⟩) := by rw [List.getD_eq_getElem?_getD, List.getElem?_eq_getElem hjl]; rfl
      obtain ⟨c0, c1, _⟩ := hq _ _ hp
      obtain ⟨v0, v1⟩ := lbVals_at ps (j / 2) hjl
      rcases Nat.mod_two_eq_zero_or_one j with h2 | h2
      · have e : j / 2 * 2 = j := by omega
        rw [e] at v0 c0
        rw [v0] at hu
        rw [c0]
        exact hu
      · have e : j / 2 * 2 + 1 = j := by omega
        rw [e] at v1 c1
        rw [v1] at hu
        rw [c1]
        exact hu
    · rw [List.getD_eq_getElem?_getD]
      cases h : ps[k]? with
      | none => exact Nat.two_pow_pos 64
      | some p => exact (hq _ _ h).2.2

theorem open_call {H : Type} {enc : TypeId × Value → H} {W : World} {base : Nat} {sp : Nat → Bool} {held : Bool} {fuel : Nat} {cs : List Value} {x : DataW H × List MemPlace}
    (hf : DataW.trod enc Tryd.prog W base sp held fuel 28 cs = some x) :
    ∃ (A : Option Addr) (n c : Nat) (up : List Nat) (l : Lb) (Z : Option Addr) (m d : Nat) (ls : List Lb) (pc : Lb), cs = [.slice A n c, .int .i64 l.lv, .int .u64 (l.ms : Nat), .slice Z m d, .int .i64 pc.lv, .int .u64 (pc.ms : Nat)] ∧
      up.length = n ∧ n ≤ maxLen ∧ Masks up ∧ Reads W W.heap.size 1 A n (u64s up) ∧ l.ms < 2 ^ 64 ∧ pc.ms < 2 ^ 64 ∧ ls.length = m ∧ m ≤ maxLen ∧ Reads W W.heap.size 2 Z m (lbVals ls) ∧ Lms ls ∧ m ≤ d ∧ d ≤ maxLen := by
  obtain ⟨y0, y1, y2, y3, q, hx, hlen, t0, t1, t2, t3⟩ := Go.Joins.trod_struct4 Tryd.underlying28 hf
  have k0 : Tryd.prog.cellsOf 22 = 1 := by kernel_rfl
  have k1 : Tryd.prog.cellsOf 25 = 2 := by kernel_rfl
  have k2 : Tryd.prog.cellsOf 26 = 1 := by kernel_rfl
  have k3 : Tryd.prog.cellsOf 28 = 6 := by kernel_rfl
  rw [k3] at hlen
  match cs, hlen with
  | [u0, u1, u2, u3, u4, u5], _ =>
    simp [k0, k1, k2] at t0 t1 t2 t3
    obtain ⟨A, n, c, zs, rfl, hz, hr, hm, hwf, _, _⟩ := open_ints_trod Tryd.underlying22 Tryd.underlying23 (by kernel_rfl) t0
    obtain ⟨l, rfl, rfl, hl⟩ := open_label_trod t1
    obtain ⟨Z, m, d, ls, rfl, hls, hrz, hmm, hlm, hmd, hdl⟩ := open_labels_trod t2
    obtain ⟨pc, rfl, rfl, hp⟩ := open_label_trod t3
    obtain ⟨up, hul, he, hM⟩ := masks_of_ints zs hwf
    rw [he] at hr
    exact ⟨A, n, c, up, l, Z, m, d, ls, pc, rfl, by omega, hm, hM, hr, hl, hp, hls, hmm, hrz, hlm, hmd, hdl⟩

theorem open_twice {H : Type} {enc : TypeId × Value → H} {W : World} {base : Nat} {sp : Nat → Bool} {held : Bool} {fuel : Nat} {cs : List Value} {x : DataW H × List MemPlace}
    (hf : DataW.trod enc Tryd.prog W base sp held fuel 44 cs = some x) :
    ∃ (A : Option Addr) (n c : Nat) (up : List Nat) (l : Lb) (Z : Option Addr) (m d : Nat) (ls : List Lb) (pc : Lb) (Y : Option Addr) (r e : Nat) (zs : List Int) (k : Int),
      cs = [.slice A n c, .int .i64 l.lv, .int .u64 (l.ms : Nat), .slice Z m d, .int .i64 pc.lv, .int .u64 (pc.ms : Nat), .slice Y r e, .int .i64 k] ∧
      up.length = n ∧ n ≤ maxLen ∧ Masks up ∧ Reads W W.heap.size 1 A n (u64s up) ∧ l.ms < 2 ^ 64 ∧ pc.ms < 2 ^ 64 ∧ ls.length = m ∧ m ≤ maxLen ∧ Reads W W.heap.size 2 Z m (lbVals ls) ∧ Lms ls ∧
      zs.length = r ∧ r ≤ maxLen ∧ Reads W W.heap.size 1 Y r (ints zs) := by
  obtain ⟨y0, y1, y2, q, hx, hlen, t0, t1, t2⟩ := trod_struct3 Tryd.underlying44 hf
  have k0 : Tryd.prog.cellsOf 28 = 6 := by kernel_rfl
  have k1 : Tryd.prog.cellsOf 37 = 1 := by kernel_rfl
  have k2 : Tryd.prog.cellsOf 3 = 1 := by kernel_rfl
  have k3 : Tryd.prog.cellsOf 44 = 8 := by kernel_rfl
  rw [k3] at hlen
  match cs, hlen with
  | [u0, u1, u2, u3, u4, u5, u6, u7], _ =>
    simp [k0, k1, k2] at t0 t1 t2
    obtain ⟨A, n, c, up, l, Z, m, d, ls, pc, he, hl, hm, hM, hr, hlm, hpm, hls, hmm, hz, hlms, _, _⟩ := open_call t0
    simp only [List.cons.injEq, and_true] at he
    obtain ⟨rfl, rfl, rfl, rfl, rfl, rfl⟩ := he
    obtain ⟨Y, r, e, zs, rfl, hzl, hy, hr2, _, _, _⟩ := open_ints_trod Tryd.underlying37 Tryd.underlying3 (by kernel_rfl) t1
    obtain ⟨k, rfl, _⟩ := open_int_trod Tryd.underlying3 t2
    exact ⟨A, n, c, up, l, Z, m, d, ls, pc, Y, r, e, zs, k, rfl, hl, hm, hM, hr, hlm, hpm, hls, hmm, hz, hlms, hzl, hr2, hy⟩

theorem open_caps {H : Type} {enc : TypeId × Value → H} {W : World} {base : Nat} {sp : Nat → Bool} {held : Bool} {fuel : Nat} {cs : List Value} {x : DataW H × List MemPlace}
    (hf : DataW.trod enc Tryd.prog W base sp held fuel 52 cs = some x) :
    ∃ (A : Option Addr) (n c : Nat) (up : List Nat) (c0 c1 c2 c3 c4 c5 c6 : Int) (l : Lb) (bo : Int), cs = [.slice A n c, .int .i64 c0, .int .i64 c1, .int .i64 c2, .int .i64 c3, .int .i64 c4, .int .i64 c5, .int .i64 c6, .int .i64 l.lv, .int .u64 (l.ms : Nat), .int .i64 bo] ∧
      up.length = n ∧ n ≤ maxLen ∧ Masks up ∧ Reads W W.heap.size 1 A n (u64s up) ∧ l.ms < 2 ^ 64 := by
  obtain ⟨y0, y1, y2, y3, q, hx, hlen, t0, t1, t2, t3⟩ := Go.Joins.trod_struct4 Tryd.underlying52 hf
  have k0 : Tryd.prog.cellsOf 22 = 1 := by kernel_rfl
  have k1 : Tryd.prog.cellsOf 50 = 7 := by kernel_rfl
  have k2 : Tryd.prog.cellsOf 25 = 2 := by kernel_rfl
  have k3 : Tryd.prog.cellsOf 3 = 1 := by kernel_rfl
  have k4 : Tryd.prog.cellsOf 52 = 11 := by kernel_rfl
  rw [k4] at hlen
  match cs, hlen with
  | [u0, u1, u2, u3, u4, u5, u6, u7, u8, u9, u10], _ =>
    simp [k0, k1, k2, k3] at t0 t1 t2 t3
    obtain ⟨A, n, c, zs, rfl, hz, hr, hm, hwf, _, _⟩ := open_ints_trod Tryd.underlying22 Tryd.underlying23 (by kernel_rfl) t0
    obtain ⟨xs, k, _, _, hl2, hxs, hel⟩ := DataW.trod_array Tryd.underlying50 t1
    rw [k3] at hel
    have e0 := hel 0 (by omega)
    have e1 := hel 1 (by omega)
    have e2 := hel 2 (by omega)
    have e3 := hel 3 (by omega)
    have e4 := hel 4 (by omega)
    have e5 := hel 5 (by omega)
    have e6 := hel 6 (by omega)
    rw [List.getElem?_eq_getElem (by omega)] at e0 e1 e2 e3 e4 e5 e6
    obtain ⟨z0, h0, _, _⟩ := DataW.trod_int Tryd.underlying3 e0
    obtain ⟨z1, h1, _, _⟩ := DataW.trod_int Tryd.underlying3 e1
    obtain ⟨z2, h2, _, _⟩ := DataW.trod_int Tryd.underlying3 e2
    obtain ⟨z3, h3, _, _⟩ := DataW.trod_int Tryd.underlying3 e3
    obtain ⟨z4, h4, _, _⟩ := DataW.trod_int Tryd.underlying3 e4
    obtain ⟨z5, h5, _, _⟩ := DataW.trod_int Tryd.underlying3 e5
    obtain ⟨z6, h6, _, _⟩ := DataW.trod_int Tryd.underlying3 e6
    simp at h0 h1 h2 h3 h4 h5 h6
    subst h0 h1 h2 h3 h4 h5 h6
    obtain ⟨l, rfl, rfl, hlm⟩ := open_label_trod t2
    obtain ⟨bo, rfl, _⟩ := open_int_trod Tryd.underlying3 t3
    obtain ⟨up, hul, he, hM⟩ := masks_of_ints zs hwf
    rw [he] at hr
    exact ⟨A, n, c, up, z0, z1, z2, z3, z4, z5, z6, l, bo, rfl, by omega, hm, hM, hr, hlm⟩
end Go.Proofs.YtfloonpchjbmnaaDoor
