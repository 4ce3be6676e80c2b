/- SymGrows: its plain law, and a row of labels with one of them changed. -/
import Derived.Test.YtfloonpchjbmnaaDoorTw
import Derived.Test.YtfloonpchjbmnaaDoorSj
namespace Go.Idl
open Go Go.RowKit

theorem bothL_gd {up : List Nat} {a b : Lb} (h : bothL up a.lv b.lv = true) : Gd up a ∧ Gd up b := by
  obtain ⟨h1, h2, h3, h4, _⟩ := bothL_iff.1 h
  exact ⟨⟨a.lv.toNat, by omega, by omega⟩, ⟨b.lv.toNat, by omega, by omega⟩⟩
theorem both_of_gd {up : List Nat} {a b : Lb} (ha : Gd up a) (hb : Gd up b) (h : latB up = true) : bothL up a.lv b.lv = true :=
  bothL_iff.2 ⟨by rw [ha.eq]; omega, by rw [hb.eq]; omega, by have := ha.lt; rw [ha.eq]; omega, by have := hb.lt; rw [hb.eq]; omega, h⟩
theorem sjL_eq {up : List Nat} {a b : Lb} (h : bothL up a.lv b.lv = true) : sjL up a b = joinL up a b := by unfold sjL; rw [if_pos h]
theorem sjL_ms {up : List Nat} {a b : Lb} (ha : a.ms < 2 ^ 64) (hb : b.ms < 2 ^ 64) : (sjL up a b).ms < 2 ^ 64 := by
  unfold sjL
  split
  · exact Nat.or_lt_two_pow ha hb
  · exact Nat.two_pow_pos 64
theorem getD_setB {l : List Lb} {k j : Nat} {y : Lb} (hj : j < l.length) : (l.set k y).getD j ⟨0, 0⟩ = if k = j then y else l.getD j ⟨0, 0⟩ := by
  rw [List.getD_eq_getElem?_getD, List.getD_eq_getElem?_getD, List.getElem?_set]
  by_cases h : k = j
  · subst h
    simp [hj]
  · simp [h]
theorem set_lms {l : List Lb} {k : Nat} {y : Lb} (h : Lms l) (hy : y.ms < 2 ^ 64) : Lms (l.set k y) := by
  intro j
  by_cases hj : j < l.length
  · rw [getD_setB hj]
    split
    · exact hy
    · exact h j
  · rw [List.getD_eq_getElem?_getD, List.getElem?_eq_none (by rw [List.length_set]; omega)]
    exact Nat.two_pow_pos 64

theorem grows_at {up : List Nat} (hM : Masks up) {L : Lb} {As : List Lb} {Pc more : Lb} (h : putOk up L As Pc = true) (hb : bothL up Pc.lv more.lv = true) (k : Nat) :
    putOk up L (As.set k (sjL up (As.getD k ⟨0, 0⟩) more)) (sjL up Pc more) = true ∧ slB up (putL up L As Pc) (putL up L (As.set k (sjL up (As.getD k ⟨0, 0⟩) more)) (sjL up Pc more)) = true := by
  obtain ⟨k1, k2, k3, k4, k5, k6⟩ := putOk_iff.1 h
  obtain ⟨_, _, _, _, _, kg⟩ := put_parts h
  have La := Lat.of hM k2
  obtain ⟨gP, gm⟩ := bothL_gd hb
  have hy : ∀ j, j < As.length → Gd up (sjL up (As.getD j ⟨0, 0⟩) more) ∧ leL up (As.getD j ⟨0, 0⟩) (sjL up (As.getD j ⟨0, 0⟩) more) = true := by
    intro j hj
    have hg := kg j hj
    rw [sjL_eq (both_of_gd hg gm k2)]
    exact ⟨La.joinL_gd hg gm, le_joinL_left La hg gm⟩
  have hq : Gd up (sjL up Pc more) ∧ leL up Pc (sjL up Pc more) = true := by
    rw [sjL_eq hb]
    exact ⟨La.joinL_gd gP gm, le_joinL_left La gP gm⟩
  have hset : ∀ j, j < As.length → Gd up ((As.set k (sjL up (As.getD k ⟨0, 0⟩) more)).getD j ⟨0, 0⟩) ∧ leL up (As.getD j ⟨0, 0⟩) ((As.set k (sjL up (As.getD k ⟨0, 0⟩) more)).getD j ⟨0, 0⟩) = true := by
    intro j hj
    rw [getD_setB hj]
    by_cases hkj : k = j
    · subst hkj
      rw [if_pos rfl]
      exact hy k hj
    · rw [if_neg hkj]
      exact ⟨kg j hj, le_refl_of La (kg j hj)⟩
  obtain ⟨o1, o2, o3⟩ := grows_law hM (Bs := As.set k (sjL up (As.getD k ⟨0, 0⟩) more)) (Qc := sjL up Pc more) h (by rw [List.length_set]) hq.1 (by
    intro b hb'
    obtain ⟨j, hj, rfl⟩ := List.getElem_of_mem hb'
    have := (hset j (by simpa using hj)).1
    rwa [List.getD_eq_getElem?_getD, List.getElem?_eq_getElem hj] at this) hq.2 (fun j hj => (hset j hj).2)
  refine ⟨o1, ?_⟩
  rw [putL_ok h, putL_ok o1]
  unfold slB
  rw [o2, o3]
  rfl

theorem lbVals_set : ∀ (l : List Lb) (k : Nat) (y : Lb), lbVals (l.set k y) = ((lbVals l).set (k * 2) (.int .i64 y.lv)).set (k * 2 + 1) (.int .u64 (y.ms : Nat))
  | [], k, y => rfl
  | a :: r, 0, y => rfl
  | a :: r, k + 1, y => by
    have e1 : lbVals (a :: r) = .int .i64 a.lv :: .int .u64 (a.ms : Nat) :: lbVals r := rfl
    have e2 : lbVals (a :: r.set k y) = .int .i64 a.lv :: .int .u64 (a.ms : Nat) :: lbVals (r.set k y) := rfl
    rw [List.set_cons_succ, e1, e2, lbVals_set r k y, show (k + 1) * 2 = k * 2 + 1 + 1 by omega]
    rfl

theorem add0 (g j : Nat) : (⟨g, 0, none⟩ : Addr).add j = ⟨g, j, none⟩ := by
  unfold Addr.add
  split
  · rename_i h; subst h; rfl
  · simp

/-- A row of labels of the call's own: what it is made of, and one of its labels changed. -/
theorem own_labels {w : World} {base : Nat} {e : TypeId} {A1 : Option Addr} {m c1 : Nat} {ls : List Lb} (h : w.ownsRow base e 2 (.slice A1 m c1) m (lbVals ls)) (hm : 0 < m) (hl : ls.length = m) :
    ∃ (g : Nat) (cur : Array Value), A1 = some ⟨g, 0, none⟩ ∧ base ≤ g ∧ Blk w g e cur ∧ (∀ k, k < m → cur[k * 2]? = some (.int .i64 (ls.getD k ⟨0, 0⟩).lv) ∧ cur[k * 2 + 1]? = some (.int .u64 ((ls.getD k ⟨0, 0⟩).ms : Nat))) ∧
      ∀ (k : Nat) (y : Lb) (W : World), k < m → Blk W g e ((cur.setIfInBounds (k * 2) (.int .i64 y.lv)).setIfInBounds (k * 2 + 1) (.int .u64 (y.ms : Nat))) → Reads W W.heap.size 2 A1 m (lbVals (ls.set k y)) := by
  rcases h.2 with ⟨_, h0⟩ | ⟨g, cap, cur, hv, hb, hg, hcap, hmx, hcs, htk⟩
  · omega
  · have hA : A1 = some ⟨g, 0, none⟩ := by injection hv
    have hcc : c1 = cap := by injection hv
    subst hcc
    refine ⟨g, cur, hA, hb, hg, ?_, ?_⟩
    · intro k hk
      obtain ⟨v0, v1⟩ := lbVals_at ls k (by omega)
      rw [← htk, List.getElem?_take, if_pos (by omega)] at v0 v1
      simp only [Array.getElem?_toList] at v0 v1
      exact ⟨v0, v1⟩
    · intro k y W hk hB
      refine Reads.of_own (base := 0) (e := e) (c := c1) ⟨?_, .inr ⟨g, c1, _, by rw [hA], Nat.zero_le _, hB, hcap, hmx, by simpa using hcs, ?_⟩⟩
      · rw [lbVals_len, List.length_set, hl]
      · rw [lbVals_set, ← htk]
        simp [List.take_set]
end Go.Idl
