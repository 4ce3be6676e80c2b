/- The queue's own methods, as container/heap calls them. -/
import Derived.Lib.Hide
import Derived.Lib.Walk
import Derived.BigQuiet
import Derived.Deep.RegionHeld3
import Derived.Test.YtleckdbdhkgcpaaDoorKp
import Derived.Test.YtleckdbdhkgcpaaDoorRf
import Derived.Test.YtleckdbdhkgcpaaDoorChecked
namespace Go.Proofs.YtleckdbdhkgcpaaDoor
open Go.RowKit Go.Shelf Go.Idl

theorem wless_any (A : Option Addr) (n c : Nat) (zs : List Int) (i j : Nat) (w : World) (hn : zs.length = n) (hi : i < n) (hj : j < n) (hz : Reads w w.heap.size 1 A n (nums zs)) :
    Calls Tryd.prog 75 #[.slice A n c, .int .i64 (i : Nat), .int .i64 (j : Nat)] w fun e w' => e = .returned (.bool (decide (zs.getD i 0 < zs.getD j 0))) ∧ Below w.heap.size w w' := by
  obtain ⟨ad, rfl, hbk, hcl⟩ := hz.2 (by omega)
  have u0 := hcl i _ (nums_at (by omega))
  have u1 := hcl j _ (nums_at (by omega))
  generalize zs.getD i 0 = x at *
  generalize zs.getD j 0 = y at *
  have h0 : ((0 : Int) ≤ (i : Int)) := by omega
  have h1 : ((i : Int) < (n : Int)) := by omega
  have h2 : ((0 : Int) ≤ (j : Int)) := by omega
  have h3 : ((j : Int) < (n : Int)) := by omega
  replace hcl := Lib.hid hcl
  replace hz := Lib.hid hz
  go_enter Tryd.func75, Tryd.ntmps75
  go_wp2
  go_quiet (fail)
  go_wp2
  go_ret
  exact ⟨rfl, below_drewNs (Below.refl _ _) nq⟩

theorem wlen_any (A : Option Addr) (n c : Nat) (w : World) : Calls Tryd.prog 28 #[.slice A n c] w fun e w' => e = .returned (.int .i64 (n : Nat)) ∧ w = w' := by
  go_enter Tryd.func28, Tryd.ntmps28
  go_wp2
  go_ret
  exact ⟨rfl, rfl⟩
/-- Two places of the row change their numbers. -/
theorem wswap_any (g n c : Nat) (cur : Array Value) (x y : Int) (i j : Nat) (w : World) (hi : i < n) (hj : j < n) (k : Blk w g 3 cur) (u0 : cur[i]? = some (.int .i64 x)) (u1 : cur[j]? = some (.int .i64 y)) :
    Calls Tryd.prog 78 #[.slice (some ⟨g, 0, none⟩) n c, .int .i64 (i : Nat), .int .i64 (j : Nat)] w fun e w' => e = .returned (.tuple #[]) ∧ Blk w' g 3 ((cur.setIfInBounds i (.int .i64 y)).setIfInBounds j (.int .i64 x)) ∧ Below g w w' ∧ w'.heap.size = w.heap.size ∧ (∀ b, b ≠ g → w'.heap[b]? = w.heap[b]?) := by
  have q0 : w.cell? ⟨g, i, none⟩ = some (.int .i64 x) := (k.cell i).trans u0
  have q1 : w.cell? ⟨g, j, none⟩ = some (.int .i64 y) := (k.cell j).trans u1
  have f0 := k.frozen i
  have f1 := k.frozen j
  have h0 : ((0 : Int) ≤ (i : Int)) := by omega
  have h1 : ((i : Int) < (n : Int)) := by omega
  have h2 : ((0 : Int) ≤ (j : Int)) := by omega
  have h3 : ((j : Int) < (n : Int)) := by omega
  have a0 : (⟨g, 0, none⟩ : Addr).add i = ⟨g, i, none⟩ := by unfold Addr.add; split <;> simp_all
  have a1 : (⟨g, 0, none⟩ : Addr).add j = ⟨g, j, none⟩ := by unfold Addr.add; split <;> simp_all
  have fin : Blk ((w.setCell ⟨g, i, none⟩ (.int .i64 y)).setCell ⟨g, j, none⟩ (.int .i64 x)).drew g 3 ((cur.setIfInBounds i (.int .i64 y)).setIfInBounds j (.int .i64 x)) ∧ Below g w ((w.setCell ⟨g, i, none⟩ (.int .i64 y)).setCell ⟨g, j, none⟩ (.int .i64 x)).drew ∧ ((w.setCell ⟨g, i, none⟩ (.int .i64 y)).setCell ⟨g, j, none⟩ (.int .i64 x)).drew.heap.size = w.heap.size ∧ (∀ b, b ≠ g → ((w.setCell ⟨g, i, none⟩ (.int .i64 y)).setCell ⟨g, j, none⟩ (.int .i64 x)).drew.heap[b]? = w.heap[b]?) := by
    refine ⟨((k.set_ i _).set_ j _).drew, (((Below.refl g w).setCell (p := ⟨g, i, none⟩) (Nat.le_refl g) _).setCell (p := ⟨g, j, none⟩) (Nat.le_refl g) _).drew, by simp [World.setCell], fun b hb => ?_⟩
    show ((w.setCell ⟨g, i, none⟩ (.int .i64 y)).setCell ⟨g, j, none⟩ (.int .i64 x)).heap[b]? = w.heap[b]?
    rw [Below.heap_setCell _ _ _ _ hb, Below.heap_setCell _ _ _ _ hb]
  replace fin := Lib.hid fin
  replace k := Lib.hid k
  by_cases hij : i = j
  · subst hij
    obtain rfl : x = y := by
      rw [u0] at u1
      injection u1 with h
      injection h
    go_enter Tryd.func78, Tryd.ntmps78
    go_region_with (fail)
    all_goals (refine bodyPost_end (v := .tuple #[]) (results_none rfl _ _ _) rfl ?_; exact ⟨rfl, fin.out⟩)
  · go_enter Tryd.func78, Tryd.ntmps78
    go_region_with (fail)
    all_goals (refine bodyPost_end (v := .tuple #[]) (results_none rfl _ _ _) rfl ?_; exact ⟨rfl, fin.out⟩)

/-! ### which function an interface's method is -/
theorem m_push (p : Addr) (W : World) : Sem.run Tryd.prog (Go.method 209 57 (.pointer (some p)) "Push") W = .ok (77, .pointer (some p)) W := by kernel_rfl
theorem m_pop (p : Addr) (W : World) : Sem.run Tryd.prog (Go.method 209 57 (.pointer (some p)) "Pop") W = .ok (76, .pointer (some p)) W := by kernel_rfl
theorem m_len (p : Addr) (A : Option Addr) (n c : Nat) (W : World) (h : W.cell? p = some (.slice A n c)) : Sem.run Tryd.prog (Go.method 209 57 (.pointer (some p)) "Len") W = .ok (28, .slice A n c) W := by
  have e : Sem.run Tryd.prog (Go.method 209 57 (.pointer (some p)) "Len") W = Sem.run Tryd.prog (do let v ← Go.loadVar 58 p; pure (28, v)) W := by kernel_rfl
  rw [e]
  simp [go_sem, h]
theorem m_less (p : Addr) (A : Option Addr) (n c : Nat) (W : World) (h : W.cell? p = some (.slice A n c)) : Sem.run Tryd.prog (Go.method 209 57 (.pointer (some p)) "Less") W = .ok (75, .slice A n c) W := by
  have e : Sem.run Tryd.prog (Go.method 209 57 (.pointer (some p)) "Less") W = Sem.run Tryd.prog (do let v ← Go.loadVar 58 p; pure (75, v)) W := by kernel_rfl
  rw [e]
  simp [go_sem, h]
theorem m_swap (p : Addr) (A : Option Addr) (n c : Nat) (W : World) (h : W.cell? p = some (.slice A n c)) : Sem.run Tryd.prog (Go.method 209 57 (.pointer (some p)) "Swap") W = .ok (78, .slice A n c) W := by
  have e : Sem.run Tryd.prog (Go.method 209 57 (.pointer (some p)) "Swap") W = Sem.run Tryd.prog (do let v ← Go.loadVar 58 p; pure (78, v)) W := by kernel_rfl
  rw [e]
  simp [go_sem, h]
end Go.Proofs.YtleckdbdhkgcpaaDoor
