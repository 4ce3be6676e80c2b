/- sym.Put$1: what a bit of a mask stands for. -/
import Derived.Test.YtfloonpchjbmnaaDoorSj
namespace Go.Proofs.YtfloonpchjbmnaaDoor
open Go.RowKit Go.Shelf Go.Idl

theorem stand_any (bit p1 p2 : Nat) (pc : Lb) (args : List Lb) (Z : Option Addr) (m d : Nat) (w : World) (hm6 : m ≤ 6) (h1 : Blk w p1 25 (lbC pc)) (h2 : w.cell? ⟨p2, 0, none⟩ = some (.slice Z m d)) (hl : args.length = m) (hz : Reads w w.heap.size 2 Z m (lbVals args)) (hbit : bit = 6 ∨ bit < m) :
    Calls Tryd.prog 30 #[.int .i64 (bit : Nat), .pointer (some ⟨p1, 0, none⟩), .pointer (some ⟨p2, 0, none⟩)] w fun e w' => e = .returned (lbV (stands args pc bit)) ∧ Below w.heap.size w w' := by
  have hB0 : Below w.heap.size w (w.alloc (.cells #[.int .i64 0, .int .u64 0] 25)) := (Below.refl _ w).alloc (Nat.le_refl _) _
  have hlt := h1.lt
  obtain ⟨c10, c11⟩ := pair_cells (h1.alloc (.cells #[.int .i64 0, .int .u64 0] 25))
  by_cases h6 : bit = 6
  · have e : stands args pc bit = pc := by unfold stands; rw [if_pos h6]
    rw [e]
    subst h6
    obtain ⟨pv, pm⟩ := pc
    dsimp only at c10 c11 ⊢
    replace hz := Lib.hid hz
    replace hl := Lib.hid hl
    replace h1 := Lib.hid h1
    replace e := Lib.hid e
    replace hB0 := Lib.hid hB0
    clear hbit
    have hne : ((6 : Int) == 6) = true := rfl
    go_enter Tryd.func30, Tryd.ntmps30
    go_wp2
    exact bodyPost_ret (v := .agg #[.int .i64 pv, .int .u64 (pm : Nat)]) (by simp [results, Tryd.f30, go_sem]) rfl ⟨rfl, (Below.refl _ w).alloc (Nat.le_refl _) _⟩
  · have hbm : bit < m := by omega
    have e : stands args pc bit = args.getD bit ⟨0, 0⟩ := by unfold stands; rw [if_neg h6]
    rw [e]
    obtain ⟨ad, hZ, hbk, q0, q1⟩ := reads_label hl ((hz.below hB0).more hB0.size) hbm
    subst hZ
    generalize args.getD bit ⟨0, 0⟩ = x at *
    obtain ⟨xv, xm⟩ := x
    dsimp only at q0 q1 ⊢
    have h2' : (w.alloc (.cells #[.int .i64 0, .int .u64 0] 25)).cell? ⟨p2, 0, none⟩ = some (.slice (some ad) m d) := (hB0.cell (p := ⟨p2, 0, none⟩) (World.block_lt_of_cell? _ _ h2)).trans h2
    have hne : ((bit : Int) == 6) = false := by simp; omega
    have hltb : ((bit : Int) < (m : Int)) := by omega
    replace hz := Lib.hid hz
    replace hl := Lib.hid hl
    replace h1 := Lib.hid h1
    replace e := Lib.hid e
    replace hB0 := Lib.hid hB0
    go_enter Tryd.func30, Tryd.ntmps30
    go_wp2
    exact bodyPost_ret (v := .agg #[.int .i64 xv, .int .u64 (xm : Nat)]) (by simp [results, Tryd.f30, go_sem]) rfl ⟨rfl, (Below.refl _ w).alloc (Nat.le_refl _) _⟩

end Go.Proofs.YtfloonpchjbmnaaDoor
