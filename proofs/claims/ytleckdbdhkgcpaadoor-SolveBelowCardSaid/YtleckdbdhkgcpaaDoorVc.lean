/- slices.Clone of labels. -/
import Derived.WalkSpells
import Derived.Test.YtleckdbdhkgcpaaDoorVj
namespace Go.Proofs.YtleckdbdhkgcpaaDoor
open Go.RowKit Go.Shelf Go.Idl

theorem label_info : (Tryd.prog.info? 29).map (fun i => (i.zero, i.size, i.bytes)) = some (some (.agg #[.int .i64 0, .int .u64 0]), 2, 16) := by kernel_rfl
theorem info_parts2 {o : Option TypeInfo} {z : Value} {s b : Nat} (h : o.map (fun i => (i.zero, i.size, i.bytes)) = some (some z, s, b)) : ∃ i, o = some i ∧ i.zero = some z ∧ i.size = s ∧ i.bytes = b := by
  obtain ⟨i, rfl, he⟩ := Option.map_eq_some_iff.1 h
  injection he with h1 h2
  injection h2 with h2 h3
  exact ⟨i, rfl, h1, h2, h3⟩

/-- A copy of labels, in memory of its own. -/
def LabPost (l : Nat) (consts : List Lb) (w : World) (e : Ending) (w' : World) : Prop := ∃ L lL, e = .returned (.slice L l lL) ∧ w'.ownsRow w.heap.size 29 2 (.slice L l lL) l (lbVals consts) ∧ Below w.heap.size w w'

set_option maxHeartbeats 4000000 in
set_option maxRecDepth 100000 in
theorem clone_any (C : Option Addr) (l lc : Nat) (consts : List Lb) (w : World) (hl : consts.length = l) (hl63 : l ≤ 1000000) (hc : Reads w w.heap.size 2 C l (lbVals consts)) :
    Calls Tryd.prog 25 #[.slice C l lc] w fun e w' => LabPost l consts w e w' := by
  obtain ⟨i0, hi0, hz0, hz1, hz2⟩ := info_parts2 label_info
  have hml : maxLen = 9223372036854775807 := rfl
  have h1 := lbVals_one consts
  have hnil := fun (W : World) (a : Option Addr) (n c : Nat) => Lib.run_eql_slice_nil (P := Tryd.prog) W 23 29 a n c 0 0 Tryd.underlying23
  rcases C with _ | ad
  · have hl0 : l = 0 := by
      rcases Nat.eq_zero_or_pos l with h | h
      · exact h
      · obtain ⟨ad, h, _⟩ := hc.2 h
        cases h
    subst hl0
    have hcn : consts = [] := List.eq_nil_of_length_eq_zero hl
    have hn := World.ownsRow_nil w w.heap.size 29 2
    subst hcn
    replace hc := Lib.hid hc
    replace h1 := Lib.hid h1
    go_enter Tryd.func25, Tryd.ntmps25
    go_wp2
    go_ret
    exact ⟨none, 0, rfl, hn, Below.refl _ _⟩
  · replace hc := Lib.hid hc
    replace h1 := Lib.hid h1
    replace hl := Lib.hid hl
    go_enter Tryd.func25, Tryd.ntmps25
    go_wp2_with (at_builtin; refine wpList_append_copy w rfl _ _ 23 rfl 29 i0 (.agg #[.int .i64 0, .int .u64 0]) 2 16 Tryd.underlying23 hi0 hz0 hz1 hz2 rfl (by decide) rfl w.heap.size _ l _ (lbVals consts) rfl hc.out (Nat.le_refl _) h1.out (by rw [hml]; omega) (by omega) ?_; intro A' c' w1 ho1 hrc hbc)
    go_ret
    exact ⟨A', c', rfl, ho1, hbc⟩
end Go.Proofs.YtleckdbdhkgcpaaDoor
