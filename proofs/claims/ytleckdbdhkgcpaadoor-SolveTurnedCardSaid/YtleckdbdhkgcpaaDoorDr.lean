/- What the card's listed variable gives the walks: the library's table lies as its text lays it. -/
import Derived.Test.YtleckdbdhkgcpaaDoorRows
import Derived.Test.YtleckdbdhkgcpaaDoorTz
import Derived.Test.YtleckdbdhkgcpaaDoorFr
import Derived.Lib.LaidTab
namespace Go.Proofs.YtleckdbdhkgcpaaDoor
open Go.RowKit Go.Idl

theorem own : ownKnob Tryd.prog.godebug = none := by kernel_rfl
abbrev laidT : List (String × DataW Unit) := [("math/bits.deBruijn64tab", Rows.laid_math_bits_deBruijn64tab)]
def tabInts : List Int := Lib.deBruijn64tab.map fun n : Nat => (n : Int)
theorem laidT_eq : laidT = [("math/bits.deBruijn64tab", Lib.tabData .u8 tabInts)] := by kernel_rfl
theorem door_met (os : Os) (args : Array Value) : laidMetH Tryd.prog laidT ((World.doorLaid Tryd.prog 400 os).forCall (fun _ _ => 0) ⟨#[], args, []⟩).memory :=
  laidMetH_of_parts3 (fuel := 8) (laidMet_of_run' 8 (by kernel_rfl) (by kernel_rfl)) (by kernel_rfl) (by kernel_rfl)

theorem tab_of_laid {W : World} (h : laidMetH Tryd.prog laidT W) : Tab W := by
  rw [MakeChecks.laidMetH_plain _ _ _ (by kernel_rfl), laidT_eq] at h
  have g : Tryd.prog.globalNamed "math/bits.deBruijn64tab" = some 0 := by kernel_rfl
  have h1 := Lib.tabIs_of_head (t := 91) (e := 5) (n := 64) g (by kernel_rfl) Tryd.underlying91 Tryd.underlying5 (by kernel_rfl) (by kernel_rfl) h
  have hc : ∀ j, j < 64 → W.cell? ⟨0, j, none⟩ = some (.int .u8 (tabInts.getD j 0)) := fun j hj => h1.cell g j (by simp [tabInts]; exact hj)
  refine ⟨Nat.lt_of_le_of_lt (Nat.zero_le _) (World.block_lt_of_cell? _ _ (hc 0 (by decide))), fun j hj => ?_⟩
  rw [hc j hj]
  simp [tabInts, List.getD]
  rw [List.getElem?_eq_getElem hj]
  rfl
end Go.Proofs.YtleckdbdhkgcpaaDoor
