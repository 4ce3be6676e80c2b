/- A label argument, opened. -/
import Derived.Test.YtfloonpchjbmnaaDoorOs
import Derived.Test.YtfloonpchjbmnaaDoorSl
namespace Go.Proofs.YtfloonpchjbmnaaDoor
open Go.RowKit Go.Idl Go.WideShapes Go.ChangeShapes Go.ChangeAt Go.Deep

theorem open_label {H : Type} {enc : TypeId × Value → H} {W : World} {r : Reach} {base b0 : Nat} {sp : Nat → Bool} {held : Bool} {v : Value} {d : DataW H} {p : List MemPlace}
    (hv : Value.okWide Tryd.prog W r b0 25 v) (h : DataW.Trod enc Tryd.prog W base sp held 25 v d p) :
    ∃ a : Lb, v = lbV a ∧ a.ms < 2 ^ 64 := by
  obtain ⟨u0, u1, y0, y1, fu, rfl, _, _, t0, t1⟩ := Joins.open_agg2 Tryd.underlying25 (by kernel_rfl) (by kernel_rfl) hv h
  obtain ⟨x, rfl, _⟩ := open_int_trod Tryd.underlying3 t0
  obtain ⟨y, rfl, hw⟩ := open_int_trod Tryd.underlying23 t1
  have hb := bounds_u64 hw
  refine ⟨⟨x, y.toNat⟩, ?_, by show y.toNat < 2 ^ 64; omega⟩
  have : ((y.toNat : Nat) : Int) = y := by omega
  simp [lbV, this]
end Go.Proofs.YtfloonpchjbmnaaDoor
