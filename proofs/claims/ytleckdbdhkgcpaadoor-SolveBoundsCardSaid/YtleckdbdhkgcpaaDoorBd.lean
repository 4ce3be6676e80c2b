/- A word on draws. -/
import Derived.Test.YtleckdbdhkgcpaaDoorLs
import Derived.Deep.QuietTactic
import Derived.BigQuiet
namespace Go.Proofs.YtleckdbdhkgcpaaDoor
open Go.RowKit Go.Idl

theorem below_drewN {B : Nat} {a w : World} (h : Below B a w) (n : Nat) : Below B a (w.drewN n) := ⟨h.os, h.tape, h.output, h.size, h.block⟩
end Go.Proofs.YtleckdbdhkgcpaaDoor
