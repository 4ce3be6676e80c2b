/- Two pairs of numbers held against each other. -/
import Derived.ChangeKeysEq
import Derived.Test.YtaclogfchlphlaaDoorChecked
import Derived.WalkKit
namespace Go.Proofs.YtaclogfchlphlaaDoor
open Go.RowKit

theorem pair_equalIn (x1 x2 y1 y2 : Int) (w : World) : (Op.equalIn 10000 33 (.agg #[.int .i64 x1, .int .i64 x2]) (.agg #[.int .i64 y1, .int .i64 y2])).run Tryd.prog w = .ok (x1 == y1 && x2 == y2) w := by
  obtain ⟨i, hi⟩ := info_of_underlying Tryd.underlying33
  have hp : Tryd.prog.plainKey 3 = true := by kernel_rfl
  have hc : Tryd.prog.cellsOf 3 = 1 := by kernel_rfl
  have he : ∀ (a b : Int) (w : World), (Op.equalIn 9999 3 (.int .i64 a) (.int .i64 b)).run Tryd.prog w = .ok (a == b) w := fun a b w => run_equalIn_int w 9998 _ .i64 .i64 a b Tryd.underlying3
  obtain ⟨i3, hi3⟩ := info_of_underlying Tryd.underlying3
  rw [run_equalIn_array w 9999 _ _ Tryd.underlying33 hi3, hc]
  have p0 : ∀ (a b : Int) (w : World), (part 3 #[.int .i64 a, .int .i64 b] (0 * 1)).run Tryd.prog w = .ok (.int .i64 a) w := fun a b w => run_part_plain w hp rfl
  have p1 : ∀ (a b : Int) (w : World), (part 3 #[.int .i64 a, .int .i64 b] (1 * 1)).run Tryd.prog w = .ok (.int .i64 b) w := fun a b w => run_part_plain w hp rfl
  rw [show List.range 2 = [0, 1] from rfl]
  simp only [Op.eqItems, Sem.run_bind, p0, p1, he, Result.andThen_ok, Sem.run_ite, Sem.run_pure]
  cases h1 : (x1 == y1) <;> cases h2 : (x2 == y2) <;> simp
end Go.Proofs.YtaclogfchlphlaaDoor
