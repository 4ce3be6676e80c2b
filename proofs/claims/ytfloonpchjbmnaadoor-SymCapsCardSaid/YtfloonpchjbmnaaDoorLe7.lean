/- Seven numbers held against themselves. -/
import Derived.ChangeKeysEq
import Derived.Test.YtfloonpchjbmnaaDoorChecked
import Derived.WalkKit
namespace Go.Proofs.YtfloonpchjbmnaaDoor
open Go.RowKit

theorem arr7_equalIn (c0 c1 c2 c3 c4 c5 c6 : Int) (w : World) : (Op.equalIn 10000 50 (.agg #[.int .i64 c0, .int .i64 c1, .int .i64 c2, .int .i64 c3, .int .i64 c4, .int .i64 c5, .int .i64 c6]) (.agg #[.int .i64 c0, .int .i64 c1, .int .i64 c2, .int .i64 c3, .int .i64 c4, .int .i64 c5, .int .i64 c6])).run Tryd.prog w = .ok true w := by
  have hp : Tryd.prog.plainKey 3 = true := by kernel_rfl
  have hc : Tryd.prog.cellsOf 3 = 1 := by kernel_rfl
  have he : ∀ (a : Int) (w : World), (Op.equalIn 9999 3 (.int .i64 a) (.int .i64 a)).run Tryd.prog w = .ok true w := fun a w => by
    have := run_equalIn_int (P := Tryd.prog) w 9998 _ .i64 .i64 a a Tryd.underlying3
    simpa using this
  obtain ⟨i3, hi3⟩ := info_of_underlying Tryd.underlying3
  rw [run_equalIn_array w 9999 _ _ Tryd.underlying50 hi3, hc]
  have p0 : ∀ (w : World), (part 3 #[.int .i64 c0, .int .i64 c1, .int .i64 c2, .int .i64 c3, .int .i64 c4, .int .i64 c5, .int .i64 c6] (0 * 1)).run Tryd.prog w = .ok (.int .i64 c0) w := fun w => run_part_plain w hp rfl
  have p1 : ∀ (w : World), (part 3 #[.int .i64 c0, .int .i64 c1, .int .i64 c2, .int .i64 c3, .int .i64 c4, .int .i64 c5, .int .i64 c6] (1 * 1)).run Tryd.prog w = .ok (.int .i64 c1) w := fun w => run_part_plain w hp rfl
  have p2 : ∀ (w : World), (part 3 #[.int .i64 c0, .int .i64 c1, .int .i64 c2, .int .i64 c3, .int .i64 c4, .int .i64 c5, .int .i64 c6] (2 * 1)).run Tryd.prog w = .ok (.int .i64 c2) w := fun w => run_part_plain w hp rfl
  have p3 : ∀ (w : World), (part 3 #[.int .i64 c0, .int .i64 c1, .int .i64 c2, .int .i64 c3, .int .i64 c4, .int .i64 c5, .int .i64 c6] (3 * 1)).run Tryd.prog w = .ok (.int .i64 c3) w := fun w => run_part_plain w hp rfl
  have p4 : ∀ (w : World), (part 3 #[.int .i64 c0, .int .i64 c1, .int .i64 c2, .int .i64 c3, .int .i64 c4, .int .i64 c5, .int .i64 c6] (4 * 1)).run Tryd.prog w = .ok (.int .i64 c4) w := fun w => run_part_plain w hp rfl
  have p5 : ∀ (w : World), (part 3 #[.int .i64 c0, .int .i64 c1, .int .i64 c2, .int .i64 c3, .int .i64 c4, .int .i64 c5, .int .i64 c6] (5 * 1)).run Tryd.prog w = .ok (.int .i64 c5) w := fun w => run_part_plain w hp rfl
  have p6 : ∀ (w : World), (part 3 #[.int .i64 c0, .int .i64 c1, .int .i64 c2, .int .i64 c3, .int .i64 c4, .int .i64 c5, .int .i64 c6] (6 * 1)).run Tryd.prog w = .ok (.int .i64 c6) w := fun w => run_part_plain w hp rfl
  rw [show List.range 7 = [0, 1, 2, 3, 4, 5, 6] from rfl]
  simp only [Op.eqItems, Sem.run_bind, p0, p1, p2, p3, p4, p5, p6, he, Result.andThen_ok, Sem.run_ite, Sem.run_pure]
  simp
end Go.Proofs.YtfloonpchjbmnaaDoor
