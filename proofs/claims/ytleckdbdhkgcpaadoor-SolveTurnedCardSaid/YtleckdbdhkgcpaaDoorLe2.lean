/- Two labels held against each other. -/
import Derived.ChangeKeysEq
import Derived.Test.YtleckdbdhkgcpaaDoorChecked
import Derived.WalkKit
namespace Go.Proofs.YtleckdbdhkgcpaaDoor
open Go.RowKit

theorem label_equalIn (x1 y1 x2 y2 : Int) (w : World) : (Op.equalIn 10000 29 (.agg #[.int .i64 x1, .int .u64 x2]) (.agg #[.int .i64 y1, .int .u64 y2])).run Tryd.prog w = .ok (x1 == y1 && x2 == y2) w := by
  have hu : Tryd.prog.underlying 29 = some (.struct (Tryd.prog.fieldsOf 29)) := by kernel_rfl
  have hp : Tryd.prog.stoodInHeld 29 = false := by kernel_rfl
  have he : ∀ (a b : Int) (w : World), (Op.equalIn 9999 3 (.int .i64 a) (.int .i64 b)).run Tryd.prog w = .ok (a == b) w := fun a b w => run_equalIn_int w 9998 _ .i64 .i64 a b Tryd.underlying3
  have he2 : ∀ (a b : Int) (w : World), (Op.equalIn 9999 27 (.int .u64 a) (.int .u64 b)).run Tryd.prog w = .ok (a == b) w := fun a b w => run_equalIn_int w 9998 _ .u64 .u64 a b Tryd.underlying27
  have p0 : ∀ (a b : Int) (w : World), (part 3 #[.int .i64 a, .int .u64 b] 0).run Tryd.prog w = .ok (.int .i64 a) w := fun a b w => run_part_plain w (by kernel_rfl) rfl
  have p1 : ∀ (a b : Int) (w : World), (part 27 #[.int .i64 a, .int .u64 b] 1).run Tryd.prog w = .ok (.int .u64 b) w := fun a b w => run_part_plain w (by kernel_rfl) rfl
  rw [run_equalIn_struct w 9999 _ _ _ hu hp]
  have hl : ((Tryd.prog.fieldsOf 29).toList.map fun f => (f.type, f.offset, f.name == "_")) = [(3, 0, false), (27, 1, false)] := by kernel_rfl
  generalize (Tryd.prog.fieldsOf 29).toList = l at hl
  rcases l with _ | ⟨f0, _ | ⟨f1, _ | ⟨f2, r⟩⟩⟩
  · simp at hl
  · simp at hl
  · simp only [List.map_cons, List.map_nil, List.cons.injEq, Prod.mk.injEq, and_true, beq_eq_false_iff_ne] at hl
    obtain ⟨⟨t0, o0, n0⟩, t1, o1, n1⟩ := hl
    simp only [Op.eqFields, t0, o0, n0, t1, o1, n1, ne_eq, not_false_eq_true, if_true, Sem.run_bind, p0, p1, he, he2, Result.andThen_ok, Sem.run_ite, Sem.run_pure]
    cases h1 : (x1 == y1) <;> cases h2 : (x2 == y2) <;> simp
  · simp at hl
end Go.Proofs.YtleckdbdhkgcpaaDoor
