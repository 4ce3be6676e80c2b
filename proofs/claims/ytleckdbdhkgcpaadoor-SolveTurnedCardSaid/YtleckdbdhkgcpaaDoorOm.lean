/- Arguments opened: masks. -/
import Derived.Test.YtleckdbdhkgcpaaDoorDr
import Derived.Test.YtleckdbdhkgcpaaDoorLs
import Derived.Test.YtleckdbdhkgcpaaDoorLt
import Derived.SizedLaws
namespace Go.Proofs.YtleckdbdhkgcpaaDoor
open Go.RowKit Go.Idl Go.WideShapes Go.ChangeShapes Go.ChangeAt

theorem masks_of_ints : ∀ (zs : List Int), (∀ z ∈ zs, (Lit.int .u64 z).wf = true) → ∃ up : List Nat, up.length = zs.length ∧ zs.map (Value.int .u64) = u64s up ∧ Masks up
  | [], _ => ⟨[], rfl, rfl, fun k => Nat.two_pow_pos 64⟩
  | z :: r, h => by
    obtain ⟨up, hl, he, hM⟩ := masks_of_ints r (fun x hx => h x (by simp [hx]))
    have hb := bounds_u64 (h z (by simp))
    refine ⟨z.toNat :: up, by simp [hl], ?_, fun k => ?_⟩
    · rw [List.map_cons, he]
      have : z = ((z.toNat : Nat) : Int) := by omega
      unfold u64s
      rw [List.map_cons, ← this]
    · cases k with
      | zero => simp only [List.getD_cons_zero]; omega
      | succ k => simp only [List.getD_cons_succ]; exact hM k

theorem masks_room {H : Type} {zs : List Int} {d : DataW H} {ts : List TypeId} {ds : List (DataW H)} (hsz : (DataW.weightsEach Tryd.prog (22 :: ts) (d :: ds)).all (· ≤ reachBytes) = true)
    (hd : (d = .nil ∧ zs = []) ∨ ∃ rest : List Int, d = .slice (lits .u64 zs) (lits .u64 rest)) : zs.length * 8 ≤ 140737488355328 := by
  rcases hd with ⟨_, rfl⟩ | ⟨rest, rfl⟩
  · decide
  · have := sized_slice hsz (j := 0) rfl rfl Tryd.underlying22
    have hb : Tryd.prog.bytesOf 27 = 8 := by kernel_rfl
    have hR : reachBytes = 140737488351232 := rfl
    rw [hb, hR] at this
    simp only [lits, List.length_map] at this
    omega
end Go.Proofs.YtleckdbdhkgcpaaDoor
