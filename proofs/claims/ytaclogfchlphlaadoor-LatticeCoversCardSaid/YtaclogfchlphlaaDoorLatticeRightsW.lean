/- The walk of LatticeRights. -/
import Derived.Test.YtaclogfchlphlaaDoorAw
import Derived.Test.YtaclogfchlphlaaDoorRt
namespace Go.Proofs.YtaclogfchlphlaaDoor
open Go.RowKit Go.Shelf Go.Idl

theorem u64s_one (l : List Nat) : ∀ u ∈ u64s l, u.oneCell' = true := by
  intro u hu
  unfold u64s at hu
  obtain ⟨x, _, rfl⟩ := List.mem_map.1 hu
  rfl

theorem walkLatticeRights (A : Option Addr) (n c : Nat) (up : List Nat) (w : World) (hT : Tab w) (hn : up.length = n) (hn63 : n ≤ maxLen) (hby : n * 8 ≤ 140737488355328) (hM : Masks up) (hr : Reads w w.heap.size 1 A n (u64s up)) :
    Calls Tryd.prog 4 #[.slice A n c] w fun e w' => e = .returned (.bool true) ∧ Below w.heap.size w w' := by
  obtain ⟨i0, hi0, hz0, hz1, hz2⟩ := info_parts u64_info
  have h1 := Lib.hid (u64s_one up)
  replace hT := Lib.hid hT
  replace hr := Lib.hid hr
  replace hM := Lib.hid hM
  replace hn := Lib.hid hn
  go_enter Tryd.func4, Tryd.ntmps4
  go_wp2_with (at_builtin; refine wpList_append_copy w rfl _ _ 23 rfl 39 i0 (.int .u64 0) 1 8 Tryd.underlying23 hi0 hz0 hz1 hz2 rfl (by decide) rfl w.heap.size _ n _ (u64s up) rfl hr.out (Nat.le_refl _) h1.out hn63 hby ?_; intro A' c' w1 _ hr1 hb1)
  have hT1 := Lib.hid (hT.out.later hb1)
  have hr0 := Lib.hid ((hr.out.below hb1).more hb1.size)
  replace hr1 := Lib.hid hr1
  replace hb1 := Lib.hid hb1
  go_wp2_with fail
  refine (right_lat A' n c' up w1 hT1.out hn.out hn63 hM.out hr1.out).mono ?_
  rintro e w2 ⟨rfl, hb2⟩
  have hr2 := Lib.hid ((hr0.out.below hb2).more hb2.size)
  have hT2 := Lib.hid (hT1.out.later hb2)
  replace hb2 := Lib.hid (hb1.out.trans (hb2.mono hb1.out.size))
  go_wp2_with fail
  refine (rright_any A n c up w2 hn.out hn63 hM.out hr2.out).mono ?_
  rintro e w3 ⟨rfl, hb3⟩
  have hT3 := Lib.hid (hT2.out.later hb3)
  replace hb3 := Lib.hid (hb2.out.trans (hb3.mono hb2.out.size))
  have heq : (latB up == latB up) = true := by simp
  go_wp2_with fail
  refine (awake_any w3 hT3.out).mono ?_
  rintro e w4 ⟨rfl, hb4⟩
  replace hb4 := Lib.hid (hb3.out.trans (hb4.mono hb3.out.size))
  go_wp2_with fail
  go_ret
  exact ⟨rfl, hb4.out⟩

end Go.Proofs.YtaclogfchlphlaaDoor
