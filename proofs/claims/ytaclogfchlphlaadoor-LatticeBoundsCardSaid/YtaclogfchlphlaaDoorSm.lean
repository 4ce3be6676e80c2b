/- The reference's Same: are two lists of masks alike? -/
import Derived.Test.YtaclogfchlphlaaDoorLs
import Derived.Deep.QuietTactic
import Derived.BigQuiet
namespace Go.Proofs.YtaclogfchlphlaaDoor
open Go.RowKit Go.Idl

theorem below_drewN {B : Nat} {a w : World} (h : Below B a w) (n : Nat) : Below B a (w.drewN n) := ⟨h.os, h.tape, h.output, h.size, h.block⟩

theorem same_masks (A B : Option Addr) (n m c d : Nat) (l1 l2 : List Nat) (w : World) (h1 : l1.length = n) (h2 : l2.length = m) (hn : n ≤ 9223372036854775807) (_hm : m ≤ 9223372036854775807)
    (r1 : Reads w w.heap.size 1 A n (u64s l1)) (r2 : Reads w w.heap.size 1 B m (u64s l2)) :
    Calls Tryd.prog 14 #[.slice A n c, .slice B m d] w fun e w' => e = .returned (.bool (decide (l1 = l2))) ∧ Below w.heap.size w w' := by
  by_cases hnm : n = m
  · subst hnm
    have H1 := Lib.hid h1
    have H2 := Lib.hid h2
    clear h1 h2
    replace r1 := Lib.hid r1
    replace r2 := Lib.hid r2
    go_enter Tryd.func14, Tryd.ntmps14
    go_wp2
    go_loopw [5] (fun i wr => ∃ k : Nat, k ≤ n ∧ i = .int .i64 k ∧ (∀ j, j < k → l1.getD j 0 = l2.getD j 0) ∧ ∃ q, wr = w.drewN q) (fun i _ => n - (intOf i).toNat)
    case atStart => exact ⟨0, by omega, rfl, fun j hj => by omega, 0, rfl⟩
    case round =>
      obtain ⟨k, hk, rfl, hs, q, rfl⟩ := hrel
      replace hs := Lib.hid hs
      by_cases hlt : k < n
      · obtain ⟨a1, hA, hb1, hc1⟩ := reads_mask H1.out r1.out hlt
        obtain ⟨a2, hB, hb2, hc2⟩ := reads_mask H2.out r2.out hlt
        subst hA hB
        by_cases he : l1.getD k 0 = l2.getD k 0
        · have he' := Lib.hid he
          generalize l1.getD k 0 = x at hc1 he
          generalize l2.getD k 0 = y at hc2 he
          subst he
          go_wp2_with fail
          go_quiet (fail)
          go_wp2_with fail
          go_roundw
          case rel => exact ⟨k + 1, by omega, by go_num, fun j hj => (by by_cases e : j = k; (subst e; exact he'.out); exact hs.out j (by omega)), _, rfl⟩
          case measure => simp [intOf]; omega
        · have hne : decide (l1 = l2) = false := by
            rw [decide_eq_false_iff_not]
            intro e
            rw [e] at he
            exact he rfl
          generalize l1.getD k 0 = x at hc1 he
          generalize l2.getD k 0 = y at hc2 he
          have hne' : ((x : Int) != (y : Int)) = true := by simp; omega
          replace hne := Lib.hid hne
          clear he
          go_wp2_with fail
          go_quiet (fail)
          go_wp2_with fail
          go_ret
          exact ⟨ret_bool hne.out.symm, below_drewN (below_drewN (Below.refl _ _) _) _⟩
      · have hge : n ≤ k := by omega
        have he : decide (l1 = l2) = true := by
          rw [decide_eq_true_eq]
          apply List.ext_getElem (by rw [H1.out, H2.out])
          intro j h1 h2
          have := hs.out j (by rw [H1.out] at h1; omega)
          simpa [List.getD, h1, h2] using this
        replace he := Lib.hid he
        clear hlt
        go_wp2_with fail
        go_ret
        exact ⟨ret_bool he.out.symm, below_drewN (Below.refl _ _) _⟩
  · have hne : decide (l1 = l2) = false := by
      rw [decide_eq_false_iff_not]
      intro e
      rw [e] at h1
      exact hnm (h1.symm.trans h2)
    have hb : ((n : Int) != (m : Int)) = true := by simp; omega
    replace hne := Lib.hid hne
    clear h1 h2
    go_enter Tryd.func14, Tryd.ntmps14
    go_wp2
    go_ret
    exact ⟨ret_bool hne.out.symm, Below.refl _ _⟩

end Go.Proofs.YtaclogfchlphlaaDoor
