/- The walk of MaskCounts. -/
import Derived.Test.YtmfgonjlkehkoaaDoorCo
import Derived.Test.YtmfgonjlkehkoaaDoorSi
import Derived.Test.YtmfgonjlkehkoaaDoorLn
namespace Go.Proofs.YtmfgonjlkehkoaaDoor
open Go.RowKit Go.Idl

def firstN (m : Nat) : Int := match bitsOf m with | [] => -1 | k :: _ => (k : Int)
def lastN (m : Nat) : Int := match (bitsOf m).getLast? with | none => (-1 : Int) | some k => (k : Int)

theorem nats_getD (l : List Nat) (k : Nat) (hk : k < l.length) : (nats l).getD k undef = .int .i64 (l.getD k 0 : Nat) := by
  unfold nats
  rw [List.getD_eq_getElem?_getD, List.getElem?_map, List.getElem?_eq_getElem hk]
  simp [List.getD, hk]

theorem walkMaskCounts (m : Nat) (hm : m < 2 ^ 64) (w : World) (hT : Tab w) : Calls Tryd.prog 5 #[.int .u64 m] w fun e w' => e = .returned (.bool true) ∧ Below w.heap.size w w' := by
  have e5 : countN 5 = 2 := by decide
  have hle := countN_le m
  have C5 := fun W (h : Tab W) => count_any 5 (by decide) W h
  rw [e5] at C5
  replace C5 := Lib.hid C5
  clear e5
  have CF : ∀ W, Tab W → Calls Tryd.prog 12 #[.int .u64 m] W fun e w' => e = .returned (.int .i64 (firstN m)) ∧ W = w' := fun W h => first_any m hm W h
  have CL : ∀ W, Calls Tryd.prog 13 #[.int .u64 m] W fun e w' => e = .returned (.int .i64 (lastN m)) ∧ W = w' := fun W => last_any m hm W
  replace CF := Lib.hid CF
  replace CL := Lib.hid CL
  have hm' := Lib.hid hm
  have q1 : (((countN m : Nat) : Int) == ((countN m : Nat) : Int)) = true := by simp
  have q2 : (firstN m == firstN m) = true := by simp
  have q3 : (lastN m == lastN m) = true := by simp
  replace hT := Lib.hid hT
  clear hm
  by_cases h0 : bitsOf m = []
  · have f0 : firstN m = -1 := by unfold firstN; rw [h0]
    have l0 : lastN m = -1 := by unfold lastN; rw [h0]; rfl
    have n0 : countN m = 0 := by unfold countN; rw [h0]; rfl
    have CR := rlist_any m hm'.out w
    rw [n0] at CR
    rw [f0] at CF
    rw [l0] at CL
    have CC := fun W (h : Tab W) => count_any m hm'.out W h
    rw [n0] at CC
    replace CC := Lib.hid CC
    replace CR := Lib.hid CR
    clear f0 l0 n0 h0 q1 q2 q3 hle
    go_enter Tryd.func5, Tryd.ntmps5
    go_wp2_with fail
    refine CR.out.mono ?_
    rintro e w1 ⟨A, c, rfl, hown, hb1⟩
    have hT1 := Lib.hid (hT.out.later hb1)
    replace hb1 := Lib.hid hb1
    clear hown
    go_wp2_with fail
    refine (CC.out _ hT1.out).mono ?_
    rintro e w2 ⟨rfl, hb2⟩
    have hT2 := Lib.hid (hT1.out.later hb2)
    replace hb1 := Lib.hid (hb1.out.trans (hb2.mono hb1.out.size))
    clear hb2
    go_wp2_with fail
    refine (CF.out _ hT2.out).mono ?_
    rintro e w3 ⟨rfl, rfl⟩
    go_wp2_with fail
    refine (CL.out _).mono ?_
    rintro e w3 ⟨rfl, rfl⟩
    go_wp2_with fail
    refine (C5.out _ hT2.out).mono ?_
    rintro e w3 ⟨rfl, hb2⟩
    replace hb1 := Lib.hid (hb1.out.trans (hb2.mono hb1.out.size))
    clear hb2
    go_wp2_with fail
    go_ret
    exact ⟨rfl, hb1.out⟩
  · have hpos : 0 < countN m := List.length_pos_iff.2 h0
    have hf : firstN m = (((bitsOf m).getD 0 0 : Nat) : Int) := by
      unfold firstN
      cases hb : bitsOf m with
      | nil => exact absurd hb h0
      | cons k r => simp
    have hl : lastN m = (((bitsOf m).getD (countN m - 1) 0 : Nat) : Int) := by
      unfold lastN countN
      rw [List.getLast?_eq_getElem?]
      have : (bitsOf m).length - 1 < (bitsOf m).length := by have := List.length_pos_iff.2 h0; omega
      rw [List.getElem?_eq_getElem this]
      simp [List.getD, this]
    have g0 := nats_getD (bitsOf m) 0 (List.length_pos_iff.2 h0)
    have g1 := nats_getD (bitsOf m) (countN m - 1) (by unfold countN; have := List.length_pos_iff.2 h0; omega)
    rw [← hf] at g0
    rw [← hl] at g1
    have CR := Lib.hid (rlist_any m hm'.out w)
    replace hf := Lib.hid hf
    replace hl := Lib.hid hl
    replace g0 := Lib.hid g0
    replace g1 := Lib.hid g1
    clear h0
    go_enter Tryd.func5, Tryd.ntmps5
    go_wp2_with fail
    refine CR.out.mono ?_
    rintro e w1 ⟨A, c, rfl, hown, hb1⟩
    have hr := Reads.of_own hown
    obtain ⟨a1, hA, hbl1, hc1⟩ := reads_val hr hpos
    obtain ⟨a2, hA2, hbl2, hc2⟩ := reads_val hr (show countN m - 1 < countN m by omega)
    subst hA
    obtain rfl : a1 = a2 := Option.some.inj hA2
    rw [g0.out] at hc1
    rw [show a1.add 0 = a1 by simp [Addr.add]] at hc1
    rw [g1.out] at hc2
    have hT1 := Lib.hid (hT.out.later hb1)
    replace hb1 := Lib.hid hb1
    clear hown hr hA2
    go_wp2_with fail
    go_quiet (fail)
    go_wp2_with fail
    have hTd : Hid (Tab (w1.drewN nq)) := hT1.out.later (below_drewN (Below.refl _ _) nq)
    have hbd : Hid (Below w.heap.size w (w1.drewN nq)) := below_drewN hb1.out nq
    clear hT1 hb1
    refine (count_any m hm'.out _ hTd.out).mono ?_
    rintro e w2 ⟨rfl, hb2⟩
    have hT2 := Lib.hid (hTd.out.later hb2)
    have hb1 := Lib.hid (hbd.out.trans (hb2.mono hbd.out.size))
    clear hb2 hbd hTd
    go_wp2_with fail
    refine (CF.out _ hT2.out).mono ?_
    rintro e w3 ⟨rfl, rfl⟩
    go_wp2_with fail
    refine (CL.out _).mono ?_
    rintro e w3 ⟨rfl, rfl⟩
    go_wp2_with fail
    refine (C5.out _ hT2.out).mono ?_
    rintro e w3 ⟨rfl, hb2⟩
    replace hb1 := Lib.hid (hb1.out.trans (hb2.mono hb1.out.size))
    clear hb2
    go_wp2_with fail
    go_ret
    exact ⟨rfl, hb1.out⟩

end Go.Proofs.YtmfgonjlkehkoaaDoor
