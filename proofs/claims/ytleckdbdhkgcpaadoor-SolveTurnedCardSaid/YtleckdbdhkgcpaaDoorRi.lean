/- lattice.Right: is it a lattice? -/
import Derived.Test.YtleckdbdhkgcpaaDoorEa
namespace Go.Proofs.YtleckdbdhkgcpaaDoor
open Go.RowKit Go.Shelf Go.Idl
attribute [local go_sem] Oper.semAt_some

theorem masks_downs {up : List Nat} (h : up.length ≤ 64) : Masks (downs up) := by
  intro k
  by_cases hk : k < up.length
  · rw [getD_downs up k hk]
    exact maskOf_lt _ _ h
  · rw [List.getD_eq_getElem?_getD, List.getElem?_eq_none (by rw [length_downs]; omega)]
    decide
theorem reads_of_blk {w : World} {g : Nat} {t : TypeId} {xs : List Value} {n : Nat} (h : Blk w g t xs.toArray) (hn : xs.length = n) (B : Nat) (hB : g < B) : Reads w B 1 (some ⟨g, 0, none⟩) n xs := by
  refine ⟨by omega, fun _ => ⟨_, rfl, hB, fun j u hu => ?_⟩⟩
  have e1 : (⟨g, 0, none⟩ : Addr).add j = ⟨g, j, none⟩ := by
    unfold Addr.add
    split
    · rename_i h; subst h; rfl
    · simp
  rw [e1, h.cell, List.getElem?_toArray]
  exact hu

set_option maxRecDepth 100000 in
set_option maxHeartbeats 4000000 in
theorem right_lat (A : Option Addr) (n c : Nat) (up : List Nat) (w : World) (hT : Tab w) (hn : up.length = n) (hn63 : n ≤ maxLen) (hM : Masks up) (hr : Reads w w.heap.size 1 A n (u64s up)) :
    Calls Tryd.prog 37 #[.slice A n c] w fun e w' => e = .returned (.bool (latB up)) ∧ Below w.heap.size w w' := by
  have hw0 := hT.1
  have hp := latB_prog hM
  cases ho : ordB up with
  | false =>
    rw [ho, Bool.false_and] at hp
    replace hp := Lib.hid hp
    replace hT := Lib.hid hT
    replace hr := Lib.hid hr
    replace hM := Lib.hid hM
    replace hn := Lib.hid hn
    replace ho := Lib.hid ho
    go_enter Tryd.func37, Tryd.ntmps37
    go_wp2_with fail
    refine (order_any A n c up _ hT.out hn.out hn63 hM.out hr.out).mono ?_
    rintro e w1 ⟨rfl, hb1⟩
    rw [ho.out]
    replace hb1 := Lib.hid hb1
    go_wp2
    go_ret
    exact ⟨by rw [← hp.out]; rfl, hb1.out⟩
  | true =>
    have hO := Ord.of hM ho
    have h64 := hO.n64
    rw [ho, Bool.true_and] at hp
    replace hT := Lib.hid hT
    replace hr := Lib.hid hr
    replace hM := Lib.hid hM
    replace hn := Lib.hid hn
    replace ho := Lib.hid ho
    replace hO := Lib.hid hO
    go_enter Tryd.func37, Tryd.ntmps37
    cases he : eachB up with
    | false =>
      rw [he, Bool.false_and] at hp
      replace hp := Lib.hid hp
      replace he := Lib.hid he
      go_wp2_with fail
      refine (order_any A n c up _ hT.out hn.out hn63 hM.out hr.out).mono ?_
      rintro e w1 ⟨rfl, hb1⟩
      rw [ho.out]
      replace hr1 := Lib.hid ((hr.out.below hb1).more hb1.size)
      replace hT1 := Lib.hid (hT.out.later hb1)
      replace hb1 := Lib.hid hb1
      go_wp2_with fail
      refine (each_any A n c up _ hT1.out hn.out hM.out hO.out hr1.out).mono ?_
      rintro e w2 ⟨rfl, hb2⟩
      rw [he.out]
      replace hb2 := Lib.hid hb2
      go_wp2
      go_ret
      exact ⟨by rw [← hp.out]; rfl, hb1.out.trans (hb2.out.mono hb1.out.size)⟩
    | true =>
      rw [he, Bool.true_and] at hp
      replace he := Lib.hid he
      replace hp := Lib.hid hp
      go_wp2_with fail
      refine (order_any A n c up _ hT.out hn.out hn63 hM.out hr.out).mono ?_
      rintro e w1 ⟨rfl, hb1⟩
      rw [ho.out]
      replace hr1 := Lib.hid ((hr.out.below hb1).more hb1.size)
      replace hT1 := Lib.hid (hT.out.later hb1)
      replace hb1 := Lib.hid hb1
      go_wp2_with fail
      refine (each_any A n c up _ hT1.out hn.out hM.out hO.out hr1.out).mono ?_
      rintro e w2 ⟨rfl, hb2⟩
      rw [he.out]
      replace hr2 := Lib.hid ((hr1.out.below hb2).more hb2.size)
      replace hT2 := Lib.hid (hT1.out.later hb2)
      replace hb2 := Lib.hid (hb1.out.trans (hb2.mono hb1.out.size))
      go_wp2_with fail
      refine (turned_any A n c up _ hT2.out hn.out hM.out hO.out hr2.out).mono ?_
      rintro e w3 ⟨g, rfl, hg, hbg, hb3⟩
      replace hT3 := Lib.hid (hT2.out.later hb3)
      have hr3 := Lib.hid (reads_of_blk (n := n) hbg (by rw [u64s_len, length_downs, hn.out]) w3.heap.size hbg.lt)
      replace hb3 := Lib.hid (hb2.out.trans (hb3.mono hb2.out.size))
      replace hbg := Lib.hid hbg
      go_wp2_with fail
      refine (each_any _ n n (downs up) _ hT3.out (by rw [length_downs, hn.out]) (masks_downs (by omega)) hO.out.turned hr3.out).mono ?_
      rintro e w4 ⟨rfl, hb4⟩
      rw [hp.out]
      replace hb4 := Lib.hid (hb3.out.trans (hb4.mono hb3.out.size))
      go_wp2
      go_ret
      exact ⟨rfl, hb4.out⟩

end Go.Proofs.YtleckdbdhkgcpaaDoor
