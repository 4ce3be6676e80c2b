/- The walk of MaskAll. -/
import Derived.Test.YtmfgonjlkehkoaaDoorHa
namespace Go.Proofs.YtmfgonjlkehkoaaDoor
open Go.RowKit Go.Idl

theorem nats_ints (l : List Nat) : nats l = (l.map fun k : Nat => (k : Int)).map (Value.int .i64) := by
  unfold nats
  rw [List.map_map]
  rfl
theorem reads_take {w : World} {B n k : Nat} {A : Option Addr} {xs : List Value} (h : Reads w B 1 A n xs) (hk : k ≤ n) : Reads w B 1 A k (xs.take k) := by
  have hl := h.1
  refine ⟨by rw [List.length_take]; omega, fun hn => ?_⟩
  obtain ⟨ad, e, hb, hc⟩ := h.2 (by omega)
  refine ⟨ad, e, hb, fun j u hu => hc j u ?_⟩
  rw [List.getElem?_take] at hu
  split at hu
  · exact hu
  · cases hu

theorem walkMaskAll (m k : Nat) (hm : m < 2 ^ 64) (hk : k < 256) (w : World) (hT : Tab w) : Calls Tryd.prog 3 #[.int .u64 m, .int .u8 k] w fun e w' => e = .returned (.bool true) ∧ Below w.heap.size w w' := by
  have hle := countN_le m
  have hmod := Lib.hid (show ((k : Int) % 70) = ((k % 70 : Nat) : Int) by omega)
  have hn70 : k % 70 < 70 := Nat.mod_lt _ (by decide)
  have e2 : (tk 5 9).length = 2 := by decide
  have C9 := fun W (h : Tab W) => hall_any 5 (by decide) 9 W h
  rw [e2] at C9
  replace C9 := Lib.hid C9
  have hm' := Lib.hid hm
  clear e2 hm
  have CR := Lib.hid (rlist_any m hm'.out w)
  have htl : (tk m (k % 70)).length = min (k % 70) (countN m) := by unfold tk countN; rw [List.length_take]
  replace htl := Lib.hid htl
  replace hT := Lib.hid hT
  generalize hn : k % 70 = n at *
  have hn' := Lib.hid hn
  clear hn
  by_cases hlt : n < countN m
  · have ht : (tk m n).length = n := by rw [htl.out]; omega
    have CH := fun W (h : Tab W) => hall_any m hm'.out n W h
    rw [ht] at CH
    replace CH := Lib.hid CH
    replace ht := Lib.hid ht
    go_enter Tryd.func3, Tryd.ntmps3
    go_wp2_with fail
    refine CR.out.mono ?_
    rintro e w1 ⟨A, c, rfl, hown, hb1⟩
    have hT1 := Lib.hid (hT.out.later hb1)
    have hr := Lib.hid (Reads.of_own hown)
    obtain ⟨hc1, hc2⟩ := ownsRow_cap hown
    unfold maxLen at hc2
    replace hb1 := Lib.hid hb1
    clear hown
    go_wp2_with fail
    rw [hmod.out]
    refine (CH.out _ hT1.out).mono ?_
    rintro e w2 ⟨A2, c2, rfl, hown, hb2⟩
    have hT2 := Lib.hid (hT1.out.later hb2)
    have hr2 := Lib.hid (Reads.of_own hown)
    have hr1 := Lib.hid ((hr.out.below hb2).more hb2.size)
    replace hb1 := Lib.hid (hb1.out.trans (hb2.mono hb1.out.size))
    clear hown hb2 hr
    go_wp2_with fail
    have r2 : Reads w2 w2.heap.size 1 A2 n (((tk m n).map fun k : Nat => (k : Int)).map (Value.int .i64)) := by rw [← nats_ints]; exact hr2.out
    have r1 : Reads w2 w2.heap.size 1 A n (((tk m n).map fun k : Nat => (k : Int)).map (Value.int .i64)) := by
      rw [← nats_ints]
      have := reads_take hr1.out (Nat.le_of_lt hlt)
      unfold nats at this ⊢
      rw [← List.map_take] at this
      exact this
    refine (same_any A2 A n n c2 c _ _ w2 (by rw [List.length_map]; exact ht.out) (by rw [List.length_map]; exact ht.out) (by omega) (by omega) r2 r1).mono ?_
    rintro e w3 ⟨rfl, hb2⟩
    rw [decide_eq_true rfl]
    have hT3 := Lib.hid (hT2.out.later hb2)
    replace hb1 := Lib.hid (hb1.out.trans (hb2.mono hb1.out.size))
    clear hb2 r1 r2
    go_wp2_with fail
    refine (C9.out _ hT3.out).mono ?_
    rintro e w4 ⟨A4, c4, rfl, hown, hb2⟩
    replace hb1 := Lib.hid (hb1.out.trans (hb2.mono hb1.out.size))
    clear hb2 hown
    go_wp2_with fail
    go_ret
    exact ⟨rfl, hb1.out⟩
  · have hge : countN m ≤ n := by omega
    have ht : tk m n = bitsOf m := by unfold tk; exact List.take_of_length_le hge
    have CH := fun W (h : Tab W) => hall_any m hm'.out n W h
    rw [ht] at CH
    have hcl : (bitsOf m).length = countN m := rfl
    rw [hcl] at CH
    replace CH := Lib.hid CH
    clear ht hcl hlt
    go_enter Tryd.func3, Tryd.ntmps3
    go_wp2_with fail
    refine CR.out.mono ?_
    rintro e w1 ⟨A, c, rfl, hown, hb1⟩
    have hT1 := Lib.hid (hT.out.later hb1)
    have hr := Lib.hid (Reads.of_own hown)
    replace hb1 := Lib.hid hb1
    clear hown
    go_wp2_with fail
    rw [hmod.out]
    refine (CH.out _ hT1.out).mono ?_
    rintro e w2 ⟨A2, c2, rfl, hown, hb2⟩
    have hT2 := Lib.hid (hT1.out.later hb2)
    have hr2 := Lib.hid (Reads.of_own hown)
    have hr1 := Lib.hid ((hr.out.below hb2).more hb2.size)
    replace hb1 := Lib.hid (hb1.out.trans (hb2.mono hb1.out.size))
    clear hown hb2 hr
    go_wp2_with fail
    have r2 : Reads w2 w2.heap.size 1 A2 (countN m) (((bitsOf m).map fun k : Nat => (k : Int)).map (Value.int .i64)) := by rw [← nats_ints]; exact hr2.out
    have r1 : Reads w2 w2.heap.size 1 A (countN m) (((bitsOf m).map fun k : Nat => (k : Int)).map (Value.int .i64)) := by rw [← nats_ints]; exact hr1.out
    refine (same_any A2 A (countN m) (countN m) c2 c _ _ w2 (by rw [List.length_map]; rfl) (by rw [List.length_map]; rfl) (by omega) (by omega) r2 r1).mono ?_
    rintro e w3 ⟨rfl, hb2⟩
    rw [decide_eq_true rfl]
    have hT3 := Lib.hid (hT2.out.later hb2)
    replace hb1 := Lib.hid (hb1.out.trans (hb2.mono hb1.out.size))
    clear hb2 r1 r2
    go_wp2_with fail
    refine (C9.out _ hT3.out).mono ?_
    rintro e w4 ⟨A4, c4, rfl, hown, hb2⟩
    replace hb1 := Lib.hid (hb1.out.trans (hb2.mono hb1.out.size))
    clear hb2 hown
    go_wp2_with fail
    go_ret
    exact ⟨rfl, hb1.out⟩

end Go.Proofs.YtmfgonjlkehkoaaDoor
