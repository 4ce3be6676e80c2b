/- The walk of LatticeCovers. -/
import Derived.Test.YtaclogfchlphlaaDoorLatticeRightsW
import Derived.Test.YtaclogfchlphlaaDoorRc
import Derived.Test.YtaclogfchlphlaaDoorPe
namespace Go.Proofs.YtaclogfchlphlaaDoor
open Go.RowKit Go.Shelf Go.Idl
attribute [local go_sem] pair_equalIn

theorem pairVals_pair (L : List (Nat × Nat)) (k : Nat) (hk : k < L.length) : ∃ a b : Nat, (pairVals (intP L))[k * 2]? = some (.int .i64 (a : Nat)) ∧ (pairVals (intP L))[k * 2 + 1]? = some (.int .i64 (b : Nat)) := by
  have := pairVals_at (intP L) k ((L[k].1 : Int), (L[k].2 : Int)) (by unfold intP; rw [List.getElem?_map, List.getElem?_eq_getElem hk]; rfl)
  exact ⟨_, _, this⟩

set_option maxHeartbeats 4000000 in
theorem walkLatticeCovers (A : Option Addr) (n c : Nat) (up : List Nat) (w : World) (hT : Tab w) (hn : up.length = n) (hn63 : n ≤ maxLen) (hby : n * 8 ≤ 140737488355328) (hM : Masks up) (hr : Reads w w.heap.size 1 A n (u64s up)) :
    Calls Tryd.prog 7 #[.slice A n c] w fun e w' => e = .returned (.bool true) ∧ Below w.heap.size w w' := by
  obtain ⟨i0, hi0, hz0, hz1, hz2⟩ := info_parts u64_info
  have h1 := Lib.hid (u64s_one up)
  have hRR := fun (w' : World) (hr' : Reads w' w'.heap.size 1 A n (u64s up)) => rright_any A n c up w' hn hn63 hM hr'
  generalize hq : latB up = q at *
  replace hRR := Lib.hid hRR
  replace hT := Lib.hid hT
  replace hr := Lib.hid hr
  replace hM := Lib.hid hM
  replace hn := Lib.hid hn
  replace hq := Lib.hid hq
  have hb0 := Lib.hid (Below.refl w.heap.size w)
  go_enter Tryd.func7, Tryd.ntmps7
  go_wp2_with (at_builtin; refine wpList_append_copy w rfl _ _ 23 rfl 39 i0 (.int .u64 0) 1 8 Tryd.underlying23 hi0 hz0 hz1 hz2 rfl (by decide) rfl w.heap.size _ n _ (u64s up) rfl hr.out (Nat.le_refl _) h1.out hn63 hby ?_; intro A' c' w1 _ hrc hbc)
  have hTw1 := Lib.hid (hT.out.later hbc)
  have hrw1 := Lib.hid ((hr.out.below hbc).more hbc.size)
  replace hrc := Lib.hid hrc
  have hbw1 := Lib.hid (hb0.out.trans (hbc.mono hb0.out.size))
  clear hbc
  go_wp2_with fail
  refine (covers_any A' n c' up w1 hTw1.out hn.out hn63 hM.out hrc.out).mono ?_
  rintro e w2 ⟨A1, c1, rfl, hown, hbd⟩
  rw [hq.out] at hown ⊢
  obtain ⟨L, hL⟩ : ∃ L, (if q = true then coversL up else []) = L := ⟨_, rfl⟩
  rw [hL] at hown ⊢
  replace hL := Lib.hid hL
  have hrw2 := Lib.hid ((hrw1.out.below hbd).more hbd.size)
  have hTw2 := Lib.hid (hTw1.out.later hbd)
  have hbw2 := Lib.hid (hbw1.out.trans (hbd.mono hbw1.out.size))
  replace hown := Lib.hid hown
  clear hbd hrc
  go_wp2_with fail
  refine (hRR.out w2 hrw2.out).mono ?_
  rintro e w3 ⟨rfl, hbd⟩
  have hr3 := Lib.hid ((hrw2.out.below hbd).more hbd.size)
  have hT3 := Lib.hid (hTw2.out.later hbd)
  have hb3 := Lib.hid (hbw2.out.trans (hbd.mono hbw2.out.size))
  have hown3 := Lib.hid (ownsRow_below hown.out hbd)
  clear hbd hown
  cases q with
  | false =>
    obtain rfl : L = [] := by have := hL.out; simpa using this.symm
    go_wp2
    go_loopw [5] (fun v wr => v = .int .i64 0 ∧ wr = w3) (fun v wr => 0)
    case atStart => exact ⟨rfl, rfl⟩
    case round =>
      obtain ⟨rfl, rfl⟩ := hrel
      go_wp2_with fail
      refine (awake_any wr hT3.out).mono ?_
      rintro e w9 ⟨rfl, hb9⟩
      replace hb9 := Lib.hid hb9
      go_wp2_with fail
      go_ret
      exact ⟨rfl, hb3.out.trans (hb9.out.mono hb3.out.size)⟩
  | true =>
    obtain rfl : L = coversL up := by have := hL.out; simpa using this.symm
    have hO := (Lat.of hM.out hq.out).toOrd
    have h64 : n ≤ 64 := by rw [← hn.out]; exact hO.n64
    replace hO := Lib.hid hO
    go_wp2_with fail
    refine (rcovers_any A n c up w3 hn.out h64 hM.out hr3.out).mono ?_
    rintro e w4 ⟨A2, c2, rfl, hown2, hbd⟩
    have hT4 := Lib.hid (hT3.out.later hbd)
    have hb4 := Lib.hid (hb3.out.trans (hbd.mono hb3.out.size))
    have hown4 := Lib.hid (ownsRow_below hown3.out hbd)
    clear hbd hown3
    have hln : (coversL up).length ≤ maxLen := Nat.le_trans (ownsRow_cap hown4.out).1 (ownsRow_cap hown4.out).2
    have hml : maxLen = 9223372036854775807 := rfl
    obtain ⟨L, hL2⟩ : ∃ L, coversL up = L := ⟨_, rfl⟩
    rw [hL2] at hown4 hown2 hln ⊢
    have hex : ∀ x : Nat, ((x : Int) == (x : Int)) = true := fun x => by simp
    have heq : (((L.length : Nat) : Int) != ((L.length : Nat) : Int)) = false := by simp
    replace hL2 := Lib.hid hL2
    replace hown2 := Lib.hid hown2
    go_wp2
    go_loopw [5] (fun v wr => ∃ k : Nat, v = .int .i64 (k : Nat) ∧ k ≤ L.length ∧ wr.ownsRow w1.heap.size 33 2 (.slice A1 L.length c1) L.length (pairVals (intP L)) ∧ wr.ownsRow w3.heap.size 33 2 (.slice A2 L.length c2) L.length (pairVals (intP L)) ∧ Below w.heap.size w wr) (fun v wr => L.length - natOf v)
    case atStart => exact ⟨0, rfl, by omega, hown4.out, hown2.out, hb4.out⟩
    case round =>
      obtain ⟨k, rfl, hkn, ho1, ho2, hB⟩ := hrel
      by_cases hk : k < L.length
      · have hlt : ((k : Int) < ((L.length : Nat) : Int)) := by omega
        obtain ⟨a, b, hpa, hpb⟩ := pairVals_pair L k hk
        obtain ⟨g1, cap1, hv1, _, _⟩ := ho1.form (by omega)
        obtain ⟨g2, cap2, hv2, _, _⟩ := ho2.form (by omega)
        injection hv1 with hv1 _ hc1
        injection hv2 with hv2 _ hc2
        subst hv1 hv2
        clear hc1 hc2
        have x0 := ho1.cellAt (k * 2) (by omega)
        have x1 := ho1.cellAt (k * 2 + 1) (by omega)
        have y0 := ho2.cellAt (k * 2) (by omega)
        have y1 := ho2.cellAt (k * 2 + 1) (by omega)
        rw [hpa] at x0 y0
        rw [hpb] at x1 y1
        have hT5 := Lib.hid (fun q => hT.out.later (below_drewN hB q))
        replace ho1 := Lib.hid ho1
        replace ho2 := Lib.hid ho2
        replace hB := Lib.hid hB
        replace hpa := Lib.hid hpa
        replace hpb := Lib.hid hpb
        go_wp2
        go_quiet (fail)
        go_wp2
        go_roundw
        case rel => exact ⟨k + 1, by go_num, by omega, ho1.out, ho2.out, below_drewN hB.out _⟩
        case measure => simp [natOf]; omega
      · have hke : k = L.length := by omega
        have hlt : ¬ ((k : Int) < ((L.length : Nat) : Int)) := by omega
        have hT5 := Lib.hid (hT.out.later hB)
        replace ho1 := Lib.hid ho1
        replace ho2 := Lib.hid ho2
        replace hB := Lib.hid hB
        go_wp2_with fail
        refine (awake_any wr hT5.out).mono ?_
        rintro e w9 ⟨rfl, hb9⟩
        replace hb9 := Lib.hid hb9
        go_wp2_with fail
        go_ret
        exact ⟨rfl, hB.out.trans (hb9.out.mono hB.out.size)⟩

end Go.Proofs.YtaclogfchlphlaaDoor
