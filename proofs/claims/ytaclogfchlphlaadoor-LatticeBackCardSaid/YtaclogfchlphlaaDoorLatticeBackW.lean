/- The walk of LatticeBack. -/
import Derived.Deep.RegionHeld3
import Derived.Test.YtaclogfchlphlaaDoorAw
import Derived.Test.YtaclogfchlphlaaDoorSm
import Derived.Test.YtaclogfchlphlaaDoorCw
import Derived.Test.YtaclogfchlphlaaDoorPk
namespace Go.Proofs.YtaclogfchlphlaaDoor
open Go.RowKit Go.Shelf Go.Idl

theorem pairVals_take (l : List (Int × Int)) (k : Nat) : (pairVals l).take (k * 2) = pairVals (l.take k) := by
  induction l generalizing k with
  | nil => simp [pairVals]
  | cons p r ih =>
    cases k with
    | zero => simp [pairVals]
    | succ k =>
      have e : (k + 1) * 2 = k * 2 + 1 + 1 := by omega
      have := ih k
      unfold pairVals at this ⊢
      rw [e]
      simp only [List.flatMap_cons, List.cons_append, List.nil_append, List.take_succ_cons]
      rw [this]
theorem pairVals_drop (l : List (Int × Int)) (k : Nat) : (pairVals l).drop (k * 2) = pairVals (l.drop k) := by
  induction l generalizing k with
  | nil => simp [pairVals]
  | cons p r ih =>
    cases k with
    | zero => simp [pairVals]
    | succ k =>
      have e : (k + 1) * 2 = k * 2 + 1 + 1 := by omega
      have := ih k
      unfold pairVals at this ⊢
      rw [e]
      simp only [List.flatMap_cons, List.cons_append, List.nil_append, List.drop_succ_cons]
      rw [this]
theorem reads_first {w : World} {B size n k : Nat} {A : Option Addr} {xs : List Value} (h : Reads w B size A n xs) (hk : k ≤ n) : Reads w B size A k (xs.take (k * size)) := by
  refine ⟨?_, fun hk0 => ?_⟩
  · rw [List.length_take, h.1]
    exact Nat.min_eq_left (Nat.mul_le_mul_right _ hk)
  · obtain ⟨ad, e, hb, hc⟩ := h.2 (by omega)
    refine ⟨ad, e, hb, fun j u hu => hc j u ?_⟩
    rw [List.getElem?_take] at hu
    split at hu
    · exact hu
    · cases hu

theorem flatMap_len {α β : Type} (f : α → List β) (m : Nat) : ∀ l : List α, (∀ x ∈ l, (f x).length ≤ m) → (l.flatMap f).length ≤ l.length * m
  | [], _ => by simp
  | a :: r, h => by
    rw [List.flatMap_cons, List.length_append, List.length_cons, Nat.succ_mul]
    have := flatMap_len f m r (fun x hx => h x (by simp [hx]))
    have := h a (by simp)
    omega
theorem coversL_len (up : List Nat) : (coversL up).length ≤ up.length * up.length := by
  unfold coversL
  have := flatMap_len (coversAt up) up.length (List.range up.length) (fun a _ => by
    unfold coversAt
    rw [List.length_map]
    have := List.length_filter_le (fun b => isCover up a b) (List.range up.length)
    rw [List.length_range] at this
    exact this)
  rw [List.length_range] at this
  exact this

theorem bldL_le (n : Int) (ps : List (Int × Int)) : (bldL n ps).length ≤ 64 := by
  unfold bldL
  split
  · rename_i h
    unfold bldI at h
    split at h
    · rename_i h2
      have h3 := h2.1
      unfold nOk at h3
      simp at h3
      rw [(warsP_made (fun p hp => by
        have h5 := List.all_eq_true.1 h2.2 p hp
        have h6 : n = ((n.toNat : Nat) : Int) := by omega
        rw [← h6]
        exact h5)).len]
      omega
    · cases h
  · simp

set_option maxHeartbeats 4000000 in
theorem walkLatticeBack (A : Option Addr) (n c : Nat) (up : List Nat) (kk : Int) (w : World) (hT : Tab w) (hn : up.length = n) (hn63 : n ≤ maxLen) (hM : Masks up) (hr : Reads w w.heap.size 1 A n (u64s up)) :
    Calls Tryd.prog 8 #[.slice A n c, .int .i64 kk] w fun e w' => e = .returned (.bool true) ∧ Below w.heap.size w w' := by
  have hml : maxLen = 9223372036854775807 := rfl
  obtain ⟨i0, hi0, hz0, hz1, hz2⟩ := info_parts pair_info
  have hR := right_lat A n c up w hT hn hn63 hM hr
  cases hq : latB up with
  | false =>
    rw [hq] at hR
    replace hR := Lib.hid hR
    replace hT := Lib.hid hT
    replace hr := Lib.hid hr
    replace hM := Lib.hid hM
    replace hn := Lib.hid hn
    replace hq := Lib.hid hq
    go_enter Tryd.func8, Tryd.ntmps8
    go_wp2_with fail
    refine hR.out.mono ?_
    rintro e w1 ⟨rfl, hb1⟩
    have hT1 := Lib.hid (hT.out.later hb1)
    replace hb1 := Lib.hid hb1
    go_wp2_with fail
    refine (awake_any w1 hT1.out).mono ?_
    rintro e w2 ⟨rfl, hb2⟩
    replace hb2 := Lib.hid hb2
    go_wp2_with fail
    go_ret
    exact ⟨rfl, hb1.out.trans (hb2.out.mono hb1.out.size)⟩
  | true =>
    have hL := Lat.of hM hq
    have h64 : n ≤ 64 := by rw [← hn]; exact hL.n64
    have hn1 : 1 ≤ n := by rw [← hn]; exact hL.n1
    have hcb := hL.covers_build
    have hcn := hL.covers_nil
    have hcl := fun k hk => hL.covers_less (k := k) hk
    have hlen : (coversL up).length ≤ 4096 := by
      have h := coversL_len up
      rw [hn] at h
      have := Nat.mul_le_mul h64 h64
      omega
    have hC := fun (w' : World) (hT' : Tab w') (hr' : Reads w' w'.heap.size 1 A n (u64s up)) => covers_any A n c up w' hT' hn hn63 hM hr'
    rw [hq] at hR
    simp only [hq, if_true] at hC
    rw [hn] at hcb hcn hcl
    generalize coversL up = L at *
    replace hC := Lib.hid hC
    replace hR := Lib.hid hR
    replace hT := Lib.hid hT
    replace hr := Lib.hid hr
    replace hM := Lib.hid hM
    replace hn := Lib.hid hn
    replace hq := Lib.hid hq
    replace hL := Lib.hid hL
    replace hcb := Lib.hid hcb
    replace hcn := Lib.hid hcn
    replace hcl := Lib.hid hcl
    go_enter Tryd.func8, Tryd.ntmps8
    go_wp2_with fail
    refine hR.out.mono ?_
    rintro e w1 ⟨rfl, hb1⟩
    have hT1 := Lib.hid (hT.out.later hb1)
    have hr1 := Lib.hid ((hr.out.below hb1).more hb1.size)
    have hB1 := Lib.hid hb1
    clear hb1
    go_wp2_with fail
    refine (hC.out w1 hT1.out hr1.out).mono ?_
    rintro e w2 ⟨A2, c2, rfl, hown, hb2⟩
    have hT2 := Lib.hid (hT1.out.later hb2)
    have hr2 := Lib.hid ((hr1.out.below hb2).more hb2.size)
    have hB2 := Lib.hid (hB1.out.trans (hb2.mono hB1.out.size))
    have hLm := (ownsRow_cap hown).2
    have hLc := (ownsRow_cap hown).1
    have hl2 : L.length ≤ maxLen := by omega
    have hrl := Lib.hid (Reads.of_own hown)
    have hBd := build_any (n : Nat) A2 L.length c2 (intP L) w2 hT2.out (by omega) (intP_len L) (by omega) hrl.out
    replace hBd := Lib.hid hBd
    clear hb2 hown
    go_wp2_with fail
    refine hBd.out.mono ?_
    rintro e w3 hbuilt
    unfold Built at hbuilt
    obtain ⟨hb3, A3, c3, rfl, hr3, hM3⟩ := hbuilt
    rw [hcb.out.2, hn.out] at hr3
    rw [hcb.out.1, hcb.out.2, hn.out]
    have hT3 := Lib.hid (hT2.out.later hb3)
    have hB3 := Lib.hid (hB2.out.trans (hb3.mono hB2.out.size))
    have hrl3 := Lib.hid ((hrl.out.below hb3).more hb3.size)
    have hru3 := Lib.hid ((hr2.out.below hb3).more hb3.size)
    have hS := same_masks A3 A n n c3 c up up w3 hn.out hn.out (by omega) (by omega) hr3 hru3.out
    rw [decide_eq_true rfl] at hS
    replace hS := Lib.hid hS
    replace hr3 := Lib.hid hr3
    clear hb3 hM3
    go_wp2_with fail
    refine hS.out.mono ?_
    rintro e w4 ⟨rfl, hb4⟩
    have hT4 := Lib.hid (hT3.out.later hb4)
    have hB4 := Lib.hid (hB3.out.trans (hb4.mono hB3.out.size))
    have hrl4 := Lib.hid ((hrl3.out.below hb4).more hb4.size)
    have hru4 := Lib.hid ((hru3.out.below hb4).more hb4.size)
    clear hb4
    by_cases h0 : L.length = 0
    · have h1 : n = 1 := hcn.out (List.eq_nil_of_length_eq_zero h0)
      subst h1
      rw [h0]
      go_wp2_with fail
      refine (awake_any w4 hT4.out).mono ?_
      rintro e w5 ⟨rfl, hb5⟩
      replace hb5 := Lib.hid hb5
      go_wp2_with fail
      go_ret
      exact ⟨rfl, hB4.out.trans (hb5.out.mono hB4.out.size)⟩
    have h0' : ¬ (((L.length : Nat) : Int) = 0) := by omega
    have h0b : ((((L.length : Nat) : Int)) == 0) = false := by simpa using h0'
    go_wp2_with fail
    obtain ⟨k, hk, hkl⟩ : ∃ k : Nat, wrap64 ((IntKind.u64.wrap kk).tmod ((L.length : Nat) : Int)) = (k : Int) ∧ k < L.length := by
      have z0 := wrap_u64_nonneg kk
      generalize IntKind.u64.wrap kk = z at z0
      have e : z.tmod ((L.length : Nat) : Int) = z % ((L.length : Nat) : Int) := Int.tmod_eq_emod_of_nonneg z0
      have h1 := Int.emod_nonneg z h0'
      have h2 := Int.emod_lt_of_pos z (b := ((L.length : Nat) : Int)) (by omega)
      rw [e]
      generalize z % ((L.length : Nat) : Int) = y at h1 h2
      exact ⟨y.toNat, by unfold wrap64; omega, by omega⟩
    rw [hk]
    replace hk := Lib.hid hk
    have k0 : (0 : Int) ≤ (k : Int) := by omega
    have k1 : (k : Int) ≤ (c2 : Int) := by omega
    have k2 : (k : Int) < ((L.length : Nat) : Int) := by omega
    have k3 : (k : Int) + 1 ≤ ((L.length : Nat) : Int) := by omega
    have k4 : (0 : Int) ≤ (k : Int) + 1 := by omega
    have k5 : wrap64 ((k : Int) + 1) = (k : Int) + 1 := (by unfold wrap64; omega)
    have k8 : IntKind.i64.wrap ((k : Int) + 1) = (k : Int) + 1 := by simp [IntKind.wrap, IntKind.bits, IntKind.signed]; omega
    have k9 : (k : Int) + 1 ≤ (c2 : Int) := by omega
    have k6 : ((L.length : Nat) : Int) ≤ (c2 : Int) := by omega
    have k7 : ((k : Int) + 1).toNat = k + 1 := by omega
    have hE := Lib.hid (ownsRow_empty w4 33 2)
    have hrA := reads_first hrl4.out (k := k) (by omega)
    rw [pairVals_take] at hrA
    have hrB4 := hrl4.out.cut (k := k + 1) (cap := c2) (by omega) (by omega)
    rw [pairVals_drop] at hrB4
    replace hrB4 := Lib.hid hrB4
    replace hrA := Lib.hid (hrA.alloc (Nat.le_refl _) (.cells #[] 33))
    have hoA := Lib.hid (pairVals_one ((intP L).take k))
    have hoB := Lib.hid (pairVals_one ((intP L).drop (k + 1)))
    go_region_held3 (fun w' => True) (trivial)
      (first
        | (refine step_append_any _ (by rfl) _ _ _ (by rfl) w4.heap.size 33 i0 _ 2 16 Tryd.underlying22 hi0 hz0 hz1 hz2 rfl (by decide) _ 0 [] (by rfl) hE.out w4.heap.size A2 k c2 _ (by rfl) hrA.out hoA.out (by omega) (by omega) (by simp) ?_
           intro v1 w5 hown1 hg1 hat1
           rw [Nat.zero_add, List.nil_append] at hown1
           obtain ⟨A5, c5, rfl⟩ := ownsRow_slice hown1
           have hb5 := Lib.hid (((Below.refl w4.heap.size w4).alloc (Nat.le_refl _) (.cells #[] 33)).drew.grown hg1 (by simp) (fun j hj => by simp [Value.ownBlock] at hj; omega))
           have hs5 := hb5.out.size
           have hrB := Lib.hid ((hrB4.out.below hb5.out).more hs5)
           replace hown1 := Lib.hid hown1
           clear hg1 hat1)
        | (refine step_append_any _ (by rfl) _ _ _ (by rfl) w4.heap.size 33 i0 _ 2 16 Tryd.underlying22 hi0 hz0 hz1 hz2 rfl (by decide) (.slice A5 k c5) k _ (by rfl) hown1.out w5.heap.size _ (L.length - (k + 1)) (c2 - (k + 1)) _ (by rfl) hrB.out hoB.out (by omega) (by omega) hs5 ?_
           intro v2 w6 hown2 hg2 hat2
           obtain ⟨A6, c6, rfl⟩ := ownsRow_slice hown2
           have hb6 := Lib.hid (hb5.out.grown hg2 hs5 (ownsRow_base hown1.out))
           have hrC := Reads.of_own hown2
           replace hown2 := Lib.hid hown2
           replace hrC := Lib.hid hrC
           clear hg2 hat2))
    have hm : (intP (lessL L k)).length = k + (L.length - (k + 1)) := by rw [intP_len, lessL_len L k hkl]; omega
    have hpv : pairVals ((intP L).take k) ++ pairVals ((intP L).drop (k + 1)) = pairVals (intP (lessL L k)) := by
      have e : intP (lessL L k) = (intP L).take k ++ (intP L).drop (k + 1) := by
        unfold intP
        rw [← lessL_map]
        rfl
      rw [e]
      unfold pairVals
      rw [List.flatMap_append]
    have hrC := hrC.out
    rw [hpv] at hrC
    have hT6 := Lib.hid (hT4.out.later hb6.out)
    have hB6 := Lib.hid (hB4.out.trans (hb6.out.mono hB4.out.size))
    have hru6 := Lib.hid ((hru4.out.below hb6.out).more hb6.out.size)
    have hBd2 := build_any (n : Nat) A6 (k + (L.length - (k + 1))) c6 (intP (lessL L k)) w6 hT6.out (by omega) hm (by omega) hrC
    have hne := hcl.out k hkl
    generalize intP (lessL L k) = ps at *
    replace hBd2 := Lib.hid hBd2
    replace hne := Lib.hid hne
    clear hm hpv hrC hown1 hown2 hrA hrB hrB4 hE hoA hoB hBd hcb hcl hC hR hS
    go_wp2_with fail
    all_goals (
      refine hBd2.out.mono ?_
      rintro e w7 hbuilt
      unfold Built at hbuilt
      obtain ⟨hb7, A7, c7, rfl, hr7, hM7⟩ := hbuilt
      have hT7 := Lib.hid (hT6.out.later hb7)
      have hB7 := Lib.hid (hB6.out.trans (hb7.mono hB6.out.size))
      have hru7 := Lib.hid ((hru6.out.below hb7).more hb7.size)
      by_cases hz : bldI (n : Nat) ps = 0
      · rw [hz]
        have hne2 : bldL (n : Nat) ps ≠ up := fun h => hne.out ⟨hz, h⟩
        have hlen7 : (bldL (n : Nat) ps).length ≤ 9223372036854775807 := Nat.le_trans (bldL_le _ _) (by omega)
        have hS := same_masks A7 A (bldL (n : Nat) ps).length n c7 c (bldL (n : Nat) ps) up w7 rfl hn.out hlen7 (by omega) hr7 hru7.out
        rw [decide_eq_false hne2] at hS
        generalize bldL (n : Nat) ps = L2 at *
        replace hS := Lib.hid hS
        replace hne2 := Lib.hid hne2
        replace hz := Lib.hid hz
        replace hr7 := Lib.hid hr7
        clear hb7 hM7
        go_wp2_with fail
        refine hS.out.mono ?_
        rintro e w8 ⟨rfl, hb8⟩
        have hT8 := Lib.hid (hT7.out.later hb8)
        have hB8 := Lib.hid (hB7.out.trans (hb8.mono hB7.out.size))
        clear hb8
        go_wp2_with fail
        refine (awake_any w8 hT8.out).mono ?_
        rintro e w9 ⟨rfl, hb9⟩
        replace hb9 := Lib.hid hb9
        go_wp2_with fail
        go_ret
        exact ⟨rfl, hB8.out.trans (hb9.out.mono hB8.out.size)⟩
      · generalize bldL (n : Nat) ps = L2 at *
        generalize bldI (n : Nat) ps = y at *
        have hy : (y != 0) = true := by simp [hz]
        replace hr7 := Lib.hid hr7
        clear hb7 hM7
        go_wp2_with fail
        refine (awake_any w7 hT7.out).mono ?_
        rintro e w9 ⟨rfl, hb9⟩
        replace hb9 := Lib.hid hb9
        go_wp2_with fail
        go_ret
        exact ⟨rfl, hB7.out.trans (hb9.out.mono hB7.out.size)⟩)
end Go.Proofs.YtaclogfchlphlaaDoor
