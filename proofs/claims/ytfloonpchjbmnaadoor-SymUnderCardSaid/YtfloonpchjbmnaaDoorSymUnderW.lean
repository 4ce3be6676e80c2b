/- The walk of SymUnder. -/
import Derived.Deep.RegionHeld3
import Derived.Deep.DeepCutAuto
import Derived.Test.YtfloonpchjbmnaaDoorSymPutsW
import Derived.Test.YtfloonpchjbmnaaDoorSd
import Derived.Test.YtfloonpchjbmnaaDoorTw
import Derived.Test.YtfloonpchjbmnaaDoorRa
namespace Go.Idl

theorem Lat.top_to {up : List Nat} (h : Lat up) : ∀ k, k ≤ up.length → ∃ t, t < up.length ∧ ∀ m, m < k → le up m t = true
  | 0, _ => ⟨0, h.n1, fun m hm => by omega⟩
  | k + 1, hk => by
    obtain ⟨t, ht, hl⟩ := h.top_to k (by omega)
    have hj := h.jn_is ht (show k < up.length by omega)
    refine ⟨jn up t k, hj.lt, fun m hm => ?_⟩
    rcases Nat.lt_or_ge m k with h1 | h1
    · exact h.tr _ _ _ (by omega) ht (hl m h1) hj.l
    · obtain rfl : m = k := by omega
      exact hj.r
theorem Lat.far {up : List Nat} (h : Lat up) : ∃ t, t < up.length ∧ farI up = (t : Int) ∧ ∀ m, m < up.length → le up m t = true := by
  unfold farI
  rcases firstI_cases up.length (fun k => (List.range up.length).all fun m => le up m k) with ⟨k, hk, hp, _, he⟩ | ⟨hn, _⟩
  · refine ⟨k, hk, he, fun m hm => ?_⟩
    rw [List.all_eq_true] at hp
    exact hp m (List.mem_range.2 hm)
  · obtain ⟨t, ht, hl⟩ := h.top_to up.length (Nat.le_refl _)
    have h1 := hn t ht
    have h2 : ((List.range up.length).all fun m => le up m t) = true := List.all_eq_true.2 fun m hm => hl m (List.mem_range.1 hm)
    rw [h2] at h1
    cases h1

/-- Caps that are each the top or the bound already. -/
theorem capTo_at {up : List Nat} {f b : Int} (h1 : meetI up f.toNat b.toNat = b) (h2 : meetI up b.toNat b.toNat = b) : ∀ (L : List Nat) (cs : List Int), (∀ x ∈ L, x < cs.length) → (∀ j, j < cs.length → cs.getD j 0 = f ∨ cs.getD j 0 = b) → ∀ i, i < cs.length →
    (capTo up b L cs).getD i 0 = if i ∈ L then b else cs.getD i 0
  | [], cs, _, _, i, _ => by simp [capTo]
  | x :: r, cs, hL, hc, i, hi => by
    have hx : x < cs.length := hL x (by simp)
    have hv : meetI up (cs.getD x 0).toNat b.toNat = b := by
      rcases hc x hx with h | h <;> rw [h]
      · exact h1
      · exact h2
    have hg : ∀ j, j < cs.length → (cs.set x b).getD j 0 = if x = j then b else cs.getD j 0 := by
      intro j hj
      rw [List.getD_eq_getElem?_getD, List.getD_eq_getElem?_getD, List.getElem?_set]
      by_cases hxj : x = j
      · subst hxj; simp [hx]
      · simp [hxj]
    show (capTo up b r (cs.set x (meetI up (cs.getD x 0).toNat b.toNat))).getD i 0 = _
    rw [hv, capTo_at h1 h2 r (cs.set x b) (fun y hy => by rw [List.length_set]; exact hL y (by simp [hy])) (fun j hj => by
      rw [List.length_set] at hj
      rw [hg j hj]
      by_cases hxj : x = j
      · rw [if_pos hxj]; exact .inr rfl
      · rw [if_neg hxj]; exact hc j hj) i (by rw [List.length_set]; exact hi), hg i hi]
    by_cases hir : i ∈ r
    · simp [hir]
    · by_cases hxi : x = i
      · subst hxi; simp
      · have : ¬ (i = x) := fun h => hxi h.symm
        simp [hir, hxi, this]

theorem under_law {up : List Nat} (hM : Masks up) {l : Lb} {zs : List Int} {q b : Int} (h : putOk up l (lows zs) ⟨q, 0⟩ = true) (hb : goodB up b = true) :
    capOk up (List.replicate 7 (farI up)) l b = true ∧ (∀ i, i < 7 → goodB up ((capF up (List.replicate 7 (farI up)) l.ms b).getD i 0) = true) ∧ goodB up (lo up zs q l) = true ∧
    le up (lo up zs q l).toNat b.toNat = (le up l.lv.toNat b.toNat && le up q.toNat ((capF up (List.replicate 7 (farI up)) l.ms b).getD 6 0).toNat &&
      (List.range zs.length).all fun i => le up (zs.getD i 0).toNat ((capF up (List.replicate 7 (farI up)) l.ms b).getD i 0).toNat) := by
  obtain ⟨k1, k2, k3, k4, k5, k6⟩ := putOk_iff.1 h
  rw [lows_len] at k1 k5
  have La := Lat.of hM k2
  obtain ⟨t, ht, hf, htop⟩ := La.far
  obtain ⟨y, hy, hyl⟩ := goodB_iff.1 hb
  have hfit7 : fitsB l.ms 7 = true := fitsB_iff.2 fun i hi => by
    rcases fitsB_iff.1 k5 i hi with h1 | h1
    · exact .inl (by omega)
    · exact .inr h1
  have hgt : goodB up (farI up) = true := goodB_iff.2 ⟨t, hf, ht⟩
  have hrep : ∀ k ∈ List.replicate 7 (farI up), goodB up k = true := fun k hk => by rw [(List.mem_replicate.1 hk).2]; exact hgt
  have hok : capOk up (List.replicate 7 (farI up)) l b = true := capOk_iff.2 ⟨k2, hrep, hb, k3, hfit7⟩
  have m1 : meetI up (farI up).toNat b.toNat = b := by
    rw [hf, hy, Int.toNat_natCast, Int.toNat_natCast, La.meetI_eq ht hyl]
    have hm := La.mt_is ht hyl
    congr 1
    exact La.an _ _ hm.lt hyl hm.r (hm.most y hyl (htop y hyl) (La.rf y hyl))
  have m2 : meetI up b.toNat b.toNat = b := by
    rw [hy, Int.toNat_natCast, La.meetI_eq hyl hyl]
    have hm := La.mt_is hyl hyl
    congr 1
    exact La.an _ _ hm.lt hyl hm.r (hm.most y hyl (La.rf y hyl) (La.rf y hyl))
  have hat : ∀ i, i < 7 → (capF up (List.replicate 7 (farI up)) l.ms b).getD i 0 = if i ∈ bitsOf l.ms then b else farI up := by
    intro i hi
    have hrd : ∀ j, j < 7 → (List.replicate 7 (farI up)).getD j 0 = farI up := fun j hj => by
      rw [List.getD_eq_getElem?_getD, List.getElem?_replicate, if_pos hj]; rfl
    have := capTo_at m1 m2 (bitsOf l.ms) (List.replicate 7 (farI up)) (fun x hx => by rw [List.length_replicate]; exact bits7 hfit7 hx) (fun j hj => by rw [List.length_replicate] at hj; exact .inl (hrd j hj)) i (by rw [List.length_replicate]; exact hi)
    rw [hrd i hi] at this
    exact this
  have hlo : lo up zs q l = (putF up l (lows zs) ⟨q, 0⟩).lv := by unfold lo; rw [putL_ok h]
  have hgk := put_gd hM h
  refine ⟨hok, fun i hi => ?_, by rw [hlo]; exact gd_iff.2 hgk, ?_⟩
  · rw [hat i hi]
    split
    · exact hb
    · exact hgt
  have hle : ∀ (a : Int) (i : Nat), goodB up a = true → i < 7 → (le up a.toNat ((capF up (List.replicate 7 (farI up)) l.ms b).getD i 0).toNat = true ↔ (i ∈ bitsOf l.ms → le up a.toNat b.toNat = true)) := by
    intro a i ha hi
    obtain ⟨p, hp, hpl⟩ := goodB_iff.1 ha
    rw [hat i hi]
    by_cases hm : i ∈ bitsOf l.ms
    · rw [if_pos hm]
      exact ⟨fun h _ => h, fun h => h hm⟩
    · rw [if_neg hm, hf, hp, Int.toNat_natCast, Int.toNat_natCast]
      exact ⟨fun _ h => absurd h hm, fun _ => htop p hpl⟩
  rw [hlo, Bool.eq_iff_iff]
  have hput := put_le hM h (x := b.toNat) (by rw [hy]; exact hyl)
  rw [hput]
  simp only [Bool.and_eq_true, List.all_eq_true, List.mem_range]
  have hzg : ∀ i, i < zs.length → goodB up (zs.getD i 0) = true := by
    intro i hi
    rw [List.all_eq_true] at k6
    have hmem : (⟨zs.getD i 0, 0⟩ : Lb) ∈ lows zs := by
      unfold lows
      refine List.mem_map.2 ⟨zs.getD i 0, ?_, rfl⟩
      rw [List.getD_eq_getElem?_getD, List.getElem?_eq_getElem hi]
      exact List.getElem_mem hi
    exact k6 _ hmem
  have hst : ∀ i, i < zs.length → i ≠ 6 → (stands (lows zs) ⟨q, 0⟩ i).lv = zs.getD i 0 := by
    intro i hi h6
    unfold stands
    rw [if_neg h6]
    simp [lows, List.getD, hi]
  have hst6 : (stands (lows zs) ⟨q, 0⟩ 6).lv = q := by unfold stands; rfl
  constructor
  · rintro ⟨a1, a2⟩
    refine ⟨⟨a1, (hle q 6 k4 (by omega)).2 fun h6 => ?_⟩, fun i hi => (hle _ i (hzg i hi) (by omega)).2 fun hm => ?_⟩
    · have := a2 6 h6
      rwa [hst6] at this
    · have := a2 i hm
      rwa [hst i hi (by omega)] at this
  · rintro ⟨⟨a1, a2⟩, a3⟩
    refine ⟨a1, fun c hc => ?_⟩
    rcases fitsB_iff.1 k5 c hc with h1 | h1
    · rw [hst c h1 (by omega)]
      exact (hle _ c (hzg c h1) (by omega)).1 (a3 c h1) hc
    · subst h1
      rw [hst6]
      exact (hle q 6 k4 (by omega)).1 a2 hc
end Go.Idl
namespace Go.Proofs.YtfloonpchjbmnaaDoor
open Go.RowKit Go.Shelf Go.Idl
set_option linter.unusedSimpArgs false
set_option linter.unusedVariables false

def fillF (f : Int) (i : Nat) : List Int := (List.range 7).map fun j => if j < i then f else 0
theorem fillF_set (f : Int) (i : Nat) (hi : i < 7) : (fillF f i).set i f = fillF f (i + 1) := by
  match i, hi with
  | 0, _ => rfl
  | 1, _ => rfl
  | 2, _ => rfl
  | 3, _ => rfl
  | 4, _ => rfl
  | 5, _ => rfl
  | 6, _ => rfl
theorem fillF_at (f : Int) (i : Nat) (hi : i < 7) : (fillF f i)[i]? = some 0 := by
  match i, hi with
  | 0, _ => rfl
  | 1, _ => rfl
  | 2, _ => rfl
  | 3, _ => rfl
  | 4, _ => rfl
  | 5, _ => rfl
  | 6, _ => rfl

set_option maxHeartbeats 8000000 in
set_option maxRecDepth 100000 in
theorem walkSymUnder (A : Option Addr) (n c : Nat) (up : List Nat) (l : Lb) (Z : Option Addr) (m d : Nat) (zs : List Int) (w : World) (hT : Tab w) (hn : up.length = n) (hn63 : n ≤ maxLen) (hM : Masks up) (hr : Reads w w.heap.size 1 A n (u64s up)) (hl : l.ms < 2 ^ 64)
    (ham : zs.length = m) (hm63 : m ≤ maxLen) (hmd : m ≤ d) (hd : d ≤ maxLen) (hz : Reads w w.heap.size 1 Z m (ints zs)) :
    Calls Tryd.prog 9 #[.slice A n c, lbV l, .slice Z m d] w fun e w' => e = .returned (.bool true) ∧ Below w.heap.size w w' := by
  have hml : maxLen = 9223372036854775807 := rfl
  obtain ⟨lv, lm⟩ := l
  dsimp only at hl ⊢
  simp only [lbV]
  obtain ⟨X, hX⟩ : ∃ X, w.alloc (.cells #[.int .i64 lv, .int .u64 (lm : Nat)] 25) = X := ⟨_, rfl⟩
  have k0 : Blk X w.heap.size 25 #[.int .i64 lv, .int .u64 (lm : Nat)] := by rw [← hX]; exact Blk.new w _ _
  have hsz : X.heap.size = w.heap.size + 1 := by rw [← hX]; simp
  have hB0 : Below w.heap.size w X := by rw [← hX]; exact (Below.refl _ w).alloc (Nat.le_refl _) _
  obtain ⟨p0, p1⟩ := pair_cells k0
  have hrX := Lib.hid (show Reads X X.heap.size 1 A n (u64s up) from (hr.below hB0).more (by omega))
  have hzX := Lib.hid (show Reads X X.heap.size 1 Z m (ints zs) from (hz.below hB0).more (by omega))
  have hTX := Lib.hid (hT.later hB0)
  have hcell := Lib.hid (fun (W : World) (p : Addr) (v : Value) (h : Below X.heap.size X W) (hp : p.block < X.heap.size) (hv : X.cell? p = some v) => (h.cell hp).trans hv)
  have hbX := Lib.hid (Below.refl X.heap.size X)
  replace hr := Lib.hid hr
  replace hz := Lib.hid hz
  replace hT := Lib.hid hT
  replace hn := Lib.hid hn
  replace hM := Lib.hid hM
  replace k0 := Lib.hid k0
  replace hB0 := Lib.hid hB0
  replace ham := Lib.hid ham
  by_cases hbig : 20 < n
  · have h2 : ((20 : Int) < (n : Int)) := by omega
    go_enter Tryd.func9, Tryd.ntmps9
    go_wp2_with fail
    refine (awake_any X ?_).mono ?_
    · exact hTX.out.later (hbX.out)
    rintro e0 wz ⟨rfl, hbz⟩
    replace hbz := Lib.hid hbz
    go_wp2_with fail
    go_ret
    exact ⟨rfl, hB0.out.trans ((Below.trans (hbX.out) (hbz.out.mono (hbX.out).size)).mono (by omega))⟩
  have h2 : ¬ ((20 : Int) < (n : Int)) := by omega
  by_cases hb2 : m < 2
  · have h3 : ((m : Int) < 2) := by omega
    go_enter Tryd.func9, Tryd.ntmps9
    go_wp2_with fail
    refine (awake_any X ?_).mono ?_
    · exact hTX.out.later (hbX.out)
    rintro e0 wz ⟨rfl, hbz⟩
    replace hbz := Lib.hid hbz
    go_wp2_with fail
    go_ret
    exact ⟨rfl, hB0.out.trans ((Below.trans (hbX.out) (hbz.out.mono (hbX.out).size)).mono (by omega))⟩
  have h3 : ¬ ((m : Int) < 2) := by omega
  by_cases hb3 : 8 < m
  · have h4 : ((8 : Int) < (m : Int)) := by omega
    go_enter Tryd.func9, Tryd.ntmps9
    go_wp2_with fail
    refine (awake_any X ?_).mono ?_
    · exact hTX.out.later (hbX.out)
    rintro e0 wz ⟨rfl, hbz⟩
    replace hbz := Lib.hid hbz
    go_wp2_with fail
    go_ret
    exact ⟨rfl, hB0.out.trans ((Below.trans (hbX.out) (hbz.out.mono (hbX.out).size)).mono (by omega))⟩
  have h4 : ¬ ((8 : Int) < (m : Int)) := by omega
  have hRI := rright_any A n c up X hn.out hn63 hM.out hrX.out
  cases hla : latB up with
  | false =>
    rw [hla] at hRI
    replace hla := Lib.hid hla
    replace hRI := Lib.hid hRI
    go_enter Tryd.func9, Tryd.ntmps9
    go_wp2_with fail
    refine hRI.out.mono ?_
    rintro e0 w5 ⟨rfl, hb5⟩
    replace hb5 := Lib.hid hb5
    go_wp2_with fail
    refine (awake_any w5 ?_).mono ?_
    · exact hTX.out.later (hb5.out)
    rintro e0 wz ⟨rfl, hbz⟩
    replace hbz := Lib.hid hbz
    go_wp2_with fail
    go_ret
    exact ⟨rfl, hB0.out.trans ((Below.trans (hb5.out) (hbz.out.mono (hb5.out).size)).mono (by omega))⟩
  | true =>
    rw [hla] at hRI
    replace hRI := Lib.hid hRI
    have La := Lat.of hM.out hla
    replace hla := Lib.hid hla
    match zs, ham with
    | [], ham => exact absurd ham.out (by simp; omega)
    | [_], ham => exact absurd ham.out (by simp; omega)
    | bo :: pc :: rest, ham =>
    have hrl : rest.length = m - 2 := by have := ham.out; simp at this; omega
    go_enter Tryd.func9, Tryd.ntmps9
    go_wp2_with fail
    refine hRI.out.mono ?_
    rintro e0 w5 ⟨rfl, hb5⟩
    have hs5 := hb5.size
    have hz5 := (hzX.out.below hb5).more hs5
    have hcut := hz5.cut (k := 2) (cap := d) (by omega) hmd
    have hcut : Reads w5 w5.heap.size 1 (if d = 2 then Z else Z.map (·.add (2 * 1))) (m - 2) (ints rest) := hcut
    obtain ⟨ad, rfl, hbk, hcl⟩ := hz5.2 (by omega)
    have u0 : w5.cell? ad = some (.int .i64 bo) := hcl 0 _ rfl
    have u1 : w5.cell? (ad.add 1) = some (.int .i64 pc) := hcl 1 _ rfl
    have u2 : w5.cell? { block := ad.block, off := ad.off + 1 } = some (.int .i64 pc) := by simpa [Addr.add] using u1
    have x3 : (0 : Int) < (m : Int) := by omega
    have x4 : (1 : Int) < (m : Int) := by omega
    have x5 : (2 : Int) ≤ (m : Int) := by omega
    have x6 : (m : Int) ≤ (d : Int) := by omega
    have x7 : (2 : Int) ≤ (d : Int) := by omega
    have hcut' : Reads w5 w5.heap.size 1 (if d = 2 then some ad else some { block := ad.block, off := ad.off + 2 }) (m - 2) (ints rest) := by
      simpa [Addr.add] using hcut
    have z0 := hcell.out _ _ _ hb5 (by simp <;> omega) p0
    have z1 := hcell.out _ _ _ hb5 (by simp <;> omega) p1
    replace hcut := Lib.hid hcut
    replace hcut' := Lib.hid hcut'
    replace hcl := Lib.hid hcl
    replace hz5 := Lib.hid hz5
    replace hb5 := Lib.hid hb5
    replace hrl := Lib.hid hrl
    replace hX := Lib.hid hX
    replace La := Lib.hid La
    go_wp2_with fail
    go_quiet (fail)
    generalize (if d = 2 then some ad else some { block := ad.block, off := ad.off + 2 } : Option Addr) = R at *
    generalize d - 2 = dr at *
    generalize hq : m - 2 = q at *
    obtain ⟨Y, hY⟩ : ∃ Y, w5.drewN nq = Y := ⟨_, rfl⟩
    have hbY : Below w5.heap.size w5 Y := by rw [← hY]; exact below_drewNs (Below.refl _ _) nq
    rw [hY]
    have hsY := hbY.size
    have hBY := Lib.hid (hb5.out.trans (hbY.mono hs5))
    have y0 := (hbY.cell (by simp <;> omega)).trans z0
    have y1 := (hbY.cell (by simp <;> omega)).trans z1
    have hrY := Lib.hid ((hrX.out.below hBY.out).more hBY.out.size)
    have hRY := Lib.hid ((hcut'.out.below hbY).more hsY)
    have hTY := Lib.hid (hTX.out.later hBY.out)
    have hSL := slow_any A n c up ⟨lv, lm⟩ R q dr rest pc Y hTY.out hn.out hn63 hM.out hrY.out hl hrl.out (by omega) hRY.out
    have hlo : (putL up ⟨lv, lm⟩ (lows rest) ⟨pc, 0⟩).lv = lo up rest pc ⟨lv, lm⟩ := rfl
    rw [hlo] at hSL
    have hlaw := @under_law up hM.out ⟨lv, lm⟩ rest pc bo
    have hpk := @putOk_iff up ⟨lv, lm⟩ (lows rest) ⟨pc, 0⟩
    clear z0 z1 u0 u1 u2 hcut hcl hz5
    replace hbY := Lib.hid hbY
    replace hY := Lib.hid hY
    replace hlo := Lib.hid hlo
    cases hok : putOk up ⟨lv, lm⟩ (lows rest) ⟨pc, 0⟩ with
    | false =>
      rw [hok] at hSL
      replace hSL := Lib.hid hSL
      replace hok := Lib.hid hok
      replace hlaw := Lib.hid hlaw
      replace hpk := Lib.hid hpk
      go_wp2_with fail
      refine hSL.out.mono ?_
      rintro e0 w6 ⟨rfl, hb6⟩
      replace hb6 := Lib.hid hb6
      go_wp2_with fail
      refine (awake_any w6 ?_).mono ?_
      · exact hTX.out.later (hBY.out.trans (hb6.out.mono hBY.out.size))
      rintro e0 wz ⟨rfl, hbz⟩
      replace hbz := Lib.hid hbz
      go_wp2_with fail
      go_ret
      exact ⟨rfl, hB0.out.trans ((Below.trans (hBY.out.trans (hb6.out.mono hBY.out.size)) (hbz.out.mono (hBY.out.trans (hb6.out.mono hBY.out.size)).size)).mono (by omega))⟩
    | true =>
      rw [hok] at hSL
      replace hSL := Lib.hid hSL
      have hlaw := hlaw hok
      obtain ⟨k1, _, k3, k4, k5, k6⟩ := hpk.1 hok
      replace hok := Lib.hid hok
      replace hpk := Lib.hid hpk
      by_cases hg : goodB up bo = true
      case neg =>
        replace hlaw := Lib.hid hlaw
        have hbad : bo < 0 ∨ (¬ bo < 0 ∧ (n : Int) ≤ bo) := by
          unfold goodB at hg
          rw [hn.out] at hg
          simp only [Bool.and_eq_true, decide_eq_true_eq] at hg
          omega
        replace hg := Lib.hid hg
        replace k6 := Lib.hid k6
        rcases hbad with b0 | ⟨b0, b1⟩
        · go_wp2_with fail
          refine hSL.out.mono ?_
          rintro e0 w6 ⟨rfl, hb6⟩
          replace hb6 := Lib.hid hb6
          go_wp2_with fail
          refine (awake_any w6 ?_).mono ?_
          · exact hTX.out.later (hBY.out.trans (hb6.out.mono hBY.out.size))
          rintro e0 wz ⟨rfl, hbz⟩
          replace hbz := Lib.hid hbz
          go_wp2_with fail
          go_ret
          exact ⟨rfl, hB0.out.trans ((Below.trans (hBY.out.trans (hb6.out.mono hBY.out.size)) (hbz.out.mono (hBY.out.trans (hb6.out.mono hBY.out.size)).size)).mono (by omega))⟩
        · go_wp2_with fail
          refine hSL.out.mono ?_
          rintro e0 w6 ⟨rfl, hb6⟩
          replace hb6 := Lib.hid hb6
          go_wp2_with fail
          refine (awake_any w6 ?_).mono ?_
          · exact hTX.out.later (hBY.out.trans (hb6.out.mono hBY.out.size))
          rintro e0 wz ⟨rfl, hbz⟩
          replace hbz := Lib.hid hbz
          go_wp2_with fail
          go_ret
          exact ⟨rfl, hB0.out.trans ((Below.trans (hBY.out.trans (hb6.out.mono hBY.out.size)) (hbz.out.mono (hBY.out.trans (hb6.out.mono hBY.out.size)).size)).mono (by omega))⟩
      case pos =>
        obtain ⟨l1, l2, l3, l4⟩ := hlaw hg
        clear hlaw
        have hg2 := hg
        unfold goodB at hg2
        rw [hn.out] at hg2
        simp only [Bool.and_eq_true, decide_eq_true_eq] at hg2
        have b0 : ¬ bo < 0 := by omega
        have b1 : ¬ (n : Int) ≤ bo := by omega
        have hLE : ∀ (a b : Int), goodB up a = true → goodB up b = true → ∀ W : World, Tab W → Reads W W.heap.size 1 A n (u64s up) → Calls Tryd.prog 26 #[.slice A n c, .int .i64 a, .int .i64 b] W fun e w' => e = .returned (.bool (le up a.toNat b.toNat)) ∧ Below W.heap.size W w' := by
          intro a b ha hb W hT hr
          have h := leq_any A n c up a b W hT hn.out hn63 hM.out hr
          rw [bothL_of_good hla.out ha hb, Bool.true_and] at h
          exact h
        have hFar := fun (W : World) (hr : Reads W W.heap.size 1 A n (u64s up)) => rfar_any A n c up W hn.out (by omega) hM.out hr
        have hCap := fun (W : World) (hT : Tab W) (hr : Reads W W.heap.size 1 A n (u64s up)) => cap_any A n c up (List.replicate 7 (farI up)) ⟨lv, lm⟩ bo W hT hn.out hn63 hM.out hr hl rfl
        have hcl : capL up (List.replicate 7 (farI up)) ⟨lv, lm⟩ bo = capF up (List.replicate 7 (farI up)) lm bo := by unfold capL; rw [if_pos l1]
        rw [hcl, l1] at hCap
        have hlen : (capF up (List.replicate 7 (farI up)) lm bo).length = 7 := by unfold capF; rw [capTo_len]; rfl
        have hFI := fun (W : World) => rfits_any A n c up ⟨lv, lm⟩ q W hn.out hl
        have hfit : (goodB up lv && fitsB lm q) = true := by
          rw [lows_len, hrl.out] at k5
          rw [k3, k5]
          rfl
        rw [hfit] at hFI
        clear hcl
        generalize capF up (List.replicate 7 (farI up)) lm bo = cf at *
        generalize farI up = f at *
        have hrep : List.replicate 7 f = [f, f, f, f, f, f, f] := rfl
        rw [hrep] at hCap
        have hzg : ∀ i, i < q → goodB up (rest.getD i 0) = true := by
          intro i hi
          rw [List.all_eq_true] at k6
          have hmem : (⟨rest.getD i 0, 0⟩ : Lb) ∈ lows rest := by
            unfold lows
            refine List.mem_map.2 ⟨rest.getD i 0, ?_, rfl⟩
            rw [List.getD_eq_getElem?_getD, List.getElem?_eq_getElem (by rw [hrl.out]; exact hi)]
            exact List.getElem_mem _
          exact k6 _ hmem
        have hE1 := hLE lv bo k3 hg
        have hE2 := hLE pc (cf.getD 6 0) k4 (l2 6 (by omega))
        have hE3 := fun (i : Nat) (hi : i < q) => hLE (rest.getD i 0) (cf.getD i 0) (hzg i hi) (l2 i (by omega))
        have hE4 := hLE (lo up rest pc ⟨lv, lm⟩) bo l3 hg
        rw [l4] at hE4
        dsimp only at hE4
        rw [hrl.out] at hE4
        generalize le up lv.toNat bo.toNat = e1 at *
        generalize le up pc.toNat (cf.getD 6 0).toNat = e2 at *
        generalize lo up rest pc ⟨lv, lm⟩ = kv at *
        simp only [lbV, ints, List.map_cons, List.map_nil] at hCap hFI
        replace hE1 := Lib.hid hE1
        replace hE2 := Lib.hid hE2
        replace hE3 := Lib.hid hE3
        replace hE4 := Lib.hid hE4
        replace hLE := Lib.hid hLE
        replace hFar := Lib.hid hFar
        replace hCap := Lib.hid hCap
        replace hFI := Lib.hid hFI
        replace hfit := Lib.hid hfit
        replace hrep := Lib.hid hrep
        replace hzg := Lib.hid hzg
        replace l1 := Lib.hid l1
        replace l2 := Lib.hid l2
        replace l3 := Lib.hid l3
        replace l4 := Lib.hid l4
        replace hg := Lib.hid hg
        replace k3 := Lib.hid k3
        replace k4 := Lib.hid k4
        replace k5 := Lib.hid k5
        replace k6 := Lib.hid k6
        go_wp2_with fail
        refine hSL.out.mono ?_
        rintro e0 w6 ⟨rfl, hb6⟩
        have hs6 := hb6.size
        have hB6 := Lib.hid (hBY.out.trans (hb6.mono hBY.out.size))
        have z0 := (hb6.cell (by simp <;> omega)).trans y0
        have z1 := (hb6.cell (by simp <;> omega)).trans y1
        have hr6 := Lib.hid ((hrX.out.below hB6.out).more hB6.out.size)
        have hR6 := Lib.hid ((hRY.out.below hb6).more hs6)
        have hT6 := Lib.hid (hTX.out.later hB6.out)
        replace hb6 := Lib.hid hb6
        clear y0 y1
        obtain ⟨X7, hX7⟩ : ∃ X7, w6.alloc (.cells #[.int .i64 0, .int .i64 0, .int .i64 0, .int .i64 0, .int .i64 0, .int .i64 0, .int .i64 0] 50) = X7 := ⟨_, rfl⟩
        have k7 : Blk X7 w6.heap.size 50 (ints (fillF f 0)).toArray := by rw [← hX7]; exact Blk.new _ _ _
        have hs7 : X7.heap.size = w6.heap.size + 1 := by rw [← hX7]; simp
        have hb7 : Below w6.heap.size w6 X7 := by rw [← hX7]; exact (Below.refl _ _).alloc (Nat.le_refl _) _
        have hcell6 := Lib.hid (fun (W : World) (p : Addr) (v : Value) (h : Below w6.heap.size w6 W) (hp : p.block < w6.heap.size) (hv : w6.cell? p = some v) => (h.cell hp).trans hv)
        have hszw : w.heap.size < w6.heap.size := by have := hB6.out.size; omega
        replace k7 := Lib.hid k7
        replace hb7 := Lib.hid hb7
        go_wp2_with fail
        try rw [hX7]
        replace hX7 := Lib.hid hX7
        go_loopw [13] (fun v wr => ∃ i : Nat, v = .int .i64 (i : Nat) ∧ i ≤ 7 ∧ Blk wr w6.heap.size 50 (ints (fillF f i)).toArray ∧ w6.heap.size + 1 ≤ wr.heap.size ∧ Below w6.heap.size w6 wr) (fun v wr => 7 - natOf v)
        case atStart => exact ⟨0, rfl, by omega, k7.out, by omega, hb7.out⟩
        case round =>
          obtain ⟨i, rfl, hi7, kr, hsw, hB⟩ := hrel
          by_cases hi : i < 7
          · have hlt : ((i : Int) < 7) := by omega
            have hlt0 : ((0 : Int) ≤ (i : Int)) := by omega
            have d1 : wr.cell? ⟨w6.heap.size, i, none⟩ = some (.int .i64 0) := by
              rw [kr.cell i]
              have := fillF_at f i hi
              unfold ints
              simp [this]
            have f1 := kr.frozen i
            have hset := kr.set_ i (.int .i64 f)
            rw [ints_set, fillF_set f i hi] at hset
            replace hset := Lib.hid hset
            replace kr := Lib.hid kr
            replace hB := Lib.hid hB
            go_wp2_with (go_at_call 25; refine (hFar.out wr ((hr6.out.below hB.out).more hB.out.size)).mono ?_; rintro e w2 ⟨rfl, rfl⟩)
            go_roundw
            case rel => exact ⟨i + 1, by go_num, by omega, hset.out, by simpa [World.setCell] using hsw, hB.out.setCell (by simp) _⟩
            case measure => simp [natOf]; omega
          · have hlt : ¬ ((i : Int) < 7) := by omega
            obtain rfl : i = 7 := by omega
            have k8 : Blk wr w6.heap.size 50 #[.int .i64 f, .int .i64 f, .int .i64 f, .int .i64 f, .int .i64 f, .int .i64 f, .int .i64 f] := kr
            have hb8 := Lib.hid hB
            obtain ⟨w8, hV0, rfl⟩ : ∃ V, Below w6.heap.size w6 V ∧ V = _ := ⟨_, hB, rfl⟩
            clear hV0 hB
            have hs8 := hb8.out.size
            have p0 := k8.cell 0
            have p1 := k8.cell 1
            have p2 := k8.cell 2
            have p3 := k8.cell 3
            have p4 := k8.cell 4
            have p5 := k8.cell 5
            have p6 := k8.cell 6
            simp at p0 p1 p2 p3 p4 p5 p6
            have y0 := hcell6.out _ _ _ hb8.out (by simp <;> omega) z0
            have y1 := hcell6.out _ _ _ hb8.out (by simp <;> omega) z1
            replace kr := Lib.hid kr
            replace k8 := Lib.hid k8
            go_wp2_with fail
            refine (hCap.out w8 (hT6.out.later hb8.out) ((hr6.out.below hb8.out).more hs8)).mono ?_
            rintro e0 w9 ⟨rfl, hb9'⟩
            have hb9 : Below w6.heap.size w6 w9 := hb8.out.trans (hb9'.mono hs8)
            have hs9 := hb9.size
            obtain ⟨x0, x1, x2, x3, x4, x5, x6, rfl⟩ := list7 hlen
            replace hb9 := Lib.hid hb9
            clear p0 p1 p2 p3 p4 p5 p6 y0 y1 hb9'
            obtain ⟨X9, hX9⟩ : ∃ X9, w9.alloc (.cells #[.int .i64 x0, .int .i64 x1, .int .i64 x2, .int .i64 x3, .int .i64 x4, .int .i64 x5, .int .i64 x6] 50) = X9 := ⟨_, rfl⟩
            have k9 : Blk X9 w9.heap.size 50 (ints [x0, x1, x2, x3, x4, x5, x6]).toArray := by rw [← hX9]; exact Blk.new _ _ _
            have hb10 : Below w6.heap.size w6 X9 := by rw [← hX9]; exact hb9.out.alloc hs9 _
            have hs10 := hb10.size
            have hg9 := k9.lt
            have y0 := hcell6.out _ _ _ hb10 (by simp <;> omega) z0
            have y1 := hcell6.out _ _ _ hb10 (by simp <;> omega) z1
            have y6 : X9.cell? ⟨w9.heap.size, 6, none⟩ = some (.int .i64 x6) := by rw [k9.cell 6]; rfl
            have hcell9 := Lib.hid (fun (W : World) (p : Addr) (v : Value) (h : Below X9.heap.size X9 W) (hp : p.block < X9.heap.size) (hv : X9.cell? p = some v) => (h.cell hp).trans hv)
            replace k9 := Lib.hid k9
            replace hb10 := Lib.hid hb10
            go_upto_region 13 with fail
            try rw [hX9]
            replace hX9 := Lib.hid hX9
            have hR10 := Lib.hid ((hr6.out.below hb10.out).more hs10)
            have hT10 := Lib.hid (hT6.out.later hb10.out)
            go_cut [16] (fun s16 wx => s16 = .bool (e1 && e2) ∧ Below X9.heap.size X9 wx)
            case first =>
              cases e1 with
              | false =>
                go_wp2_with fail
                refine (hE1.out X9 hT10.out hR10.out).mono ?_
                rintro e0 w11 ⟨rfl, hb11⟩
                replace hb11 := Lib.hid hb11
                go_wp2_with fail
                go_meet
                exact ⟨rfl, hb11.out⟩
              | true =>
                go_wp2_with fail
                refine (hE1.out X9 hT10.out hR10.out).mono ?_
                rintro e0 w11 ⟨rfl, hb11⟩
                have hs11 := hb11.size
                have y6' := hcell9.out _ _ _ hb11 (by simp <;> omega) y6
                have hb11' := hb10.out.trans (hb11.mono hs10)
                replace hb11 := Lib.hid hb11
                replace hb11' := Lib.hid hb11'
                go_wp2_with fail
                refine (hE2.out w11 (hT6.out.later hb11'.out) ((hr6.out.below hb11'.out).more hb11'.out.size)).mono ?_
                rintro e0 w12 ⟨rfl, hb12⟩
                have hb12' := Lib.hid (hb11.out.trans (hb12.mono hs11))
                replace hb12 := Lib.hid hb12
                go_wp2_with fail
                go_meet
                exact ⟨by simp, hb12'.out⟩
            case rest =>
              obtain ⟨rfl, hb12⟩ := hcut
              obtain ⟨w12, hV0, rfl⟩ : ∃ V, Below X9.heap.size X9 V ∧ V = _ := ⟨_, hb12, rfl⟩
              clear hV0
              replace hb12 := Lib.hid hb12
              go_wp2_with fail
              go_loopw [16, 17] (fun v16 v17 wr => ∃ i : Nat, v17 = .int .i64 (i : Nat) ∧ i ≤ q ∧ v16 = .bool ((e1 && e2) && (List.range i).all (fun j => le up (rest.getD j 0).toNat (List.getD [x0, x1, x2, x3, x4, x5, x6] j 0).toNat)) ∧ Below X9.heap.size X9 wr) (fun v16 v17 wr => q - natOf v17)
              case atStart => exact ⟨0, rfl, by omega, by simp, hb12.out⟩
              case round =>
                obtain ⟨i, rfl, hiq, rfl, hB⟩ := hrel
                have hb13 := Lib.hid hB
                obtain ⟨w13, hV0, rfl⟩ : ∃ V, Below X9.heap.size X9 V ∧ V = _ := ⟨_, hB, rfl⟩
                clear hV0 hB
                have hs13 := hb13.out.size
                have hb13' := Lib.hid (hb10.out.trans (hb13.out.mono hs10))
                have v0 := hcell9.out _ _ _ hb13.out (by simp <;> omega) y0
                have v1 := hcell9.out _ _ _ hb13.out (by simp <;> omega) y1
                by_cases hi : i < q
                · have hlt : ((i : Int) < (q : Int)) := by omega
                  have hlt0 : ((0 : Int) ≤ (i : Int)) := by omega
                  have hlt7 : ((i : Int) < 7) := by omega
                  have hil : i < rest.length := by rw [hrl.out]; exact hi
                  have hsn : (List.range (i + 1)).all (fun j => le up (rest.getD j 0).toNat (List.getD [x0, x1, x2, x3, x4, x5, x6] j 0).toNat) = ((List.range i).all (fun j => le up (rest.getD j 0).toNat (List.getD [x0, x1, x2, x3, x4, x5, x6] j 0).toNat) && le up (rest.getD i 0).toNat (List.getD [x0, x1, x2, x3, x4, x5, x6] i 0).toNat) := by
                    rw [List.range_succ, List.all_append]
                    simp
                  obtain ⟨ad2, hRa, hbk2, hcl2⟩ := ((hR6.out.below hb13'.out).more hb13'.out.size).2 (by omega)
                  subst hRa
                  have hci : w13.cell? (ad2.add i) = some (.int .i64 (rest.getD i 0)) := by
                    rw [hcl2 i _ (ints_at hil), List.getD_eq_getElem?_getD, List.getElem?_eq_getElem hil]
                    rfl
                  have hdi : w13.cell? ⟨w9.heap.size, i, none⟩ = some (.int .i64 (List.getD [x0, x1, x2, x3, x4, x5, x6] i 0)) := by
                    rw [hb13.out.cell (by simp <;> omega), k9.out.cell i]
                    have h7 : i < [x0, x1, x2, x3, x4, x5, x6].length := by simp; omega
                    unfold ints
                    rw [List.getElem?_toArray, List.getElem?_map, List.getElem?_eq_getElem h7, List.getD_eq_getElem?_getD, List.getElem?_eq_getElem h7]
                    rfl
                  have hE := hE3.out i hi
                  have hpad : (ad2.add i).block < w13.heap.size := by rw [block_of_add]; exact hbk2
                  generalize (List.range i).all (fun j => le up (rest.getD j 0).toNat (List.getD [x0, x1, x2, x3, x4, x5, x6] j 0).toNat) = ui at *
                  generalize hrv : rest.getD i 0 = rv at *
                  generalize hcv : List.getD [x0, x1, x2, x3, x4, x5, x6] i 0 = cv at *
                  generalize le up rv.toNat cv.toNat = ei at *
                  have hcell13 := Lib.hid (fun (W : World) (p : Addr) (v : Value) (h : Below w13.heap.size w13 W) (hp : p.block < w13.heap.size) (hv : w13.cell? p = some v) => (h.cell hp).trans hv)
                  replace hsn := Lib.hid hsn
                  replace hE := Lib.hid hE
                  replace hrv := Lib.hid hrv
                  replace hcv := Lib.hid hcv
                  replace hcl2 := Lib.hid hcl2
                  generalize hu : ((e1 && e2) && ui) = u at *
                  replace hu := Lib.hid hu
                  cases u with
                  | false =>
                    go_wp2_with fail
                    obtain ⟨XT, f9, hfb, hfall⟩ := class_below w13.heap.size w13
                    have hx0 : ∃ y, f9 y = w13.drew := hfall _ (by
                      have := below_drewNs (Below.refl w13.heap.size w13) 1
                      exact this)
                    have hne : Nonempty XT := hx0.elim fun y _ => ⟨y⟩
                    have hsW := hb13'.out.size
                    have d0 := fun y => hcell13.out _ (ad2.add i) _ (hfb y) hpad hci
                    have d1 := fun y => hcell13.out _ ⟨w9.heap.size, i, none⟩ _ (hfb y) (by simp <;> omega) hdi
                    have hB7 := Lib.hid (fun y => (hb13'.out).trans ((hfb y).mono hsW))
                    have hR7 := Lib.hid (fun y => (hr6.out.below (hB7.out y)).more (hB7.out y).size)
                    have h50 := Lib.hid (fun y => hT6.out.later (hB7.out y))
                    have hC7 := Lib.hid (fun y => hfb y)
                    replace hfb := Lib.hid hfb
                    replace hfall := Lib.hid hfall
                    refine (wpIn_wide (n := 20)).1 ?_
                    refine wpIn_region_class f9 13 [true, true, true, true, true, true, true, true, true, true, true, true, true] hx0 (by kernel_rfl) (by kernel_rfl) ?_
                    (simp only [List.take_succ_cons, List.take_zero]; (repeat (first | gi_big_quiet_step (fail) | (refine wpQuietIn_pass (fun _ _ _ _ => trivial) (by rfl) rfl ?_; simp only [List.setIfInBounds_toArray, List.set_cons_succ, List.set_cons_zero]) | (refine wpQuietIn_step (fun _ _ _ _ => trivial) ?_; intro K hK; refine Eq.mpr (if_pos (by rfl)) ?_; gi_big_quiet_op; gi_big_quiet_call ((first | (gi_at_call 26; with_reducible exact class_law hfall.out (hfb.out _) (hfb.out _).size (callsIn_wide.2 (hE.out _ (h50.out _) (hR7.out _))))))))); refine wpQuietIn_nil ?_)
                    rintro W' ⟨y, rfl⟩
                    have hbn := Lib.hid (hC7.out y)
                    clear hR7 h50 hB7 hC7
                    generalize f9 y = wn at *
                    refine wpAnyIn_end (by kernel_rfl) ?_
                    go_wp2
                    go_roundw
                    case rel => exact ⟨i + 1, by go_num, by omega, by rw [hsn.out, ← Bool.and_assoc, hu.out]; rfl, hb13.out.trans (hbn.out.mono hs13)⟩
                    case measure => simp [natOf]; omega
                  | true =>
                    go_wp2_with fail
                    obtain ⟨XT, f9, hfb, hfall⟩ := class_below w13.heap.size w13
                    have hx0 : ∃ y, f9 y = w13.drew := hfall _ (by
                      have := below_drewNs (Below.refl w13.heap.size w13) 1
                      exact this)
                    have hne : Nonempty XT := hx0.elim fun y _ => ⟨y⟩
                    have hsW := hb13'.out.size
                    have d0 := fun y => hcell13.out _ (ad2.add i) _ (hfb y) hpad hci
                    have d1 := fun y => hcell13.out _ ⟨w9.heap.size, i, none⟩ _ (hfb y) (by simp <;> omega) hdi
                    have hB7 := Lib.hid (fun y => (hb13'.out).trans ((hfb y).mono hsW))
                    have hR7 := Lib.hid (fun y => (hr6.out.below (hB7.out y)).more (hB7.out y).size)
                    have h50 := Lib.hid (fun y => hT6.out.later (hB7.out y))
                    have hC7 := Lib.hid (fun y => hfb y)
                    replace hfb := Lib.hid hfb
                    replace hfall := Lib.hid hfall
                    refine (wpIn_wide (n := 20)).1 ?_
                    refine wpIn_region_class f9 13 [true, true, true, true, true, true, true, true, true, true, true, true, true] hx0 (by kernel_rfl) (by kernel_rfl) ?_
                    (simp only [List.take_succ_cons, List.take_zero]; (repeat (first | gi_big_quiet_step (fail) | (refine wpQuietIn_pass (fun _ _ _ _ => trivial) (by rfl) rfl ?_; simp only [List.setIfInBounds_toArray, List.set_cons_succ, List.set_cons_zero]) | (refine wpQuietIn_step (fun _ _ _ _ => trivial) ?_; intro K hK; refine Eq.mpr (if_pos (by rfl)) ?_; gi_big_quiet_op; gi_big_quiet_call ((first | (gi_at_call 26; with_reducible exact class_law hfall.out (hfb.out _) (hfb.out _).size (callsIn_wide.2 (hE.out _ (h50.out _) (hR7.out _))))))))); refine wpQuietIn_nil ?_)
                    rintro W' ⟨y, rfl⟩
                    have hbn := Lib.hid (hC7.out y)
                    clear hR7 h50 hB7 hC7
                    generalize f9 y = wn at *
                    refine wpAnyIn_end (by kernel_rfl) ?_
                    go_wp2
                    go_roundw
                    case rel => exact ⟨i + 1, by go_num, by omega, by rw [hsn.out, ← Bool.and_assoc, hu.out]; rfl, hb13.out.trans (hbn.out.mono hs13)⟩
                    case measure => simp [natOf]; omega
                · have hlt : ¬ ((i : Int) < (q : Int)) := by omega
                  obtain rfl : i = q := by omega
                  generalize ((e1 && e2) && (List.range i).all (fun j => le up (rest.getD j 0).toNat (List.getD [x0, x1, x2, x3, x4, x5, x6] j 0).toNat)) = u at *
                  have hE4' := hE4.out
                  replace hE4' := Lib.hid hE4'
                  go_wp2_with fail
                  refine (hE4'.out w13 (hT6.out.later hb13'.out) ((hr6.out.below hb13'.out).more hb13'.out.size)).mono ?_
                  rintro e0 w14 ⟨rfl, hb14⟩
                  have q0 := (hb14.cell (by simp <;> omega)).trans v0
                  have q1 := (hb14.cell (by simp <;> omega)).trans v1
                  have hb14' := Lib.hid (hb13'.out.trans (hb14.mono hb13'.out.size))
                  have hu : (u == u) = true := by simp
                  replace hb14 := Lib.hid hb14
                  go_wp2_with fail
                  refine (hFI.out w14).mono ?_
                  rintro e0 w15 ⟨rfl, hb15⟩
                  have hb15' := Lib.hid (hb14'.out.trans (hb15.mono hb14'.out.size))
                  replace hb15 := Lib.hid hb15
                  go_wp2_with fail
                  refine (awake_any w15 ?_).mono ?_
                  · exact hTX.out.later (hB6.out.trans (hb15'.out.mono hB6.out.size))
                  rintro e0 wz ⟨rfl, hbz⟩
                  replace hbz := Lib.hid hbz
                  go_wp2_with fail
                  go_ret
                  exact ⟨rfl, hB0.out.trans ((Below.trans (hB6.out.trans (hb15'.out.mono hB6.out.size)) (hbz.out.mono (hB6.out.trans (hb15'.out.mono hB6.out.size)).size)).mono (by omega))⟩
end Go.Proofs.YtfloonpchjbmnaaDoor
