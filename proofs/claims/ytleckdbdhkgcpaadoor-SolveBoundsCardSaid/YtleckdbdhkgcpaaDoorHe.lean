/- lattice.Height: how long chains are. -/
import Derived.Test.YtleckdbdhkgcpaaDoorRi
import Derived.Test.YtleckdbdhkgcpaaDoorPh
import Derived.Test.YtleckdbdhkgcpaaDoorCo
namespace Go.Proofs.YtleckdbdhkgcpaaDoor
open Go.RowKit Go.Shelf Go.Idl
attribute [local go_sem] Oper.semAt_some

theorem int_info : (Tryd.prog.info? 3).map (fun i => (i.zero, i.size, i.bytes)) = some (some (.int .i64 0), 1, 8) := by kernel_rfl
/-- Numbers as values. -/
def i64s (l : List Nat) : List Value := l.map fun k => Value.int .i64 (k : Nat)
theorem i64s_len (l : List Nat) : (i64s l).length = l.length := by simp [i64s]
theorem i64s_at (l : List Nat) (k : Nat) (hk : k < l.length) : (i64s l).toArray[k]? = some (Value.int .i64 (l.getD k 0 : Nat)) := by
  rw [List.getElem?_toArray]
  unfold i64s
  rw [List.getElem?_map, List.getElem?_eq_getElem hk]
  simp [List.getD, hk]
theorem i64s_set (l : List Nat) (i v : Nat) : (i64s l).set i (.int .i64 (v : Nat)) = i64s (l.set i v) := by
  unfold i64s
  rw [List.map_set]
theorem i64s_blk_set {W : World} {g : Nat} {t : TypeId} {l : List Nat} (h : Blk W g t (i64s l).toArray) (k v : Nat) : Blk (W.setCell ⟨g, k, none⟩ (.int .i64 (v : Nat))) g t (i64s (l.set k v)).toArray := by
  have := h.set_ k (.int .i64 (v : Nat))
  rw [← i64s_set]
  simpa using this
theorem made_i64 (n : Nat) : (i64s (List.replicate n 0)).toArray = madeCells #[Value.int .i64 0] n := by
  apply Array.ext
  · simp [i64s, size_madeCells]
  · intro i h1 h2
    simp [i64s, madeCells, Nat.mod_one]

set_option maxRecDepth 100000 in
set_option maxHeartbeats 8000000 in
theorem height_any (A : Option Addr) (n c : Nat) (up : List Nat) (w : World) (hT : Tab w) (hn : up.length = n) (hn63 : n ≤ maxLen) (hM : Masks up) (hr : Reads w w.heap.size 1 A n (u64s up)) :
    Calls Tryd.prog 36 #[.slice A n c] w fun e w' => e = .returned (.int .i64 ((if latB up = true then heightN up else 0 : Nat) : Int)) ∧ Below w.heap.size w w' := by
  refine (callsIn_wide (n := 20)).1 ?_
  have hw0 := hT.1
  have hml : maxLen = 9223372036854775807 := rfl
  cases hq : latB up with
  | false =>
    rw [if_neg (by simp)]
    replace hT := Lib.hid hT
    replace hr := Lib.hid hr
    replace hM := Lib.hid hM
    replace hn := Lib.hid hn
    replace hq := Lib.hid hq
    refine callsIn_of_wp_marks Tryd.func36 rfl trivial ?_ rfl
    simp only [Tryd.ntmps36, List.size_toArray, List.length_cons, List.length_nil, Nat.reduceAdd, Nat.reduceSub, Array.replicate_succ, Array.replicate_zero, List.push_toArray, List.append_toArray, List.nil_append, List.cons_append]
    gi_wp2_with (refine ⟨trivial, ?_⟩; gi_at_call 37; refine (callsIn_wide.2 (right_lat A n c up _ hT.out hn.out hn63 hM.out hr.out)).mono ?_; rintro e w1 ⟨rfl, hb1⟩; rw [hq.out])
    refine leaves_of_marks (Marks.nil w.heap.size w.heap.size _) ?_
    intro W' hW'
    exact ⟨.int .i64 0, by simp [results, Tryd.f36, go_sem], rfl, hb1.trans hW'.below⟩
  | true =>
    rw [if_pos rfl]
    have hO := (Lat.of hM hq).toOrd
    have h64 : n ≤ 64 := by rw [← hn]; exact hO.n64
    have h1n : 1 ≤ n := by rw [← hn]; exact hO.n1
    obtain ⟨i0, hi0, hz0, hz1, hz2⟩ := info_parts int_info
    have hmk := fun W => run_make_rowN (P := Tryd.prog) 40 3 i0 (.int .i64 0) Tryd.underlying40 hi0 hz0 .i64 .i64 n n (Nat.le_refl _) (by rw [hz2]; omega) (by omega) W
    replace hT := Lib.hid hT
    replace hr := Lib.hid hr
    replace hM := Lib.hid hM
    replace hn := Lib.hid hn
    replace hq := Lib.hid hq
    replace hO := Lib.hid hO
    refine callsIn_of_wp_marks Tryd.func36 rfl trivial ?_ rfl
    simp only [Tryd.ntmps36, List.size_toArray, List.length_cons, List.length_nil, Nat.reduceAdd, Nat.reduceSub, Array.replicate_succ, Array.replicate_zero, List.push_toArray, List.append_toArray, List.nil_append, List.cons_append]
    gi_wp2_with (refine ⟨trivial, ?_⟩; gi_at_call 37; refine (callsIn_wide.2 (right_lat A n c up _ hT.out hn.out hn63 hM.out hr.out)).mono ?_; rintro e w1 ⟨rfl, hb1⟩; rw [hq.out]; replace hb1 := Lib.hid hb1)
    rename_i Q' K hK
    obtain ⟨H, hH⟩ : ∃ H, w1.heap.size = H := ⟨_, rfl⟩
    have hwH : w.heap.size ≤ H := by rw [← hH]; exact hb1.out.size
    rw [hH]
    obtain ⟨I1, hI1⟩ : ∃ I1 : Act → World → Prop, I1 = fun a W => ∃ (q : Nat) (ds : List Deferred) (v6 v7 v8 v15 v16 v17 v18 v19 v20 v21 v22 v23 v24 v25 v26 v27 v28 v29 v30 v31 v32 v33 v34 v35 v36 v37 v38 v39 v40 v41 v42 v43 v44 v45 v46 v47 v48 v49 v50 v51 v52 v53 v54 v55 v56 v57 : Value), 1 ≤ q ∧ q ≤ n + 1 ∧
        a = { tmps := #[.slice A n c, undef, .int .i64 0, .pointer (some ⟨H + 1, 0, none⟩), .int .i64 (mostH up q 0 : Nat), .int .i64 (q : Nat), v6, v7, v8, .slice A n c, .bool true, .bool false, .slice A n c, .int .i64 (n : Nat), .slice (some ⟨H, 0, none⟩) n n, v15, v16, v17, v18, v19, v20, v21, v22, v23, v24, v25, v26, v27, v28, v29, v30, v31, v32, v33, v34, v35, v36, v37, v38, v39, v40, v41, v42, v43, v44, v45, v46, v47, v48, v49, v50, v51, v52, v53, v54, v55, v56, v57], defers := ds } ∧ Marks w.heap.size W.heap.size W ds ∧ Blk W H 3 (i64s (hgts up q 0)).toArray ∧ Blk W (H + 1) 40 #[.slice (some ⟨H, 0, none⟩) n n] ∧ Below w.heap.size w W := ⟨_, rfl⟩
    replace hI1 := Lib.hid hI1
    refine wpIn_loop I1
      (fun a _ => n + 1 - slotNat a 5) ?start ?round
    case start =>
      rw [hI1.out]
      have hm0 : (mostH up 1 0 : Nat) = 0 := hO.out.most_start
      refine ⟨1, [], undef, undef, undef, undef, undef, undef, undef, undef, undef, undef, undef, undef, undef, undef, undef, undef, undef, undef, undef, undef, undef, undef, undef, undef, undef, undef, undef, undef, undef, undef, undef, undef, undef, undef, undef, undef, undef, undef, undef, undef, undef, undef, undef, undef, undef, undef, by omega, by omega, by rw [hm0]; rfl, Marks.nil _ _ _, ?_, ?_, ?_⟩
      · rw [hO.out.hgts_start, hn.out, made_i64]
        exact (Blk.new_at w1 _ _ _ hH).alloc _
      · exact Blk.new_at _ _ _ _ (by simp; omega)
      · exact (hb1.out.alloc hb1.out.size _).alloc (by simp; omega) _
    case round =>
      intro a W hin1
      rw [hI1.out] at hin1
      obtain ⟨q, ds, v6, v7, v8, v15, v16, v17, v18, v19, v20, v21, v22, v23, v24, v25, v26, v27, v28, v29, v30, v31, v32, v33, v34, v35, v36, v37, v38, v39, v40, v41, v42, v43, v44, v45, v46, v47, v48, v49, v50, v51, v52, v53, v54, v55, v56, v57, hq1, hqn, rfl, hMk, hb2, hb3, hB⟩ := hin1
      have hml' := most_le up q 0
      by_cases hlq : q ≤ n
      · have hlt : ((q : Int) ≤ (n : Int)) := by omega
        replace hMk := Lib.hid hMk
        replace hb2 := Lib.hid hb2
        replace hb3 := Lib.hid hb3
        replace hB := Lib.hid hB
        gi_wp2
        rename_i Q2 K2 hK2
        obtain ⟨I2, hI2⟩ : ∃ I2 : Act → World → Prop, I2 = fun a W => ∃ (i : Nat) (ds : List Deferred) (v6 v7 v8 v19 v20 v24 v25 v26 v27 v28 v29 v30 v31 v32 v33 v34 v35 v36 v37 v38 v39 v40 v41 v42 v43 v44 v45 v46 v47 v48 v49 v50 v51 v52 v53 v54 v55 v56 v57 : Value), i ≤ n ∧
            a = { tmps := #[.slice A n c, undef, .int .i64 0, .pointer (some ⟨H + 1, 0, none⟩), .int .i64 (mostH up q i : Nat), .int .i64 (q : Nat), v6, v7, v8, .slice A n c, .bool true, .bool false, .slice A n c, .int .i64 (n : Nat), .slice (some ⟨H, 0, none⟩) n n, .int .i64 (q : Nat), .slice A n c, .int .i64 (n : Nat), .bool true, v19, v20, .slice A n c, .int .i64 (n : Nat), .int .i64 (i : Nat), v24, v25, v26, v27, v28, v29, v30, v31, v32, v33, v34, v35, v36, v37, v38, v39, v40, v41, v42, v43, v44, v45, v46, v47, v48, v49, v50, v51, v52, v53, v54, v55, v56, v57], defers := ds } ∧ Marks w.heap.size W.heap.size W ds ∧ Blk W H 3 (i64s (hgts up q i)).toArray ∧ Blk W (H + 1) 40 #[.slice (some ⟨H, 0, none⟩) n n] ∧ Below w.heap.size w W := ⟨_, rfl⟩
        replace hI2 := Lib.hid hI2
        refine wpIn_loop I2
          (fun a _ => n - slotNat a 23) ?start2 ?round2
        case start2 =>
          rw [hI2.out]
          exact ⟨0, ds, _, _, _, _, _, _, _, _, _, _, _, _, _, _, _, _, _, _, _, _, _, _, _, _, _, _, _, _, _, _, _, _, _, _, _, _, _, _, _, by omega, rfl, hMk.out, hb2.out, hb3.out, hB.out⟩
        case round2 =>
          intro a W hin2
          rw [hI2.out] at hin2
          obtain ⟨i, ds, v6, v7, v8, v19, v20, v24, v25, v26, v27, v28, v29, v30, v31, v32, v33, v34, v35, v36, v37, v38, v39, v40, v41, v42, v43, v44, v45, v46, v47, v48, v49, v50, v51, v52, v53, v54, v55, v56, v57, hin, rfl, hMk, hb2, hb3, hB⟩ := hin2
          have hml2 := most_le up q i
          by_cases hi : i < n
          · have hlt2 : ((i : Int) < (n : Int)) := by omega
            obtain ⟨ad, hA, hbk, hc⟩ := reads_mask hn.out (hr.out.below hB) hi
            subst hA
            have hm := hM.out i
            have hcA : cA up i = countN (up.getD i 0) := rfl
            have hTn := hT.out.later (hB.alloc hB.size (.cells #[.int .i64 (i : Nat)] 3))
            have hBn := hB.alloc hB.size (.cells #[.int .i64 (i : Nat)] 3)
            have hbi := Blk.new_at W 3 #[.int .i64 (i : Nat)] W.heap.size rfl
            have hb2n := hb2.alloc (.cells #[.int .i64 (i : Nat)] 3)
            have hb3n := hb3.alloc (.cells #[.int .i64 (i : Nat)] 3)
            have hkn : KeepsOthers W (W.alloc (.cells #[.int .i64 (i : Nat)] 3)) := KeepsOthers.alloc _ _
            have hcl := countN_le (up.getD i 0)
            generalize hgm : up.getD i 0 = m at hm hc hcA hcl
            replace hgm := Lib.hid hgm
            replace hMk := Lib.hid hMk
            replace hb2 := Lib.hid hb2
            replace hb3 := Lib.hid hb3
            replace hB := Lib.hid hB
            replace hTn := Lib.hid hTn
            replace hBn := Lib.hid hBn
            replace hbi := Lib.hid hbi
            replace hb2n := Lib.hid hb2n
            replace hb3n := Lib.hid hb3n
            replace hkn := Lib.hid hkn
            by_cases hcq : cA up i = q
            · have hne : (((countN m : Nat) : Int) != (q : Int)) = false := by rw [← hcA, hcq]; simp
              have hne2 : ((countN m : Nat) : Int) = (q : Int) := by omega
              have hset0 := hgts_set0 up q i (by rw [hn.out]; exact hi) hcq
              have hwo := withoutN_lt m i hm
              gi_wp2_with (refine ⟨trivial, ?_⟩; first | (gi_at_call 45; refine (callsIn_wide.2 (count_any m hm _ hTn.out)).mono ?_; rintro e w2 ⟨rfl, hb4⟩; have hbi2 := Lib.hid (hbi.out.below hb4 (by simp)); have cbi := hbi2.out.cell0; replace hb4 := Lib.hid hb4) | (gi_at_call 47; refine (callsIn_wide.2 (without_any m i _ hm)).mono ?_; rintro e w3 ⟨rfl, rfl⟩) | (gi_at_call 46; refine (callsIn_wide.2 (all_makes _ _)).mono ?_; rintro e w' ⟨rfl, rfl⟩))
              have hb2w := hb2n.out.below hb4.out (by have := hb2.out.lt; simp; omega)
              have hb3w := hb3n.out.below hb4.out (by have := hb3.out.lt; simp; omega)
              have hBw := hBn.out.trans (hb4.out.mono hBn.out.size)
              have hMw := hMk.out.keeps (hkn.out.trans (keeps_below hb4.out))
              have hs4 := hb4.out.size
              simp at hs4
              have hsH := hb3.out.lt
              generalize hmo : withoutN m i = mo at hwo
              obtain ⟨W0, hW0⟩ : ∃ W0, (w2.alloc (.cells #[.int .u64 mo] 27)) = W0 := ⟨_, rfl⟩
              rw [hW0]
              have b2 : Blk W0 H 3 (i64s (hgts up q i)).toArray := by rw [← hW0]; exact hb2w.alloc _
              have b3 : Blk W0 (H + 1) 40 #[.slice (some ⟨H, 0, none⟩) n n] := by rw [← hW0]; exact hb3w.alloc _
              have b4 : Blk W0 W.heap.size 3 #[.int .i64 (i : Nat)] := by rw [← hW0]; exact hbi2.out.alloc _
              have b6 : Blk W0 w2.heap.size 27 #[.int .u64 mo] := by rw [← hW0]; exact Blk.new_at _ _ _ _ rfl
              have hsz : W0.heap.size = w2.heap.size + 1 := by rw [← hW0]; simp
              have hB0 : Below w.heap.size w W0 := by rw [← hW0]; exact hBw.alloc hBw.size _
              have hM0 : Marks w.heap.size W.heap.size W0 ds := by rw [← hW0]; exact hMw.keeps (KeepsOthers.alloc _ _)
              clear hW0 hb2w hb3w cbi
              have hmem : ∀ x ∈ bitsOf mo, x < n ∧ above up i x = true := by
                intro x hx
                rw [← hmo, ← hgm.out] at hx
                have h1 := ((mem_others hM.out (by omega)).1 hx).2
                refine ⟨?_, h1⟩
                unfold above at h1
                rw [Bool.and_eq_true] at h1
                have := hO.out.bd i x (by rw [hn.out]; exact hi) h1.2
                rwa [hn.out] at this
              have hfull : upTo up (bitsOf mo) = hgt up i := by rw [← hmo, ← hgm.out]; exact hO.out.upTo_full hM.out (by rw [hn.out]; exact hi)
              have htake := hgts_take up q i (by rw [hn.out]; exact hi) hcq
              have e1 := most_take up q i (by rw [hn.out]; exact hi) hcq
              have hgi := hgt_le up i
              replace hmem := Lib.hid hmem
              replace hfull := Lib.hid hfull
              replace htake := Lib.hid htake
              replace e1 := Lib.hid e1
              replace hset0 := Lib.hid hset0
              replace hmo := Lib.hid hmo
              refine wpIn_rangeFunc_ownG rfl (by omega) (gf := 53) (lb := #[.pointer (some ⟨w2.heap.size, 0, none⟩)]) rfl trivial (enters_of Tryd.func53 (by kernel_rfl) rfl)
                (all_stops 19 (by omega) mo hwo w2.heap.size w.heap.size _ hw0 (by omega) (hT.out.later hB0) b6.cell0) belowK_t (belowK_b (by have := hBw.size; omega)) (Below.refl _ _) (fun _ => rfl)
                (fun pre X => Marks w.heap.size W.heap.size X ds ∧ Blk X H 3 (i64s ((hgts up q i).set i (upTo up (pre.map (·.1))))).toArray ∧ Blk X (H + 1) 40 #[.slice (some ⟨H, 0, none⟩) n n] ∧ Blk X W.heap.size 3 #[.int .i64 (i : Nat)] ∧ Below w.heap.size w X)
                (fun c pre X => False)
                ?hI ?hIx
                ⟨hM0, by rw [List.map_nil]; show Blk W0 H _ (i64s ((hgts up q i).set i 0)).toArray; rw [hset0.out]; exact b2, b3, b4, hB0⟩
                (fun x => { tmps := #[.slice (some ad) n c, undef, .int .i64 0, .pointer (some ⟨H + 1, 0, none⟩), .int .i64 (mostH up q i : Nat), .int .i64 (q : Nat), .pointer (some ⟨W.heap.size, 0, none⟩), .int .u64 m, .int .i64 (x.1 : Nat), .slice (some ad) n c, .bool true, .bool false, .slice (some ad) n c, .int .i64 (n : Nat), .slice (some ⟨H, 0, none⟩) n n, .int .i64 (q : Nat), .slice (some ad) n c, .int .i64 (n : Nat), .bool true, v19, v20, .slice (some ad) n c, .int .i64 (n : Nat), .int .i64 (i : Nat), .bool true, .int .i64 (i : Nat), .pointer (some (ad.add i)), .int .u64 m, .int .u64 m, .int .i64 (q : Nat), .int .i64 (q : Nat), .bool false, .int .u64 m, .int .i64 (i : Nat), .int .u64 mo, .func (.func 53) #[] #[.pointer (some ⟨w2.heap.size, 0, none⟩)], .int .i64 (x.1 : Nat), v37, v38, v39, v40, v41, v42, v43, v44, v45, v46, v47, v48, v49, v50, v51, v52, v53, v54, v55, v56, v57], defers := [] }) ?assign ?body ?done ?stop
              case hI =>
                rintro s A' B' row ⟨h1, h2, h3, h4, h5⟩ hg hr'
                exact ⟨h1.own (by omega) hg hr', h2.own hg (fun r e => (hr' r e).2), h3.own hg (fun r e => (hr' r e).2), h4.own hg (fun r e => (hr' r e).2), ownFrom_below (β := Unit) (Nat.le_refl _) (by have := hBw.size; omega) () A' B' row h5 hg hr'⟩
              case hIx => exact fun _ _ _ _ _ h => h.elim
              case assign =>
                intro l x X K hK
                gi_wp2
                simpa using hK
              case body =>
                rintro l pre x X ⟨h1, h2, h3, h4, h5⟩ hlen
                obtain ⟨hxn, hab⟩ := hmem.out x.1 x.2
                have hne3 : x.1 ≠ i := by
                  unfold above at hab
                  rw [Bool.and_eq_true, decide_eq_true_eq] at hab
                  exact fun e => hab.1 e.symm
                obtain ⟨L, hL⟩ : ∃ L, (hgts up q i).set i (upTo up (pre.map (·.1))) = L := ⟨_, rfl⟩
                have hLlen : L.length = n := by rw [← hL]; simp [hgts_len, hn.out]
                have hLx : L.getD x.1 0 = hgt up x.1 := by rw [← hL]; exact hO.out.hgts_other (by rw [hn.out]; exact hi) (by rw [hn.out]; exact hxn) hcq hab
                have hLi : L.getD i 0 = upTo up (pre.map (·.1)) := by rw [← hL, getD_set, if_pos ⟨rfl, by rw [hgts_len, hn.out]; exact hi⟩]
                have hLs : L.set i (max (upTo up (pre.map (·.1))) (hgt up x.1 + 1)) = (hgts up q i).set i (upTo up ((pre ++ [x]).map (·.1))) := by
                  rw [← hL, List.set_set, List.map_append, List.map_cons, List.map_nil, upTo_snoc]
                rw [hL] at h2
                have ci : X.cell? ⟨H, i, none⟩ = some (.int .i64 (L.getD i 0 : Nat)) := by rw [h2.cell]; exact i64s_at _ _ (by omega)
                have cx : X.cell? ⟨H, x.1, none⟩ = some (.int .i64 (L.getD x.1 0 : Nat)) := by rw [h2.cell]; exact i64s_at _ _ (by omega)
                rw [hLi] at ci
                rw [hLx] at cx
                have hu1 := upTo_small up (pre.map (·.1))
                have hu2 := hgt_le up x.1
                have hn' := hn.out
                generalize upTo up (pre.map (·.1)) = a1 at *
                generalize hgt up x.1 = a2 at *
                have c3 := h3.cell0
                have c4 := h4.cell0
                have fi := h2.frozen i
                have hxn' : ((x.1 : Int) < (n : Int)) := by omega
                replace h1 := Lib.hid h1
                replace h2 := Lib.hid h2
                replace h3 := Lib.hid h3
                replace h4 := Lib.hid h4
                replace h5 := Lib.hid h5
                replace hL := Lib.hid hL
                replace hLs := Lib.hid hLs
                replace hLx := Lib.hid hLx
                replace hLi := Lib.hid hLi
                by_cases hmx : (a1 : Int) < (a2 : Int) + 1
                · have hmx' : max a1 (a2 + 1) = a2 + 1 := by omega
                  gi_wp2
                  (refine wpIn_region_quiet_tail 13 (by kernel_rfl) (by kernel_rfl) ?_; simp only [List.take_succ_cons, List.take_zero, List.drop_succ_cons, List.drop_zero]; (repeat (first | gi_big_quiet_step (fail) | (refine wpQuietIn_pass (fun _ _ _ _ => trivial) (by rfl) rfl ?_; simp only [List.setIfInBounds_toArray, List.set_cons_succ, List.set_cons_zero]) | (refine wpQuietIn_step (fun _ _ _ _ => trivial) ?_; intro K hK; refine Eq.mpr (if_pos (by rfl)) ?_; gi_big_quiet_op; gi_big_quiet_call ((fail))))); refine wpQuietIn_nil ?_; intro _ hw'; obtain ⟨nq, hw''⟩ := hw'; subst hw'')
                  gi_wp2
                  have hkp : KeepsOthers X ((X.drewN nq).setCell ⟨H, i, none⟩ (.int .i64 ((a2 + 1 : Nat) : Int))) := (keeps_drewN (KeepsOthers.refl X) nq).trans (KeepsOthers.setCell _ _ _)
                  refine ⟨hkp.from _, (below_drewNs (Below.refl _ _) _).setCell (by simp; omega) _, h1.out.keeps hkp, ?_, (h3.out.drewN nq).far (by simp) _, (h4.out.drewN nq).far (by simp; omega) _, (below_drewNs h5.out _).setCell (by simp; omega) _⟩
                  rw [← hLs.out, hmx']
                  exact i64s_blk_set (h2.out.drewN nq) _ _
                · have hmx' : max a1 (a2 + 1) = a1 := by omega
                  gi_wp2
                  (refine wpIn_region_quiet_tail 13 (by kernel_rfl) (by kernel_rfl) ?_; simp only [List.take_succ_cons, List.take_zero, List.drop_succ_cons, List.drop_zero]; (repeat (first | gi_big_quiet_step (fail) | (refine wpQuietIn_pass (fun _ _ _ _ => trivial) (by rfl) rfl ?_; simp only [List.setIfInBounds_toArray, List.set_cons_succ, List.set_cons_zero]) | (refine wpQuietIn_step (fun _ _ _ _ => trivial) ?_; intro K hK; refine Eq.mpr (if_pos (by rfl)) ?_; gi_big_quiet_op; gi_big_quiet_call ((fail))))); refine wpQuietIn_nil ?_; intro _ hw'; obtain ⟨nq, hw''⟩ := hw'; subst hw'')
                  gi_wp2
                  have hkp : KeepsOthers X ((X.drewN nq).setCell ⟨H, i, none⟩ (.int .i64 (a1 : Nat))) := (keeps_drewN (KeepsOthers.refl X) nq).trans (KeepsOthers.setCell _ _ _)
                  refine ⟨hkp.from _, (below_drewNs (Below.refl _ _) _).setCell (by simp; omega) _, h1.out.keeps hkp, ?_, (h3.out.drewN nq).far (by simp) _, (h4.out.drewN nq).far (by simp; omega) _, (below_drewNs h5.out _).setCell (by simp; omega) _⟩
                  rw [← hLs.out, hmx']
                  exact i64s_blk_set (h2.out.drewN nq) _ _
              case done =>
                rintro D ys X hD hys ⟨h1, h2, h3, h4, h5⟩ hK
                have hmk' := Lib.hid (h1.cons (by omega) (by omega) hK)
                rw [hys, hfull.out, htake.out] at h2
                have ci : X.cell? ⟨H, i, none⟩ = some (.int .i64 (hgt up i : Nat)) := by
                  rw [h2.cell, i64s_at _ _ (by rw [hgts_len, hn.out]; exact hi), hgts_getD _ _ _ _ (by rw [hn.out]; exact hi), if_pos (by unfold gone; simp [hcq])]
                have c3 := h3.cell0
                have c4 := h4.cell0
                have hn' := hn.out
                have e1' := e1.out
                generalize hhi : hgt up i = g1 at ci hgi e1'
                generalize hmi : mostH up q i = g2 at hml2 e1' ⊢
                replace h2 := Lib.hid h2
                replace h3 := Lib.hid h3
                replace h4 := Lib.hid h4
                replace h5 := Lib.hid h5
                replace e1' := Lib.hid e1'
                replace hhi := Lib.hid hhi
                replace hmi := Lib.hid hmi
                clear h1 hK hys
                by_cases hmx : (g2 : Int) < (g1 : Int)
                · have hmx' : mostH up q (i + 1) = g1 := by rw [e1'.out]; omega
                  replace hmx' := Lib.hid hmx'
                  gi_wp2
                  rw [hI2.out]
                  refine ⟨⟨i + 1, _, _, _, _, _, _, _, _, _, _, _, _, _, _, _, _, _, _, _, _, _, _, _, _, _, _, _, _, _, _, _, _, _, _, _, _, _, _, _, _, by omega, by rw [hmx'.out]; rfl, hmk'.out, h2.out, h3.out, h5.out⟩, ?_⟩
                  simp only [slotNat, List.getElem?_toArray, List.getElem?_cons_succ, List.getElem?_cons_zero, Int.toNat_natCast]
                  omega
                · have hmx' : mostH up q (i + 1) = g2 := by rw [e1'.out]; omega
                  replace hmx' := Lib.hid hmx'
                  gi_wp2
                  rw [hI2.out]
                  refine ⟨⟨i + 1, _, _, _, _, _, _, _, _, _, _, _, _, _, _, _, _, _, _, _, _, _, _, _, _, _, _, _, _, _, _, _, _, _, _, _, _, _, _, _, _, by omega, by rw [hmx'.out]; rfl, hmk'.out, h2.out, h3.out, h5.out⟩, ?_⟩
                  simp only [slotNat, List.getElem?_toArray, List.getElem?_cons_succ, List.getElem?_cons_zero, Int.toNat_natCast]
                  omega
              case stop => exact fun _ _ _ _ _ _ h => h.elim
            · have hne : (((countN m : Nat) : Int) != (q : Int)) = true := by simp; omega
              have hne2 : ¬ (((countN m : Nat) : Int) = (q : Int)) := by omega
              have e1 := most_skip up q i hcq
              have e2 := hgts_skip up q i hcq
              gi_wp2_with (refine ⟨trivial, ?_⟩; gi_at_call 45; refine (callsIn_wide.2 (count_any m hm _ hTn.out)).mono ?_; rintro e w2 ⟨rfl, hb4⟩; replace hb4 := Lib.hid hb4)
              rw [hI2.out]
              refine ⟨⟨i + 1, ds, _, _, _, _, _, _, _, _, _, _, _, _, _, _, _, _, _, _, _, _, _, _, _, _, _, _, _, _, _, _, _, _, _, _, _, _, _, _, _, by omega, by rw [e1]; rfl, (hMk.out.keeps (hkn.out.trans (keeps_below hb4.out))).more (by have := hb4.out.size; simp at this; omega), by rw [e2]; exact hb2n.out.below hb4.out (by have := hb2.out.lt; simp; omega), hb3n.out.below hb4.out (by have := hb3.out.lt; simp; omega), hBn.out.trans (hb4.out.mono hBn.out.size)⟩, ?_⟩
              simp only [slotNat, List.getElem?_toArray, List.getElem?_cons_succ, List.getElem?_cons_zero, Int.toNat_natCast]
              omega
          · have hie : i = n := by omega
            have hlt2 : ¬ ((i : Int) < (n : Int)) := by omega
            have e1 : mostH up q i = mostH up (q + 1) 0 := by rw [hie, ← hn.out]; exact most_next up q
            have e2 : hgts up q i = hgts up (q + 1) 0 := by rw [hie, ← hn.out]; exact hgts_next up q
            rw [e1]
            rw [e2] at hb2
            replace hMk := Lib.hid hMk
            replace hb2 := Lib.hid hb2
            replace hb3 := Lib.hid hb3
            replace hB := Lib.hid hB
            gi_wp2
            rw [hI1.out]
            refine ⟨⟨q + 1, _, _, _, _, _, _, _, _, _, _, _, _, _, _, _, _, _, _, _, _, _, _, _, _, _, _, _, _, _, _, _, _, _, _, _, _, _, _, _, _, _, _, _, _, _, _, _, by omega, by omega, rfl, hMk.out, hb2.out, hb3.out, hB.out⟩, ?_⟩
            simp only [slotNat, List.getElem?_toArray, List.getElem?_cons_succ, List.getElem?_cons_zero, Int.toNat_natCast]
            omega
      · have hqe : q = n + 1 := by omega
        have hlt : ¬ ((q : Int) ≤ (n : Int)) := by omega
        have hres : mostH up q 0 = heightN up := by rw [hqe, ← hn.out]; exact hO.out.most_end
        rw [hres]
        replace hMk := Lib.hid hMk
        replace hb2 := Lib.hid hb2
        replace hb3 := Lib.hid hb3
        replace hB := Lib.hid hB
        gi_wp2
        refine leaves_of_marks hMk.out ?_
        intro W' hW'
        exact ⟨.int .i64 (heightN up : Nat), by simp [results, Tryd.f36, go_sem], rfl, hB.out.trans hW'.below⟩

end Go.Proofs.YtleckdbdhkgcpaaDoor
