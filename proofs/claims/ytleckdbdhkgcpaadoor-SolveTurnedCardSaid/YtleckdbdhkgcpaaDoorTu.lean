/- lattice.turned: the masks of those at or below each level. -/
import Derived.Test.YtleckdbdhkgcpaaDoorLs
import Derived.Test.YtleckdbdhkgcpaaDoorMa
import Derived.Test.YtleckdbdhkgcpaaDoorPt
import Derived.Test.YtleckdbdhkgcpaaDoorQt
import Derived.Laws.MakeOwn
import Derived.Laws.Entries
namespace Go.Proofs.YtleckdbdhkgcpaaDoor
open Go.RowKit Go.Shelf Go.Idl
attribute [local go_sem] Oper.semAt_some

theorem u64_info : (Tryd.prog.info? 27).map (fun i => (i.zero, i.size, i.bytes)) = some (some (.int .u64 0), 1, 8) := by kernel_rfl

/-- (The how-to's 'run_make_rowN'.) -/
theorem run_make_rowN {P : Program} (t e : TypeId) (i : TypeInfo) (z : Value) (ht : P.underlying t = some (.slice e)) (hi : P.info? e = some i) (hz : i.zero = some z)
    (kl kc : IntKind) (n c : Nat) (hnc : n ≤ c) (hbytes : i.bytes * c ≤ 281474976710656) (h63 : c ≤ 9223372036854775807) (w : World) :
    (Instr.makeSlice t (.int kl (n : Int)) (.int kc (c : Int))).run P w = .ok (.slice (some ⟨w.heap.size, 0, none⟩) n c) (w.alloc (.cells (madeCells z.cells (c * i.size)) e)) := by
  have hb : (i.bytes : Int) * (c : Int) ≤ 281474976710656 := by
    have h : ((i.bytes * c : Nat) : Int) ≤ 281474976710656 := by omega
    rwa [Int.natCast_mul] at h
  have hr := run_make (P := P) w t e i z ht hi hz kl kc n c (by omega) (by omega) hb (by omega)
  simp only [Int.toNat_natCast] at hr
  exact hr

theorem u64s_set (l : List Nat) (i v : Nat) : (u64s l).set i (.int .u64 (v : Nat)) = u64s (l.set i v) := by
  unfold u64s
  rw [List.map_set]

theorem u64s_at (l : List Nat) (k : Nat) (hk : k < l.length) : (u64s l).toArray[k]? = some (Value.int .u64 (l.getD k 0 : Nat)) := by
  rw [List.getElem?_toArray]
  unfold u64s
  rw [List.getElem?_map, List.getElem?_eq_getElem hk]
  simp [List.getD, hk]
theorem u64s_blk_set {W : World} {g : Nat} {t : TypeId} {l : List Nat} (h : Blk W g t (u64s l).toArray) (k v : Nat) : Blk (W.setCell ⟨g, k, none⟩ (.int .u64 (v : Nat))) g t (u64s (l.set k v)).toArray := by
  have := h.set_ k (.int .u64 (v : Nat))
  rw [← u64s_set]
  simpa using this
theorem made_u64 (n : Nat) : (u64s (List.replicate n 0)).toArray = madeCells #[Value.int .u64 0] n := by
  apply Array.ext
  · simp [u64s, size_madeCells]
  · intro i h1 h2
    simp [u64s, madeCells, Nat.mod_one]
/-- The number of a value. -/
def natOf : Value → Nat | .int _ q => q.toNat | _ => 0
/-- The number in a slot. -/
def slotNat (a : Act) (k : Nat) : Nat := match a.tmps[k]? with | some (Value.int _ i) => i.toNat | _ => 0
/-- A mask read where a new cell has been laid. -/
theorem reads_mask_new {w : World} {B n : Nat} {A : Option Addr} {up : List Nat} (hn : up.length = n) (hB : B ≤ w.heap.size) (h : Reads w B 1 A n (u64s up)) {k : Nat} (hk : k < n) (o : Obj) :
    ∃ ad, A = some ad ∧ ad.block < B ∧ (w.alloc o).cell? (ad.add k) = some (.int .u64 (up.getD k 0 : Nat)) := reads_mask hn (h.alloc hB o) hk

set_option maxRecDepth 100000 in
set_option maxHeartbeats 4000000 in
theorem turned_any (A : Option Addr) (n c : Nat) (up : List Nat) (w : World) (hT : Tab w) (hn : up.length = n) (hM : Masks up) (hO : Ord up) (hr : Reads w w.heap.size 1 A n (u64s up)) :
    Calls Tryd.prog 51 #[.slice A n c] w fun e w' => ∃ g, e = .returned (.slice (some ⟨g, 0, none⟩) n n) ∧ w.heap.size ≤ g ∧ Blk w' g 27 (u64s (downs up)).toArray ∧ Below w.heap.size w w' := by
  refine (callsIn_wide (n := 9)).1 ?_
  have hw0 := hT.1
  have h64 : n ≤ 64 := by rw [← hn]; exact hO.n64
  obtain ⟨i0, hi0, hz0, hz1, hz2⟩ := info_parts u64_info
  have hmk := fun W => run_make_rowN (P := Tryd.prog) 22 27 i0 (.int .u64 0) Tryd.underlying22 hi0 hz0 .i64 .i64 n n (Nat.le_refl _) (by rw [hz2]; omega) (by omega) W
  replace hT := Lib.hid hT
  replace hr := Lib.hid hr
  replace hM := Lib.hid hM
  replace hO := Lib.hid hO
  replace hn := Lib.hid hn
  refine callsIn_of_wp_marks Tryd.func51 rfl trivial ?_ rfl
  simp only [Tryd.ntmps51, List.size_toArray, List.length_cons, List.length_nil, Nat.reduceAdd, Nat.reduceSub, Array.replicate_succ, Array.replicate_zero, List.push_toArray, List.append_toArray, List.nil_append, List.cons_append]
  gi_wp2
  rename_i Q' K hK
  refine wpIn_loop (fun a W => ∃ (i : Nat) (ds : List Deferred) (v4 v5 v12 v13 v14 v15 v16 v17 v18 v19 v20 v21 v22 v23 v24 v25 v26 v27 v28 v29 : Value), i ≤ n ∧
      a = { tmps := #[.slice A n c, undef, .slice none 0 0, .pointer (some ⟨w.heap.size + 1, 0, none⟩), v4, v5, .slice A n c, .int .i64 (n : Nat), .slice (some ⟨w.heap.size, 0, none⟩) n n, .slice A n c, .int .i64 (n : Nat), .int .i64 (i : Nat), v12, v13, v14, v15, v16, v17, v18, v19, v20, v21, v22, v23, v24, v25, v26, v27, v28, v29, undef], defers := ds } ∧
      Marks w.heap.size W.heap.size W ds ∧ Blk W w.heap.size 27 (u64s (dn up i)).toArray ∧ Blk W (w.heap.size + 1) 22 #[.slice (some ⟨w.heap.size, 0, none⟩) n n] ∧ Below w.heap.size w W)
    (fun a _ => n - slotNat a 11) ?start ?round
  case start =>
    refine ⟨0, [], undef, undef, undef, undef, undef, undef, undef, undef, undef, undef, undef, undef, undef, undef, undef, undef, undef, undef, undef, undef, by omega, rfl, Marks.nil _ _ _, ?_, ?_, ?_⟩
    · have e : (u64s (dn up 0)).toArray = madeCells #[Value.int .u64 0] n := by
        rw [dn_zero, hn.out]
        exact made_u64 n
      rw [e]
      exact (Blk.new_at w _ _ _ rfl).alloc _
    · exact Blk.new_at _ _ _ _ (by simp)
    · exact ((Below.refl _ w).alloc (Nat.le_refl _) _).alloc (by simp) _
  case round =>
    rintro a W ⟨i, ds, v4, v5, v12, v13, v14, v15, v16, v17, v18, v19, v20, v21, v22, v23, v24, v25, v26, v27, v28, v29, hin, rfl, hMk, hb1, hb2, hB⟩
    by_cases hi : i < n
    · have hlt : ((i : Int) < (n : Int)) := by omega
      obtain ⟨ad, hA, hbk, hc⟩ := reads_mask_new hn.out hB.size (hr.out.below hB) hi (.cells #[.int .i64 (i : Nat)] 3)
      subst hA
      have hui := hM.out i
      replace hMk := Lib.hid hMk
      replace hb1 := Lib.hid hb1
      replace hb2 := Lib.hid hb2
      replace hB := Lib.hid hB
      generalize hu : up.getD i 0 = m at hui hc
      replace hu := Lib.hid hu
      gi_wp2_with (refine ⟨trivial, ?_⟩; gi_at_call 46; refine (callsIn_wide.2 (all_makes _ _)).mono ?_; rintro e w' ⟨rfl, rfl⟩)
      obtain ⟨W0, hW0⟩ : ∃ W0, ((W.alloc (.cells #[.int .i64 (i : Nat)] 3)).alloc (.cells #[.int .u64 m] 27)) = W0 := ⟨_, rfl⟩
      rw [hW0]
      have b0 : Blk W0 W.heap.size 3 #[.int .i64 (i : Nat)] := by rw [← hW0]; exact (Blk.new_at W _ _ _ rfl).alloc _
      have b1 : Blk W0 (W.heap.size + 1) 27 #[.int .u64 m] := by rw [← hW0]; exact Blk.new_at _ _ _ _ (by simp)
      have hsz : W0.heap.size = W.heap.size + 2 := by rw [← hW0]; simp
      have hBW : Below W.heap.size W W0 := by rw [← hW0]; exact ((Below.refl _ W).alloc (Nat.le_refl _) _).alloc (by simp) _
      have hk0 : KeepsOthers W W0 := keeps_below hBW
      have hws : w.heap.size + 2 ≤ W.heap.size := by have := hb2.out.lt; omega
      clear hW0
      refine wpIn_rangeFunc_ownG rfl (by omega) (gf := 53) (lb := #[.pointer (some ⟨W.heap.size + 1, 0, none⟩)]) rfl trivial (enters_of Tryd.func53 (by kernel_rfl) rfl)
        (all_stops 8 (by omega) m hui (W.heap.size + 1) w.heap.size _ hw0 (by omega) (hT.out.later (hB.out.trans (hBW.mono hB.out.size))) b1.cell0) belowK_t (belowK_b (by omega)) (Below.refl _ _) (fun _ => rfl)
        (fun pre X => Marks w.heap.size W.heap.size X ds ∧ Blk X w.heap.size 27 (u64s (dnP up i (pre.map (·.1)))).toArray ∧ Blk X (w.heap.size + 1) 22 #[.slice (some ⟨w.heap.size, 0, none⟩) n n] ∧ Blk X W.heap.size 3 #[.int .i64 (i : Nat)] ∧ Below w.heap.size w X)
        (fun c pre X => False)
        ?hI ?hIx
        ⟨hMk.out.keeps hk0, ?init, hb2.out.below hBW (by omega), b0, hB.out.trans (hBW.mono hB.out.size)⟩
        (fun x => { tmps := #[.slice (some ad) n c, undef, .slice none 0 0, .pointer (some ⟨w.heap.size + 1, 0, none⟩), .pointer (some ⟨W.heap.size, 0, none⟩), .int .i64 (x.1 : Nat), .slice (some ad) n c, .int .i64 (n : Nat), .slice (some ⟨w.heap.size, 0, none⟩) n n, .slice (some ad) n c, .int .i64 (n : Nat), .int .i64 (i : Nat), .bool true, .int .i64 (i : Nat), .slice (some ad) n c, .int .i64 (i : Nat), .pointer (some (ad.add i)), .int .u64 m, .func (.func 53) #[] #[.pointer (some ⟨W.heap.size + 1, 0, none⟩)], .int .i64 (x.1 : Nat), v20, v21, v22, v23, v24, v25, v26, v27, v28, v29, undef], defers := [] }) ?assign ?body ?done ?stop
      case hI =>
        rintro s A' B' row ⟨h1, h2, h3, h4, h5⟩ hg hr'
        exact ⟨h1.own (by omega) hg hr', h2.own hg (fun r e => (hr' r e).2), h3.own hg (fun r e => (hr' r e).2), h4.own hg (fun r e => (hr' r e).2), ownFrom_below (β := Unit) (Nat.le_refl _) (by omega) () A' B' row h5 hg hr'⟩
      case hIx => exact fun _ _ _ _ _ h => h.elim
      case init =>
        rw [List.map_nil, dnP_nil]
        exact hb1.out.below hBW (by omega)
      case assign =>
        intro l x X K hK
        gi_wp2
        simpa using hK
      case body =>
        rintro l pre x X ⟨h1, h2, h3, h4, h5⟩ hlen
        have hxn : x.1 < n := by
          have h := hO.out.bd i x.1 (by rw [hn.out]; exact hi) (by unfold le; rw [hu.out]; exact (mem_bitsOf.1 x.2).2)
          rwa [hn.out] at h
        have hdlt := dnP_lt up i (by omega) (pre.map (·.1)) x.1 (by rw [hn.out]; exact hxn)
        have c3 := h3.cell0
        have c4 := h4.cell0
        have cx : X.cell? ⟨w.heap.size, x.1, none⟩ = some (.int .u64 ((dnP up i (pre.map (·.1))).getD x.1 0 : Nat)) := by
          rw [h2.cell]
          exact u64s_at _ _ (by rw [dnP_len, hn.out]; exact hxn)
        generalize hd : (dnP up i (pre.map (·.1))).getD x.1 0 = d at hdlt cx
        have fx := h2.frozen x.1
        replace hd := Lib.hid hd
        replace h1 := Lib.hid h1
        replace h2 := Lib.hid h2
        replace h3 := Lib.hid h3
        replace h4 := Lib.hid h4
        replace h5 := Lib.hid h5
        have hxn' : ((x.1 : Int) < (n : Int)) := by omega
        gi_wp2
        (refine wpIn_region_quiet_tail 9 (by kernel_rfl) (by kernel_rfl) ?_; simp only [List.take_succ_cons, List.take_zero, List.drop_succ_cons, List.drop_zero]; (repeat (first | gi_big_quiet_step (fail) | (refine wpQuietIn_pass (fun _ _ _ _ => trivial) (by rfl) rfl ?_; simp only [List.setIfInBounds_toArray, List.set_cons_succ, List.set_cons_zero]) | (refine wpQuietIn_step (fun _ _ _ _ => trivial) ?_; intro K hK; refine Eq.mpr (if_pos (by rfl)) ?_; gi_big_quiet_op; gi_big_quiet_call ((gi_at_call 58; exact quiet_law (CallsIn.inRound l (callsIn_wide.2 (with_any _ _ _ hdlt)))))))); refine wpQuietIn_nil ?_; intro _ hw'; obtain ⟨nq, hw''⟩ := hw'; subst hw'')
        gi_wp2
        have hkp : KeepsOthers X ((X.drewN nq).setCell ⟨w.heap.size, x.1, none⟩ (.int .u64 (withN d (i : Nat) : Nat))) := (keeps_drewN (KeepsOthers.refl X) nq).trans (KeepsOthers.setCell _ _ _)
        refine ⟨hkp.from _, (below_drewNs (Below.refl _ _) _).setCell (by simp) _, h1.out.keeps hkp, ?_, (h3.out.drewN nq).far (by simp) _, (h4.out.drewN nq).far (by simp; omega) _, (below_drewNs h5.out _).setCell (by simp) _⟩
        rw [List.map_append, List.map_cons, List.map_nil, ← dnP_snoc up i _ _ (by rw [hn.out]; exact hxn), hd.out]
        exact u64s_blk_set (h2.out.drewN nq) _ _
      case done =>
        rintro D ys X hD hys ⟨h1, h2, h3, h4, h5⟩ hK
        have hmk' := Lib.hid (h1.cons (by omega) (by omega) hK)
        have hkp := hK
        rw [hys, ← hu.out, dnP_full up i (by omega) (by rw [hn.out]; exact h64)] at h2
        replace h2 := Lib.hid h2
        replace h3 := Lib.hid h3
        replace h5 := Lib.hid h5
        clear h1 h4 hK hkp
        gi_wp2
        refine ⟨⟨i + 1, _, _, _, _, _, _, _, _, _, _, _, _, _, _, _, _, _, _, _, _, _, by omega, rfl, hmk'.out, h2.out, h3.out, h5.out⟩, ?_⟩
        simp only [slotNat, List.getElem?_toArray, List.getElem?_cons_succ, List.getElem?_cons_zero, Int.toNat_natCast]
        omega
      case stop => exact fun _ _ _ _ _ _ h => h.elim
    · have c2 := hb2.cell0
      have hie : i = n := by omega
      subst hie
      rw [← hn.out, dn_downs] at hb1
      have hlt : ¬ ((i : Int) < (i : Int)) := by omega
      replace hMk := Lib.hid hMk
      replace hb1 := Lib.hid hb1
      replace hb2 := Lib.hid hb2
      replace hB := Lib.hid hB
      gi_wp2
      refine leaves_of_marks hMk.out ?_
      intro W' hW'
      refine ⟨_, by simp [results, Tryd.f51, go_sem], w.heap.size, rfl, Nat.le_refl _, hW'.blk _ _ _ hb1.out, hB.out.trans hW'.below⟩

end Go.Proofs.YtleckdbdhkgcpaaDoor
