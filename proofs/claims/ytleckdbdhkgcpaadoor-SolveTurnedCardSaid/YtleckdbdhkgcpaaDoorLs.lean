/- lattice.least: the level of a set that is below all of it. -/
import Derived.Test.YtleckdbdhkgcpaaDoorAl
import Derived.Test.YtleckdbdhkgcpaaDoorLt
import Derived.Test.YtleckdbdhkgcpaaDoorQr
namespace Go.Proofs.YtleckdbdhkgcpaaDoor
open Go.RowKit Go.Shelf Go.Idl
attribute [local go_sem] Oper.semAt_some

/-- Masks as values. -/
def u64s (l : List Nat) : List Value := l.map fun k => Value.int .u64 (k : Nat)
theorem u64s_len (l : List Nat) : (u64s l).length = l.length := by simp [u64s]
theorem u64s_getD (l : List Nat) (k : Nat) (hk : k < l.length) : (u64s l).getD k undef = .int .u64 (l.getD k 0 : Nat) := by
  unfold u64s
  rw [List.getD_eq_getElem?_getD, List.getElem?_map, List.getElem?_eq_getElem hk]
  simp [List.getD, hk]
theorem reads_mask {w : World} {B n : Nat} {A : Option Addr} {up : List Nat} (hn : up.length = n) (h : Reads w B 1 A n (u64s up)) {k : Nat} (hk : k < n) : ∃ ad, A = some ad ∧ ad.block < B ∧ w.cell? (ad.add k) = some (.int .u64 (up.getD k 0 : Nat)) := by
  obtain ⟨ad, u, e, hb, hx, hc⟩ := h.at_ hk
  refine ⟨ad, e, hb, ?_⟩
  rw [hc, ← u64s_getD up k (by omega), List.getD_eq_getElem?_getD, hx]
  rfl

theorem andNot_sub (a b : Nat) (ha : a < 2 ^ 64) (hb : b < 2 ^ 64) : (bits BinOp.andNot IntKind.u64 (a : Int) (b : Int) == 0) = subB a b := by
  rw [u64_andNot_eq a b ha hb, Bool.eq_iff_iff, beq_iff_eq, subB_iff]
  constructor
  · intro h i hi
    have h0 : a &&& (18446744073709551615 - b) = 0 := by omega
    have hi64 := tb_lt ha hi
    have h1 := congrArg (fun x => x.testBit i) h0
    simp only [Nat.testBit_and, hi, Bool.true_and, Nat.zero_testBit] at h1
    have h2 := Nat.testBit_two_pow_sub_succ hb i
    rw [show 2 ^ 64 - (b + 1) = 18446744073709551615 - b by omega] at h2
    rw [h2] at h1
    simpa [hi64] using h1
  · intro h
    have h0 : a &&& (18446744073709551615 - b) = 0 := by
      apply Nat.eq_of_testBit_eq
      intro i
      rw [Nat.testBit_and, Nat.zero_testBit]
      have h2 := Nat.testBit_two_pow_sub_succ hb i
      rw [show 2 ^ 64 - (b + 1) = 18446744073709551615 - b by omega] at h2
      rw [h2]
      cases hai : a.testBit i with
      | false => rfl
      | true => simp [h i hai]
    omega

set_option maxRecDepth 100000 in
set_option maxHeartbeats 2000000 in
theorem least_any (A : Option Addr) (n c : Nat) (up : List Nat) (set : Nat) (w : World) (hT : Tab w) (hn : up.length = n) (hM : Masks up) (hs : set < 2 ^ 64) (hk : ∀ k ∈ bitsOf set, k < n)
    (hr : Reads w w.heap.size 1 A n (u64s up)) :
    Calls Tryd.prog 50 #[.slice A n c, .int .u64 set] w fun e w' => e = .returned (.int .i64 (leastI up set)) ∧ Below w.heap.size w w' := by
  refine (callsIn_wide (n := 9)).1 ?_
  have hw0 := hT.1
  replace hT := Lib.hid hT
  replace hr := Lib.hid hr
  replace hk := Lib.hid hk
  replace hM := Lib.hid hM
  replace hn := Lib.hid hn
  refine callsIn_of_wp_marks Tryd.func50 rfl trivial ?_ rfl
  simp only [Tryd.ntmps50, List.size_toArray, List.length_cons, List.length_nil, Nat.reduceAdd, Nat.reduceSub, Array.replicate_succ, Array.replicate_zero, List.push_toArray, List.append_toArray, List.nil_append, List.cons_append]
  gi_wp2_with (refine ⟨trivial, ?_⟩; gi_at_call 46; refine (callsIn_wide.2 (all_makes set _)).mono ?_; rintro e w' ⟨rfl, rfl⟩)
  obtain ⟨W0, hW0⟩ : ∃ W0, ((((w.alloc (.cells #[.slice A n c] 22)).alloc (.cells #[.int .u64 set] 27)).alloc (.cells #[.int .i64 0] 3)).alloc (.cells #[.int .u64 set] 27)) = W0 := ⟨_, rfl⟩
  rw [hW0]
  have b0 : Blk W0 w.heap.size 22 #[.slice A n c] := by rw [← hW0]; exact (((Blk.new_at w _ _ _ rfl).alloc _).alloc _).alloc _
  have b1 : Blk W0 (w.heap.size + 1) 27 #[.int .u64 set] := by rw [← hW0]; exact ((Blk.new_at _ _ _ _ (by simp)).alloc _).alloc _
  have b2 : Blk W0 (w.heap.size + 1 + 1) 3 #[.int .i64 0] := by rw [← hW0]; exact (Blk.new_at _ _ _ _ (by simp)).alloc _
  have b3 : Blk W0 (w.heap.size + 1 + 1 + 1) 27 #[.int .u64 set] := by rw [← hW0]; exact Blk.new_at _ _ _ _ (by simp)
  have hsz : W0.heap.size = w.heap.size + 4 := by rw [← hW0]; simp
  have hB0 : Below w.heap.size w W0 := by rw [← hW0]; exact ((((Below.refl _ w).alloc (Nat.le_refl _) _).alloc (by simp) _).alloc (by simp; omega) _).alloc (by simp; omega) _
  clear hW0
  refine wpIn_rangeFunc_ownG rfl (by omega) (gf := 53) (lb := #[.pointer (some ⟨w.heap.size + 1 + 1 + 1, 0, none⟩)]) rfl trivial (enters_of Tryd.func53 (by kernel_rfl) rfl)
    (all_stops 8 (by omega) set hs (w.heap.size + 1 + 1 + 1) w.heap.size _ hw0 (by omega) (hT.out.later hB0) b3.cell0) belowK_t (belowK_b (by omega)) (Below.refl _ _) (fun _ => rfl)
    (fun pre W => (∀ y ∈ pre, subB set (up.getD y.1 0) = false) ∧ Blk W w.heap.size 22 #[.slice A n c] ∧ Blk W (w.heap.size + 1) 27 #[.int .u64 set] ∧ Blk W (w.heap.size + 1 + 1) 3 #[.int .i64 0] ∧ Below w.heap.size w W)
    (fun c pre W => c = .ret ∧ ∃ (pre0 : List (Bit set)) (x : Bit set), pre = pre0 ++ [x] ∧ (∀ y ∈ pre0, subB set (up.getD y.1 0) = false) ∧ subB set (up.getD x.1 0) = true ∧ Blk W (w.heap.size + 1 + 1) 3 #[.int .i64 (x.1 : Nat)] ∧ Below w.heap.size w W)
    ?hI ?hIx
    ⟨by simp, b0, b1, b2, hB0⟩
    (fun x => { tmps := #[.slice A n c, .int .u64 set, .pointer (some ⟨w.heap.size, 0, none⟩), .pointer (some ⟨w.heap.size + 1, 0, none⟩), .pointer (some ⟨w.heap.size + 1 + 1, 0, none⟩), .int .i64 (x.1 : Nat), .int .u64 set, .func (.func 53) #[] #[.pointer (some ⟨w.heap.size + 1 + 1 + 1, 0, none⟩)], .int .i64 (x.1 : Nat), undef, undef, undef, undef, undef, undef, undef, undef], defers := [] }) ?assign ?body ?done ?stop
  case hI =>
    rintro s A B row ⟨h1, h2, h3, h4, h5⟩ hg hr
    exact ⟨h1, h2.own hg (fun r e => (hr r e).2), h3.own hg (fun r e => (hr r e).2), h4.own hg (fun r e => (hr r e).2), ownFrom_below (β := Unit) (Nat.le_refl _) (by omega) () A B row h5 hg hr⟩
  case hIx =>
    rintro c s A B row ⟨hc, pre0, x, h1, h2, h3, h4, h5⟩ hg hr
    exact ⟨hc, pre0, x, h1, h2, h3, h4.own hg (fun r e => (hr r e).2), ownFrom_below (β := Unit) (Nat.le_refl _) (by omega) () A B row h5 hg hr⟩
  case assign =>
    intro l x W K hK
    gi_wp2
    simpa using hK
  case body =>
    rintro l pre x W ⟨h1, h2, h3, h4, h5⟩ hlen
    have hxn := hk.out x.1 x.2
    obtain ⟨ad, hA, hb, hc⟩ := reads_mask hn.out ((hr.out.below h5)) hxn
    subst hA
    have c2 := h2.cell0
    have c3 := h3.cell0
    have c4 := h4.cell0
    have f4 := h4.frozen 0
    have hsub := andNot_sub set (up.getD x.1 0) hs (hM.out x.1)
    replace h1 := Lib.hid h1
    replace h2 := Lib.hid h2
    replace h3 := Lib.hid h3
    replace h4 := Lib.hid h4
    replace h5 := Lib.hid h5
    cases hq : subB set (up.getD x.1 0) with
    | true =>
      rw [hq] at hsub
      replace hq := Lib.hid hq
      generalize up.getD x.1 0 = ux at hc hsub
      gi_wp2
      refine wpIn_region_quiet_r (by kernel_rfl) (by kernel_rfl) ?_
      repeat (gi_big_quiet_step (fail))
      refine wpQuietIn_nil ?_
      intro _ hw'
      obtain ⟨nq, hw''⟩ := hw'
      subst hw''
      gi_wp2
      exact ⟨(keeps_drewN (KeepsOthers.setCell _ _ _) _).from _, rfl, pre, x, rfl, h1.out, hq.out, (h4.out.set0 _).drewN _, below_drewNs (h5.out.setCell (p := ⟨w.heap.size + 1 + 1, 0, none⟩) (by simp; omega) _) _⟩
    | false =>
      rw [hq] at hsub
      replace hq := Lib.hid hq
      generalize up.getD x.1 0 = ux at hc hsub
      gi_wp2
      refine wpIn_region_quiet_r (by kernel_rfl) (by kernel_rfl) ?_
      repeat (gi_big_quiet_step (fail))
      refine wpQuietIn_nil ?_
      intro _ hw'
      obtain ⟨nq, hw''⟩ := hw'
      subst hw''
      gi_wp2
      refine ⟨(keeps_drewN (KeepsOthers.refl _) _).from _, below_drewNs (Below.refl _ _) _, ?_, h2.out.drewN _, h3.out.drewN _, h4.out.drewN _, below_drewNs h5.out _⟩
      intro y hy
      rcases List.mem_append.1 hy with hy | hy
      · exact h1.out y hy
      · obtain rfl : y = x := by simpa using hy
        exact hq.out
  case done =>
    rintro D ys W hD hys ⟨h1, h2, h3, h4, h5⟩ hK
    have hres : leastI up set = -1 := by
      unfold leastI
      rw [show (bitsOf set).find? (fun k => subB set (up.getD k 0)) = none from ?_]
      rw [List.find?_eq_none]
      intro y hy
      rw [← hys] at hy
      obtain ⟨z, hz, rfl⟩ := List.mem_map.1 hy
      rw [h1 z hz]
      simp
    have c4 := h4.cell0
    have f4 := h4.frozen 0
    have hs4 := Lib.hid (h4.set0 (.int .i64 (-1)))
    replace hres := Lib.hid hres
    replace hys := Lib.hid hys
    replace h1 := Lib.hid h1
    replace h5 := Lib.hid h5
    have hK' := Lib.hid ((KeepsOthers.setCell W ⟨w.heap.size + 1 + 1, 0, none⟩ (.int .i64 (-1))).same D _ hK rfl)
    clear h2 h3 h4 hK
    gi_wp2
    refine ⟨by simp, .inl ⟨_, _, rfl, run_takeDeferred hK'.out, ?_⟩⟩
    have hc5 := (hs4.out.own (grownBy_putObj' _ D (.deferred none)) (fun r e => by cases e; exact ⟨_, hK'.out, rfl⟩)).cell0
    refine ⟨.int .i64 (-1), ?_, ret_int hres.out.symm, (h5.out.setCell (p := ⟨w.heap.size + 1 + 1, 0, none⟩) (by simp; omega) _).trans (belowK_b (w := w) (Nat.le_refl _) _ D _ _ (by omega) hK'.out rfl rfl)⟩
    simp [results, Tryd.f50, go_sem, hc5]
  case stop =>
    rintro D c0 pre W hD hpre ⟨rfl, pre0, x, rfl, h1, h2, h4, h5⟩ hK
    have hres : leastI up set = (x.1 : Nat) := by
      unfold leastI
      obtain ⟨r, hr⟩ := hpre
      have e : (bitsOf set).find? (fun k => subB set (up.getD k 0)) = some x.1 := by
        have hb : ((pre0 ++ [x]).map (·.1) ++ r).find? (fun k => subB set (up.getD k 0)) = some x.1 := by
          simp only [List.map_append, List.append_assoc, List.map_cons, List.map_nil, List.find?_append]
          have hn0 : (pre0.map (·.1)).find? (fun k => subB set (up.getD k 0)) = none := by
            rw [List.find?_eq_none]
            intro y hy
            obtain ⟨z, hz, rfl⟩ := List.mem_map.1 hy
            rw [h1 z hz]
            simp
          have hx1 : [x.1].find? (fun k => subB set (up.getD k 0)) = some x.1 := List.find?_cons_of_pos h2
          rw [hn0, hx1]
          rfl
        exact (congrArg (List.find? _) hr).symm.trans hb
      rw [e]
    replace hres := Lib.hid hres
    replace hpre := Lib.hid hpre
    replace h1 := Lib.hid h1
    replace h2 := Lib.hid h2
    replace h5 := Lib.hid h5
    have hK' := Lib.hid hK
    replace h4 := Lib.hid h4
    clear hK
    gi_wp2
    refine ⟨by simp, .inl ⟨_, _, rfl, run_takeDeferred hK'.out, ?_⟩⟩
    have hc5 := (h4.out.own (grownBy_putObj' _ D (.deferred none)) (fun r e => by cases e; exact ⟨_, hK'.out, rfl⟩)).cell0
    refine ⟨.int .i64 (x.1 : Nat), ?_, ret_int hres.out.symm, h5.out.trans (belowK_b (w := w) (Nat.le_refl _) W D _ _ (by omega) hK'.out rfl rfl)⟩
    simp [results, Tryd.f50, go_sem, hc5]

end Go.Proofs.YtleckdbdhkgcpaaDoor
