/- The law's own helper 'all': what is told of a set, up to so many. -/
import Derived.Test.YtmfgonjlkehkoaaDoorCo
import Derived.Test.YtmfgonjlkehkoaaDoorSi
namespace Go.Proofs.YtmfgonjlkehkoaaDoor
open Go.RowKit Go.Shelf Go.Idl
attribute [local go_sem] Oper.semAt_some

/-- The first so many of a set's numbers. -/
def tk (m most : Nat) : List Nat := (bitsOf m).take most

theorem count5 : countN 5 = 2 := by decide

set_option maxRecDepth 100000 in
set_option maxHeartbeats 2000000 in
theorem hall_any (m : Nat) (hm : m < 2 ^ 64) (most : Nat) (w : World) (hT : Tab w) :
    Calls Tryd.prog 8 #[.int .u64 m, .int .i64 most] w fun e w' => ∃ A c, e = .returned (.slice A (tk m most).length c) ∧
      w'.ownsRow w.heap.size 3 1 (.slice A (tk m most).length c) (tk m most).length (nats (tk m most)) ∧ Below w.heap.size w w' := by
  refine (callsIn_wide (n := 9)).1 ?_
  have hw0 := hT.1
  obtain ⟨i0, hi0, hz0, hz1, hz2⟩ := info_parts int_info
  replace hT := Lib.hid hT
  have C5 := fun W (h : Tab W) => count_any 5 (by decide) W h
  rw [count5] at C5
  replace C5 := Lib.hid C5
  refine callsIn_of_wp_marks Tryd.func8 rfl trivial ?_ rfl
  simp only [Tryd.ntmps8, List.size_toArray, List.length_cons, List.length_nil, Nat.reduceAdd, Nat.reduceSub, Array.replicate_succ, Array.replicate_zero, List.push_toArray, List.append_toArray, List.nil_append, List.cons_append]
  have hB0 : Below w.heap.size w ((w.alloc (.cells #[.int .i64 most] 3)).alloc (.cells #[.slice none 0 0] 23)) := ((Below.refl _ w).alloc (Nat.le_refl _) _).alloc (by simp) _
  have b0 : Blk ((w.alloc (.cells #[.int .i64 most] 3)).alloc (.cells #[.slice none 0 0] 23)) w.heap.size 3 #[.int .i64 most] := (Blk.new w 3 #[.int .i64 most]).alloc _
  have b1 : Blk ((w.alloc (.cells #[.int .i64 most] 3)).alloc (.cells #[.slice none 0 0] 23)) (w.heap.size + 1) 23 #[.slice none 0 0] := by
    have := Blk.new (w.alloc (.cells #[.int .i64 most] 3)) 23 #[.slice none 0 0]
    rwa [World.size_alloc] at this
  gi_wp2_with (refine ⟨trivial, ?_⟩; gi_at_call 10; refine (callsIn_wide.2 (C5.out _ (hT.out.later hB0))).mono ?_; rintro e w1 ⟨rfl, hb1⟩)
  gi_wp2_with (refine ⟨trivial, ?_⟩; gi_at_call 19; refine (callsIn_wide.2 (all_makes m _)).mono ?_; rintro e w' ⟨rfl, rfl⟩)
  have hsz : w.heap.size + 1 < w1.heap.size := by have := hb1.size; simp at this; omega
  have hB1 : Below w.heap.size w (w1.alloc (.cells #[.int .u64 m] 22)) := (hB0.trans (hb1.mono (by simp; omega))).alloc (by omega) _
  have c0 : Blk (w1.alloc (.cells #[.int .u64 m] 22)) w.heap.size 3 #[.int .i64 most] := (b0.below hb1 (by simp; omega)).alloc _
  have c1 : Blk (w1.alloc (.cells #[.int .u64 m] 22)) (w.heap.size + 1) 23 #[.slice none 0 0] := (b1.below hb1 (by simp)).alloc _
  have c2 : Blk (w1.alloc (.cells #[.int .u64 m] 22)) w1.heap.size 22 #[.int .u64 m] := Blk.new w1 22 #[.int .u64 m]
  have hT1 : Tab (w1.alloc (.cells #[.int .u64 m] 22)) := hT.out.later hB1
  refine wpIn_rangeFunc_ownG rfl (by omega) (gf := 23) (lb := #[.pointer (some ⟨w1.heap.size, 0, none⟩)]) rfl trivial (enters_of Tryd.func23 (by kernel_rfl) rfl)
    (all_stops 8 (by omega) m hm w1.heap.size w.heap.size _ hw0 (by simp) hT1 c2.cell0) belowK_t (belowK_b (by simp; omega)) (Below.refl _ _) (fun _ => rfl)
    (fun pre W => (∃ A c, Blk W (w.heap.size + 1) 23 #[.slice A pre.length c] ∧ W.ownsRow (w.heap.size + 2) 3 1 (.slice A pre.length c) pre.length (nats (pre.map (·.1)))) ∧ pre.length ≤ most ∧ Blk W w.heap.size 3 #[.int .i64 most] ∧ w.heap.size + 2 ≤ W.heap.size ∧ Below w.heap.size w W)
    (fun c pre W => c = .exit 0 ∧ ∃ (pre0 : List (Bit m)) (x : Bit m), pre = pre0 ++ [x] ∧ pre0.length = most ∧ (∃ A c, Blk W (w.heap.size + 1) 23 #[.slice A pre0.length c] ∧ W.ownsRow (w.heap.size + 2) 3 1 (.slice A pre0.length c) pre0.length (nats (pre0.map (·.1)))) ∧ Below w.heap.size w W)
    ?hI ?hIx
    ⟨⟨none, 0, c1, World.ownsRow_nil _ _ _ _⟩, Nat.zero_le _, c0, by simp; omega, hB1⟩
    (fun x => { tmps := #[.int .u64 m, .int .i64 most, undef, .pointer (some ⟨w.heap.size, 0, none⟩), .slice none 0 0, .pointer (some ⟨w.heap.size + 1, 0, none⟩), .int .i64 (x.1 : Nat), .int .i64 2, .bool false, .int .u64 m, .func (.func 23) #[] #[.pointer (some ⟨w1.heap.size, 0, none⟩)], .int .i64 (x.1 : Nat), undef, undef, undef, undef, undef, undef, undef, undef, undef], defers := [] }) ?assign ?body ?done ?stop
  case hI =>
    rintro s A B row ⟨⟨a1, a2, h1, h2⟩, h3, h4, h6, h5⟩ hg hr
    exact ⟨⟨a1, a2, h1.own hg (fun r e => (hr r e).2), ownsRow_own h2 hg (fun r e => (hr r e).2)⟩, h3, h4.own hg (fun r e => (hr r e).2), Nat.le_trans h6 hg.size, ownFrom_below (β := Unit) (Nat.le_refl _) (by simp; omega) () A B row h5 hg hr⟩
  case hIx =>
    rintro c s A B row ⟨hc, pre0, x, h1, h2, ⟨a1, a2, h3, h4⟩, h5⟩ hg hr
    exact ⟨hc, pre0, x, h1, h2, ⟨a1, a2, h3.own hg (fun r e => (hr r e).2), ownsRow_own h4 hg (fun r e => (hr r e).2)⟩, ownFrom_below (β := Unit) (Nat.le_refl _) (by simp; omega) () A B row h5 hg hr⟩
  case assign =>
    intro l x W K hK
    gi_wp2
    simpa using hK
  case body =>
    rintro l pre x W ⟨⟨A, c, h1, h2⟩, h3, h4, hBs, h5⟩ hlen
    have g1 := h1.cell0
    have g4 := h4.cell0
    have gf := h1.frozen 0
    have hsn : nats ((pre ++ [x]).map (·.1)) = nats (pre.map (·.1)) ++ [Value.int .i64 (x.1 : Nat)] := by rw [List.map_append]; exact nats_append _ _
    have hln : (pre ++ [x]).length = pre.length + 1 := by simp
    by_cases hlt : pre.length < most
    · have hd : decide (most ≤ pre.length) = false := by simp; omega
      have hM : pre.length + 1 ≤ maxLen := by unfold maxLen; omega
      have HX : ∀ (n : Nat), n = pre.length → (pre ++ [x]).length = n + 1 := by intro n e; rw [hln, e]
      replace HX := Lib.hid HX
      replace hsn := Lib.hid hsn
      replace hln := Lib.hid hln
      replace h1 := Lib.hid h1
      replace h2 := Lib.hid h2
      replace h4 := Lib.hid h4
      replace h5 := Lib.hid h5
      gi_wp2_with (gi_at_builtin; refine wpListIn_append_new W rfl _ _ 23 rfl (w.heap.size + 2) 3 i0 (.int .i64 0) 1 8 Tryd.underlying23 hi0 hz0 hz1 hz2 rfl (by decide) (.slice A pre.length c) pre.length (nats (pre.map (·.1))) rfl h2.out 1 1 [.int .i64 (x.1 : Nat)] rfl rfl (by simp [Value.oneCell']) hM (by omega) hBs ?_; intro A' c' w2 hown2 hb2 hg2 hk2; have e1 := h1.out.below hb2 (by omega); have e1c := e1.cell0; have e1f := e1.frozen 0; replace e1 := Lib.hid e1; replace hown2 := Lib.hid hown2; replace hb2 := Lib.hid hb2; replace hg2 := Lib.hid hg2; replace hk2 := Lib.hid hk2)
      have hown3 := hown2.out
      rw [← hsn.out, ← hln.out] at hown3
      have hs2 := Lib.hid hb2.out.size
      refine ⟨((hk2.out.trans (KeepsOthers.setCell _ _ _)).from _), (hb2.out.mono (by omega)).setCell (p := ⟨w.heap.size + 1, 0, none⟩) (by simp) _, ⟨⟨A', c', ?_, ?_⟩, ?_, ?_, ?_, (h5.out.trans (hb2.out.mono (by omega))).setCell (p := ⟨w.heap.size + 1, 0, none⟩) (by simp) _⟩⟩
      · rw [hln.out]; exact e1.out.set0 _
      · exact ownsRow_setCell hown3 (by rw [hln.out]; exact own_blk_ne hown2.out e1.out (by decide)) _
      · rw [hln.out]; omega
      · exact (h4.out.below hb2.out (by omega)).far (by simp) _
      · have := hs2.out; simp [World.setCell]; omega
    · have hd : decide (most ≤ pre.length) = true := by simp; omega
      have he : pre.length = most := by omega
      replace he := Lib.hid he
      replace h1 := Lib.hid h1
      replace h2 := Lib.hid h2
      replace h4 := Lib.hid h4
      replace h5 := Lib.hid h5
      clear hsn hln hlt
      gi_wp2
      exact ⟨KeepsFrom.refl _ _, rfl, pre, x, rfl, he.out, ⟨A, c, h1.out, h2.out⟩, h5.out⟩
  case done =>
    rintro D ys W hD hys ⟨⟨A, c, h1, h2⟩, h3, h4, hBs, h5⟩ hK
    have g1 := h1.cell0
    have hy : ys.map (·.1) = tk m most := by
      unfold tk
      rw [hys, List.take_of_length_le]
      rw [← hys]; simpa using h3
    have hl : ys.length = (tk m most).length := by rw [← hy]; simp
    rw [hy, hl] at h2
    rw [hl] at g1
    replace hy := Lib.hid hy
    replace hl := Lib.hid hl
    replace hys := Lib.hid hys
    replace h2 := Lib.hid h2
    replace h5 := Lib.hid h5
    have hK' := Lib.hid hK
    clear h1 h4 hK
    gi_wp2
    refine ⟨by simp, .inl ⟨_, _, rfl, run_takeDeferred hK'.out, ?_⟩⟩
    refine ⟨_, results_tmp rfl _ _ _, A, c, rfl, ?_, h5.out.trans (belowK_b (w := w) (Nat.le_refl _) W D _ _ (by simp at hD; omega) hK'.out rfl rfl)⟩
    exact ownsRow_less (ownsRow_own h2.out (grownBy_putObj' _ D (.deferred none)) (fun r e => by cases e; exact ⟨_, hK'.out, rfl⟩)) (by omega)
  case stop =>
    rintro D c0 pre W hD hpre ⟨rfl, pre0, x, rfl, hlen0, ⟨A, c, h1, h2⟩, h5⟩ hK
    have g1 := h1.cell0
    have hy : pre0.map (·.1) = tk m most := by
      obtain ⟨r, hr⟩ := hpre
      have h0 := congrArg (List.take most) hr
      have h1 : List.take most ((pre0 ++ [x]).map (·.1) ++ r) = pre0.map (·.1) := by
        simp only [List.map_append, List.append_assoc]
        rw [List.take_append_of_le_length (by simp; omega), List.take_of_length_le (by simp; omega)]
      exact h1.symm.trans h0
    have hl : pre0.length = (tk m most).length := by rw [← hy]; simp
    rw [hy, hl] at h2
    rw [hl] at g1
    replace hy := Lib.hid hy
    replace hl := Lib.hid hl
    replace hpre := Lib.hid hpre
    replace hlen0 := Lib.hid hlen0
    replace h2 := Lib.hid h2
    replace h5 := Lib.hid h5
    have hK' := Lib.hid hK
    clear h1 hK
    gi_wp2
    refine ⟨by simp, .inl ⟨_, _, rfl, run_takeDeferred hK'.out, ?_⟩⟩
    refine ⟨_, results_tmp rfl _ _ _, A, c, rfl, ?_, h5.out.trans (belowK_b (w := w) (Nat.le_refl _) W D _ _ (by simp at hD; omega) hK'.out rfl rfl)⟩
    exact ownsRow_less (ownsRow_own h2.out (grownBy_putObj' _ D (.deferred none)) (fun r e => by cases e; exact ⟨_, hK'.out, rfl⟩)) (by omega)

end Go.Proofs.YtmfgonjlkehkoaaDoor
