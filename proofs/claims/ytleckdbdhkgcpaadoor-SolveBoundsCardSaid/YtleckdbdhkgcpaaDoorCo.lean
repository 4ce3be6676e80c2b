/- mask.Count: how many numbers a set has. -/
import Derived.Test.YtleckdbdhkgcpaaDoorAl
import Derived.Test.YtleckdbdhkgcpaaDoorCt
namespace Go.Proofs.YtleckdbdhkgcpaaDoor
open Go.RowKit Go.Shelf Go.Idl
attribute [local go_sem] Oper.semAt_some

set_option maxRecDepth 100000 in
set_option maxHeartbeats 2000000 in
theorem count_any (m : Nat) (hm : m < 2 ^ 64) (w : World) (hT : Tab w) :
    Calls Tryd.prog 45 #[.int .u64 m] w fun e w' => e = .returned (.int .i64 (countN m : Nat)) ∧ Below w.heap.size w w' := by
  refine (callsIn_wide (n := 9)).1 ?_
  have hw0 := hT.1
  replace hT := Lib.hid hT
  refine callsIn_of_wp_marks Tryd.func45 rfl trivial ?_ rfl
  simp only [Tryd.ntmps45, List.size_toArray, List.length_cons, List.length_nil, Nat.reduceAdd, Nat.reduceSub, Array.replicate_succ, Array.replicate_zero, List.push_toArray, List.append_toArray, List.nil_append, List.cons_append]
  gi_wp2_with (refine ⟨trivial, ?_⟩; gi_at_call 46; refine (callsIn_wide.2 (all_makes m _)).mono ?_; rintro e w' ⟨rfl, rfl⟩)
  have hB0 : Below w.heap.size w ((w.alloc (.cells #[.int .i64 0] 3)).alloc (.cells #[.int .u64 m] 27)) := ((Below.refl _ w).alloc (Nat.le_refl _) _).alloc (by simp) _
  have b0 : Blk ((w.alloc (.cells #[.int .i64 0] 3)).alloc (.cells #[.int .u64 m] 27)) w.heap.size 3 #[.int .i64 0] := (Blk.new w 3 #[.int .i64 0]).alloc _
  have b1 : Blk ((w.alloc (.cells #[.int .i64 0] 3)).alloc (.cells #[.int .u64 m] 27)) (w.heap.size + 1) 27 #[.int .u64 m] := by
    have := Blk.new (w.alloc (.cells #[.int .i64 0] 3)) 27 #[.int .u64 m]
    rwa [World.size_alloc] at this
  refine wpIn_rangeFunc_ownG rfl (by omega) (gf := 53) (lb := #[.pointer (some ⟨w.heap.size + 1, 0, none⟩)]) rfl trivial (enters_of Tryd.func53 (by kernel_rfl) rfl)
    (all_stops 8 (by omega) m hm (w.heap.size + 1) w.heap.size _ hw0 (by simp) (hT.out.later hB0) b1.cell0) belowK_t (belowK_b (by simp; omega)) (Below.refl _ _) (fun _ => rfl)
    (fun pre W => Blk W w.heap.size 3 #[.int .i64 (pre.length : Nat)] ∧ Below w.heap.size w W)
    (fun _ _ _ => False)
    (OwnFrom.and (Own.from (fun s A B row hs hg hr => hs.own hg hr) _) (ownFrom_below (Nat.le_refl _) (by simp; omega)))
    (fun _ _ _ _ _ hs _ _ => hs)
    ⟨b0, hB0⟩
    (fun x => { tmps := #[.int .u64 m, undef, .int .i64 0, .pointer (some ⟨w.heap.size, 0, none⟩), .int .u64 m, .func (.func 53) #[] #[.pointer (some ⟨w.heap.size + 1, 0, none⟩)], .int .i64 (x.1 : Nat), undef, undef, undef], defers := [] }) ?assign ?body ?done ?stop
  case assign =>
    intro l x W K hK
    gi_wp2
    simpa using hK
  case body =>
    rintro l pre x W ⟨hc, hB⟩ hlen
    have hc0 := hc.cell0
    have hf0 := hc.frozen 0
    have hs := Lib.hid (hc.set0 (.int .i64 ((pre.length : Int) + 1)))
    have hB' := Lib.hid hB
    clear hc hB
    gi_wp2
    exact ⟨(KeepsOthers.setCell _ _ _).from _, (Below.refl w.heap.size W).setCell (p := ⟨w.heap.size, 0, none⟩) (Nat.le_refl _) _, ⟨by simpa using hs.out, hB'.out.setCell (p := ⟨w.heap.size, 0, none⟩) (Nat.le_refl _) _⟩⟩
  case done =>
    rintro D ys W hD hys ⟨hc, hB⟩ hK
    have hc0 := hc.cell0
    have hlen : ys.length = countN m := by
      have := congrArg List.length hys
      simpa [countN] using this
    rw [hlen] at hc0
    replace hlen := Lib.hid hlen
    replace hys := Lib.hid hys
    replace hB := Lib.hid hB
    have hK' := Lib.hid hK
    clear hc hK
    gi_wp2
    refine ⟨by simp, .inl ⟨_, _, rfl, run_takeDeferred hK'.out, ?_⟩⟩
    exact ⟨_, results_tmp rfl _ _ _, rfl, hB.out.trans (belowK_b (w := w) (Nat.le_refl _) W D _ _ (by simp at hD; omega) hK'.out rfl rfl)⟩
  case stop =>
    rintro D c pre W _ _ h _
    exact h.elim

end Go.Proofs.YtleckdbdhkgcpaaDoor
