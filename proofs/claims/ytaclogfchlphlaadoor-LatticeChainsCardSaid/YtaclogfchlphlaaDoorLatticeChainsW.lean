/- The walk of LatticeChains. -/
import Derived.Test.YtaclogfchlphlaaDoorAw
import Derived.Test.YtaclogfchlphlaaDoorPc
import Derived.Test.YtaclogfchlphlaaDoorCw
namespace Go.Idl
open Go Go.RowKit

/-- Two rows that share no block. -/
def Apart (v1 v2 : Value) : Prop := ∀ g, v1.ownBlock = some g → v2.ownBlock ≠ some g
theorem Apart.symm {v1 v2 : Value} (h : Apart v1 v2) : Apart v2 v1 := fun g h1 h2 => h g h2 h1
theorem ownsRow_kept {W W' : World} {b : Nat} {e : TypeId} {size n : Nat} {v v2 : Value} {xs : List Value} (h : W.ownsRow b e size v2 n xs) (hg : W.grownBy W' v.ownBlock) (ha : Apart v v2) : W'.ownsRow b e size v2 n xs := by
  refine h.kept hg ?_
  cases h2 : v2.ownBlock with
  | none => exact .inl rfl
  | some g => exact .inr fun e => ha g e.symm h2
theorem Apart.new {W : World} {b : Nat} {e : TypeId} {size n : Nat} {v v' v2 : Value} {xs : List Value} (ha : Apart v v2) (h : W.ownsRow b e size v2 n xs) (hv : v'.ownBlock = v.ownBlock ∨ ∃ g, W.heap.size ≤ g ∧ v'.ownBlock = some g) : Apart v' v2 := by
  intro g h1 h2
  rcases hv with hv | ⟨g', hg', hv⟩
  · exact ha g (by rw [← hv]; exact h1) h2
  · have := (h.lt g h2).2
    rw [hv] at h1
    injection h1 with h1
    omega
/-- 'out = append(out, x, ..)', with what has turned. -/
theorem wpList_append_new2 {P : Program} (w0 : World) {ops : Array Oper} {rest : List Oper} {o : Oper} {a : Act} {Q : Exit → Act → World → Prop} (hgd : o.guard = none) (s x : Operand) (t : TypeId)
    (ho : o.op = .call { callee := .builtin .append, args := #[s, x], argTypes := #[t, t] })
    (base : Nat) (e : TypeId) (i : TypeInfo) (z : Value) (size bytes : Nat) (ht : P.underlying t = some (.slice e)) (hi : P.info? e = some i) (hz : i.zero = some z)
    (hsize : i.size = size) (hby : i.bytes = bytes) (hzs : z.cells.size = size) (hsz : 0 < size)
    (v : Value) (n : Nat) (xs : List Value) (hs : a.eval s = v) (hown : w0.ownsRow base e size v n xs)
    (m c : Nat) (news : List Value) (hx : a.eval x = .slice (some ⟨w0.heap.size, 0, none⟩) m c) (hlen : news.length = m * size) (h1 : ∀ u ∈ news, u.oneCell' = true)
    (h63 : n + m ≤ maxLen) (hbytes : (n + m) * bytes ≤ 140737488355328) (hbase : base ≤ w0.heap.size)
    (h : ∀ A' c' w', w'.ownsRow base e size (.slice A' (n + m) c') (n + m) (xs ++ news) → Below base w0 w' → w0.grownBy w' v.ownBlock → ((Value.slice A' (n + m) c').ownBlock = v.ownBlock ∨ ∃ g, w0.heap.size ≤ g ∧ (Value.slice A' (n + m) c').ownBlock = some g) → wpList P ops Q rest (a.put o.dst (.slice A' (n + m) c')) w') :
    wpList P ops Q (o :: rest) a (w0.alloc (.cells news.toArray e)) := by
  refine wpList_append_any (w0.alloc (.cells news.toArray e)) hgd s x t ho base e i z size bytes ht hi hz hsize hby hzs hsz v n xs hs (hown.alloc _) _ _ m c news hx (Reads.newN w0 e size m news hlen) h1 h63 hbytes (by simp; omega) ?_
  intro v' w' hown' hg hat
  obtain ⟨A', c', rfl⟩ := ownsRow_slice hown'
  refine h A' c' w' hown' (((Below.refl base w0).alloc hbase _).grown hg (by simp; omega) (fun k hk => ?_)) ?_ ?_
  · obtain ⟨A0, c0, rfl⟩ := ownsRow_slice hown
    exact ownsRow_base hown k hk
  · exact ⟨hg.os, hg.tape, hg.output, Nat.le_trans (by simp) hg.size, fun k hk hne => (hg.block k (by simp; omega) hne).trans (Below.heap_alloc w0 _ k hk)⟩
  · rcases hat with hat | hat
    · exact .inl hat
    · exact .inr ⟨_, by simp, hat⟩
end Go.Idl
namespace Go.Proofs.YtaclogfchlphlaaDoor
open Go.RowKit Go.Shelf Go.Idl

def chainTo (i : Nat) : List (Int × Int) := (List.range i).map fun i : Nat => ((i : Int), ((i + 1 : Nat) : Int))
theorem chainTo_len (i : Nat) : (chainTo i).length = i := by simp [chainTo]
theorem wideTo_len (k i : Nat) : (wideTo k i).length = 2 * i := by
  induction i with
  | zero => rfl
  | succ i ih => rw [wideTo_succ, List.length_append, ih]; rfl
theorem pairVals_app (a b : List (Int × Int)) : pairVals (a ++ b) = pairVals a ++ pairVals b := by unfold pairVals; rw [List.flatMap_append]

set_option maxHeartbeats 4000000 in
theorem walkLatticeChains (q : Nat) (hq : q < 256) (w : World) (hT : Tab w) :
    Calls Tryd.prog 5 #[.int .u8 (q : Nat)] w fun e w' => e = .returned (.bool true) ∧ Below w.heap.size w w' := by
  have hml : maxLen = 9223372036854775807 := rfl
  obtain ⟨i0, hi0, hz0, hz1, hz2⟩ := info_parts pair_info
  obtain ⟨k, hk⟩ : ∃ k, 1 + q % 64 = k := ⟨_, rfl⟩
  have hk1 : 1 ≤ k := by omega
  have hk64 : k ≤ 64 := by omega
  have hki : (1 : Int) + (q : Int) % 64 = (k : Int) := by omega
  replace hT := Lib.hid hT
  replace hk := Lib.hid hk
  replace hki := Lib.hid hki
  go_enter Tryd.func5, Tryd.ntmps5
  go_wp2
  rw [hki.out]
  go_loopw [4, 5, 6] (fun v4 v5 v6 wr => ∃ (i : Nat) (A1 : Option Addr) (c1 : Nat) (A2 : Option Addr) (c2 : Nat), v6 = .int .i64 (i : Nat) ∧ i + 1 ≤ k ∧ v4 = .slice A1 i c1 ∧ v5 = .slice A2 (2 * i) c2 ∧
      wr.ownsRow w.heap.size 33 2 (.slice A1 i c1) i (pairVals (chainTo i)) ∧ wr.ownsRow w.heap.size 33 2 (.slice A2 (2 * i) c2) (2 * i) (pairVals (wideTo k i)) ∧ Apart (.slice A1 i c1) (.slice A2 (2 * i) c2) ∧ Below w.heap.size w wr) (fun v4 v5 v6 wr => k - natOf v6)
  case atStart => exact ⟨0, none, 0, none, 0, rfl, by omega, rfl, rfl, World.ownsRow_nil _ _ _ _, World.ownsRow_nil _ _ _ _, (fun g h => by cases h), Below.refl _ _⟩
  case round =>
    obtain ⟨i, A1, c1, A2, c2, rfl, hik, rfl, rfl, ho1, ho2, hap, hB⟩ := hrel
    by_cases hi : i + 1 < k
    · have hlt : ((i : Int) + 1 < (k : Int)) := by omega
      have hbs := hB.size
      have hsn1 : pairVals (chainTo (i + 1)) = pairVals (chainTo i) ++ [.int .i64 (i : Nat), .int .i64 ((i : Int) + 1)] := by
        unfold chainTo
        rw [chainTo_succ, pairVals_app]
        rfl
      have hsn2 : pairVals (wideTo k (i + 1)) = pairVals (wideTo k i) ++ [.int .i64 0, .int .i64 (i : Nat), .int .i64 (i : Nat), .int .i64 ((k : Int) - 1)] := by
        rw [wideTo_succ, pairVals_app]
        rfl
      replace hsn1 := Lib.hid hsn1
      replace hsn2 := Lib.hid hsn2
      replace ho1 := Lib.hid ho1
      replace ho2 := Lib.hid ho2
      replace hap := Lib.hid hap
      replace hB := Lib.hid hB
      go_wp2_with (first | (at_builtin; refine wpList_append_new2 wr rfl (.tmp 21) (.tmp 26) 22 rfl w.heap.size 33 i0 (.agg #[.int .i64 0, .int .i64 0]) 2 16 Tryd.underlying22 hi0 hz0 hz1 hz2 rfl (by decide) (.slice A1 i c1) i (pairVals (chainTo i)) rfl ho1.out 1 1 [.int .i64 (i : Nat), .int .i64 ((i : Int) + 1)] rfl rfl (by simp [Value.oneCell']) (by omega) (by omega) hbs ?_; intro A3 c3 w3 hown3 hb3 hg3 hat3; have ho4 := Lib.hid (ownsRow_kept ho2.out hg3 hap.out); have hap3 := Lib.hid (hap.out.new ho2.out hat3); have hB3 := Lib.hid (hB.out.trans hb3); have hbs3 := hB3.out.size; replace hown3 := Lib.hid hown3; clear hb3 hg3 hat3) | (at_builtin; refine wpList_append_new2 w3 rfl (.tmp 28) (.tmp 35) 22 rfl w.heap.size 33 i0 (.agg #[.int .i64 0, .int .i64 0]) 2 16 Tryd.underlying22 hi0 hz0 hz1 hz2 rfl (by decide) (.slice A2 (2 * i) c2) (2 * i) (pairVals (wideTo k i)) rfl ho4.out 2 2 [.int .i64 0, .int .i64 (i : Nat), .int .i64 (i : Nat), .int .i64 ((k : Int) - 1)] rfl rfl (by simp [Value.oneCell']) (by omega) (by omega) hbs3 ?_; intro A4 c4 w4 hown4 hb4 hg4 hat4; have ho5 := Lib.hid (ownsRow_kept hown3.out hg4 hap3.out.symm); have hap4 := Lib.hid ((hap3.out.symm.new hown3.out hat4).symm); have hB4 := Lib.hid (hB3.out.trans hb4); replace hown4 := Lib.hid hown4; clear hb4 hg4 hat4))
      go_roundw
      case rel => exact ⟨i + 1, A3, c3, A4, c4, by go_num, by omega, rfl, rfl, by rw [hsn1.out]; exact ho5.out, by rw [hsn2.out]; exact hown4.out, hap4.out, hB4.out⟩
      case measure => simp [natOf]; omega
    · have hlt : ¬ ((i : Int) + 1 < (k : Int)) := by omega
      obtain rfl : k = i + 1 := by omega
      have hc1 : chainTo i = chainP (i + 1) := rfl
      have hw1 : wideTo (i + 1) i = wideP (i + 1) := rfl
      obtain ⟨cI, cL⟩ := bld_ok hk1 hk64 (chainP_ok (i + 1)) (chain_lat hk1 hk64).1.mk_
      obtain ⟨wI, wL⟩ := bld_ok hk1 hk64 (wideP_ok (i + 1)) (wide_lat hk1 hk64).1.mk_
      have cH := (chain_lat hk1 hk64).2
      have wH := (wide_lat hk1 hk64).2
      have cB := (chain_lat hk1 hk64).1.mk_
      have wB := (wide_lat hk1 hk64).1.mk_
      have cN := (warsP_made (chainP_ok (i + 1))).len
      have wN := (warsP_made (wideP_ok (i + 1))).len
      rw [hc1] at ho1
      rw [hw1] at ho2
      have rd1 := Reads.of_own ho1
      have ln1 : (chainP (i + 1)).length = i := by rw [← hc1]; exact chainTo_len i
      have ln2 : (wideP (i + 1)).length = 2 * i := by rw [← hw1]; exact wideTo_len _ _
      have hT1 := hT.out.later hB
      have hBd := build_any ((i + 1 : Nat) : Int) A1 i c1 (chainP (i + 1)) wr hT1 (by omega) ln1 (by omega) rd1
      have en1 : ((i : Int) + 1) = ((i + 1 : Nat) : Int) := by omega
      rw [← en1] at hBd cI cL wI wL
      replace cH : heightN (warsP (i + 1) (chainP (i + 1))) = i := by rw [cH]; omega
      replace wH : heightN (warsP (i + 1) (wideP (i + 1))) = min i 2 := by rw [wH]; rfl
      generalize warsP (i + 1) (chainP (i + 1)) = cu at *
      generalize warsP (i + 1) (wideP (i + 1)) = wu at *
      replace hc1 := Lib.hid hc1
      replace hw1 := Lib.hid hw1
      replace cI := Lib.hid cI
      replace cL := Lib.hid cL
      replace wI := Lib.hid wI
      replace wL := Lib.hid wL
      replace cH := Lib.hid cH
      replace wH := Lib.hid wH
      replace cB := Lib.hid cB
      replace wB := Lib.hid wB
      replace cN := Lib.hid cN
      replace wN := Lib.hid wN
      replace ho1 := Lib.hid ho1
      replace ho2 := Lib.hid ho2
      replace rd1 := Lib.hid rd1
      replace ln1 := Lib.hid ln1
      replace ln2 := Lib.hid ln2
      replace hT1 := Lib.hid hT1
      replace hap := Lib.hid hap
      replace hB := Lib.hid hB
      replace hBd := Lib.hid hBd
      replace en1 := Lib.hid en1
      go_wp2_with fail
      refine hBd.out.mono ?_
      rintro e w5 hbuilt
      unfold Built at hbuilt
      rw [cL.out, cI.out] at hbuilt
      obtain ⟨hb5, A3, c3, rfl, hr5, hM5⟩ := hbuilt
      have hT5 := Lib.hid (hT1.out.later hb5)
      have hB5 := Lib.hid (hB.out.trans (hb5.mono hB.out.size))
      have ho6 := Lib.hid (ownsRow_below ho2.out hb5)
      replace hr5 := Lib.hid hr5
      replace hM5 := Lib.hid hM5
      clear hb5
      go_wp2_with fail
      refine (height_any A3 cu.length c3 cu w5 hT5.out rfl (by have := cN.out; omega) hM5.out hr5.out).mono ?_
      rintro e w6 ⟨rfl, hb6⟩
      rw [cB.out, if_pos rfl, cH.out]
      have hT6 := Lib.hid (hT5.out.later hb6)
      have hB6 := Lib.hid (hB5.out.trans (hb6.mono hB5.out.size))
      have ho7 := Lib.hid (ownsRow_below ho6.out hb6)
      have rd2 := Reads.of_own ho7.out
      have hBw := build_any ((i : Int) + 1) A2 (2 * i) c2 (wideP (i + 1)) w6 hT6.out (by omega) ln2.out (by omega) rd2
      replace rd2 := Lib.hid rd2
      replace hBw := Lib.hid hBw
      clear hb6
      go_wp2_with fail
      refine hBw.out.mono ?_
      rintro e w7 hbuilt
      unfold Built at hbuilt
      rw [wL.out, wI.out] at hbuilt
      obtain ⟨hb7, A4, c4, rfl, hr7, hM7⟩ := hbuilt
      have hT7 := Lib.hid (hT6.out.later hb7)
      have hB7 := Lib.hid (hB6.out.trans (hb7.mono hB6.out.size))
      replace hr7 := Lib.hid hr7
      replace hM7 := Lib.hid hM7
      clear hb7
      go_wp2_with fail
      refine (height_any A4 wu.length c4 wu w7 hT7.out rfl (by have := wN.out; omega) hM7.out hr7.out).mono ?_
      rintro e w8 ⟨rfl, hb8⟩
      rw [wB.out, if_pos rfl, wH.out]
      have hT8 := Lib.hid (hT7.out.later hb8)
      have hB8 := Lib.hid (hB7.out.trans (hb8.mono hB7.out.size))
      clear hb8
      by_cases hi2 : i ≤ 2
      · have hmin : min i 2 = i := by omega
        rw [hmin]
        have hlt2 : ((i : Int) ≤ 2) := by omega
        have hmn : min ((i : Nat) : Int) 2 = (i : Int) := by omega
        go_wp2_with fail
        refine (awake_any w8 hT8.out).mono ?_
        rintro e w9 ⟨rfl, hb9⟩
        replace hb9 := Lib.hid hb9
        go_wp2_with fail
        go_ret
        exact ⟨rfl, hB8.out.trans (hb9.out.mono hB8.out.size)⟩
      · have hmin : min i 2 = 2 := by omega
        rw [hmin]
        have hlt2 : ¬ ((i : Int) ≤ 2) := by omega
        have hlt3 : ¬ ((i : Int) < 2) := by omega
        have hmn : min ((i : Nat) : Int) 2 = 2 := by omega
        go_wp2_with fail
        refine (awake_any w8 hT8.out).mono ?_
        rintro e w9 ⟨rfl, hb9⟩
        replace hb9 := Lib.hid hb9
        go_wp2_with fail
        go_ret
        exact ⟨rfl, hB8.out.trans (hb9.out.mono hB8.out.size)⟩

end Go.Proofs.YtaclogfchlphlaaDoor
