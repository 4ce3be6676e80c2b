/- The reference's List and Same: a set's numbers in order; whether two lists are alike. -/
import Derived.Test.YtmfgonjlkehkoaaDoorRh
import Derived.Test.YtmfgonjlkehkoaaDoorMw
import Derived.Test.YtmfgonjlkehkoaaDoorCt
namespace Go.Proofs.YtmfgonjlkehkoaaDoor
open Go.RowKit Go.Idl

theorem int_info : (Tryd.prog.info? 3).map (fun i => (i.zero, i.size, i.bytes)) = some (some (.int .i64 0), 1, 8) := by kernel_rfl

/-- A list of numbers as values. -/
def nats (l : List Nat) : List Value := l.map fun k => Value.int .i64 (k : Nat)
theorem nats_append (l : List Nat) (k : Nat) : nats (l ++ [k]) = nats l ++ [Value.int .i64 (k : Nat)] := by simp [nats]
theorem nats_one (l : List Nat) : ∀ u ∈ nats l, u.oneCell' = true := by
  intro u hu
  obtain ⟨x, _, rfl⟩ := List.mem_map.1 hu
  rfl

/-- The numbers of a set that lie below k. -/
def bitsTo (m k : Nat) : List Nat := (List.range k).filter fun i => m.testBit i
theorem bitsTo_succ (m k : Nat) : bitsTo m (k + 1) = if m.testBit k = true then bitsTo m k ++ [k] else bitsTo m k := by
  unfold bitsTo
  rw [List.range_succ, List.filter_append]
  by_cases h : m.testBit k = true <;> simp [h]
theorem bitsTo_len (m k : Nat) : (bitsTo m k).length ≤ k := Nat.le_trans (List.length_filter_le _ _) (by simp)

theorem rlist_any (m : Nat) (hm : m < 2 ^ 64) (w : World) :
    Calls Tryd.prog 7 #[.int .u64 m] w fun e w' => ∃ A c, e = .returned (.slice A (countN m) c) ∧ w'.ownsRow w.heap.size 3 1 (.slice A (countN m) c) (countN m) (nats (bitsOf m)) ∧ Below w.heap.size w w' := by
  obtain ⟨i0, hi0, hz0, hz1, hz2⟩ := info_parts int_info
  go_enter Tryd.func7, Tryd.ntmps7
  go_wp2
  go_loopw [3, 4] (fun v i wr => ∃ k : Nat, k ≤ 64 ∧ i = .int .i64 k ∧ (∃ A c, v = .slice A (bitsTo m k).length c ∧ wr.ownsRow w.heap.size 3 1 v (bitsTo m k).length (nats (bitsTo m k))) ∧ Below w.heap.size w wr) (fun _ i _ => 64 - (intOf i).toNat)
  case atStart => exact ⟨0, by omega, rfl, ⟨none, 0, rfl, World.ownsRow_nil _ _ _ _⟩, Below.refl _ _⟩
  case round =>
    obtain ⟨k, hk, rfl, ⟨A, c, rfl, hown⟩, hB⟩ := hrel
    by_cases hlt : k < 64
    · have C := rhas_any m k wr hm
      rw [hasB_in hlt] at C
      have HS := bitsTo_succ m k
      have hlen := bitsTo_len m k
      cases hb : m.testBit k with
      | false =>
        rw [hb] at C HS
        rw [if_neg (by simp)] at HS
        replace C := Lib.hid C
        replace HS := Lib.hid HS
        clear hb
        replace hown := Lib.hid hown
        replace hB := Lib.hid hB
        go_wp2_with fail
        refine C.out.mono ?_
        rintro e w' ⟨rfl, rfl⟩
        go_wp2_with fail
        go_roundw
        case rel => exact ⟨k + 1, by omega, by go_num, ⟨A, c, by rw [HS.out], by rw [HS.out]; exact hown.out⟩, hB.out⟩
        case measure => simp [intOf]; omega
      | true =>
        rw [hb] at C HS
        rw [if_pos rfl] at HS
        replace C := Lib.hid C
        clear hb
        have e1 : (bitsTo m (k + 1)).length = (bitsTo m k).length + 1 := by rw [HS]; simp
        have e2 : nats (bitsTo m (k + 1)) = nats (bitsTo m k) ++ [Value.int .i64 (k : Nat)] := by rw [HS, nats_append]
        clear HS
        replace e1 := Lib.hid e1
        replace e2 := Lib.hid e2
        replace hown := Lib.hid hown
        have hBs := hB.size
        replace hB := Lib.hid hB
        generalize (bitsTo m k).length = n at *
        have hM : n + 1 ≤ maxLen := by unfold maxLen; omega
        go_wp2_with fail
        refine C.out.mono ?_
        rintro e w' ⟨rfl, rfl⟩
        go_wp2_with (at_builtin; refine wpList_append_new wr rfl _ _ 23 rfl w.heap.size 3 i0 (.int .i64 0) 1 8 Tryd.underlying23 hi0 hz0 hz1 hz2 rfl (by decide) (.slice A n c) n (nats (bitsTo m k)) rfl hown.out 1 1 [.int .i64 k] rfl rfl (by simp [Value.oneCell']) hM (by omega) hBs ?_; intro A' c' w1 hown1 hb1)
        replace hown1 := Lib.hid hown1
        have hB1 := Lib.hid (hB.out.trans hb1)
        clear hb1
        go_roundw
        case rel => exact ⟨k + 1, by omega, by go_num, ⟨A', c', by rw [e1.out], by rw [e1.out, e2.out]; exact hown1.out⟩, hB1.out⟩
        case measure => simp [intOf]; omega
    · have hge : 64 ≤ k := by omega
      obtain rfl : k = 64 := by omega
      clear hlt
      replace hown := Lib.hid hown
      replace hB := Lib.hid hB
      go_wp2
      go_ret
      exact ⟨A, c, rfl, hown.out, hB.out⟩

end Go.Proofs.YtmfgonjlkehkoaaDoor
