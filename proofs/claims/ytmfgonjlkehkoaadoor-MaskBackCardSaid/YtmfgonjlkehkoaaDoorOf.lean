/- mask.Of: the set of a list's numbers, or none. -/
import Derived.Test.YtmfgonjlkehkoaaDoorMa
import Derived.Test.YtmfgonjlkehkoaaDoorMw
import Derived.Test.YtmfgonjlkehkoaaDoorOp
namespace Go.Proofs.YtmfgonjlkehkoaaDoor
open Go.RowKit Go.Idl

theorem reads_int {w : World} {B : Nat} {A : Option Addr} {l : List Int} (h : Reads w B 1 A l.length (l.map (Value.int .i64))) {k : Nat} (hk : k < l.length) : ∃ ad, A = some ad ∧ ad.block < B ∧ w.cell? (ad.add k) = some (.int .i64 (l.getD k 0)) := by
  obtain ⟨ad, u, e, hb, hx, hc⟩ := h.at_ hk
  rw [List.getElem?_map, List.getElem?_eq_getElem hk] at hx
  simp only [Option.map_some, Option.some.injEq] at hx
  refine ⟨ad, e, hb, ?_⟩
  rw [hc, ← hx]
  simp [List.getD, hk]

theorem of_yes (A : Option Addr) (c : Nat) (l : List Int) (w : World) (hl : l.length ≤ 9223372036854775807) (hr : Reads w w.heap.size 1 A l.length (l.map (Value.int .i64))) (hok : ofOk l = true) :
    Calls Tryd.prog 14 #[.slice A l.length c] w fun e w' => e = .returned (.tuple #[.int .u64 (ofN l : Nat), .bool true]) ∧ w = w' := by
  replace hok := Lib.hid hok
  replace hr := Lib.hid hr
  generalize hn : l.length = n at hr hl
  have HN := Lib.hid hn
  clear hn
  go_enter Tryd.func14, Tryd.ntmps14
  go_wp2
  go_loop [4, 9] (fun m i => ∃ k : Nat, k ≤ n ∧ i = .int .i64 k ∧ m = .int .u64 (ofN (l.take k) : Nat)) (fun _ i => n - (intOf i).toNat)
  case atStart => exact ⟨0, by omega, rfl, rfl⟩
  case round =>
    obtain ⟨k, hk, rfl, rfl⟩ := hrel
    by_cases hlt' : k < n
    · obtain ⟨ad, hA, hb, hc⟩ := reads_int (HN.out ▸ hr.out) (k := k) (by rw [HN.out]; exact hlt')
      subst hA
      obtain ⟨o1, o2⟩ := okI_yes (ofOk_getD hok.out (k := k) (by rw [HN.out]; exact hlt'))
      have HS := Lib.hid (ofN_snoc l k (by rw [HN.out]; exact hlt'))
      generalize l.getD k 0 = x at hc o1 o2 HS
      go_wp2_with fail
      refine (right_yes _ _ o1 o2).mono ?_
      rintro e w' ⟨rfl, rfl⟩
      go_wp2_with fail
      refine (with_any _ _ _ (ofN_lt _)).mono ?_
      rintro e w' ⟨rfl, rfl⟩
      go_wp2_with fail
      go_round
      case rel => exact ⟨k + 1, by omega, by go_num, by rw [HS.out]⟩
      case measure => simp [intOf]; omega
    · have hge : n ≤ k := by omega
      have hd : decide (k < n) = false := by simp; omega
      clear hlt'
      go_wp2
      go_ret2
      exact ⟨ret_ib (by rw [List.take_of_length_le (by rw [HN.out]; omega)]) rfl, rfl⟩

theorem of_no (A : Option Addr) (c : Nat) (l : List Int) (w : World) (hl : l.length ≤ 9223372036854775807) (hr : Reads w w.heap.size 1 A l.length (l.map (Value.int .i64))) (hok : ofOk l = false) :
    Calls Tryd.prog 14 #[.slice A l.length c] w fun e w' => e = .returned (.tuple #[.int .u64 0, .bool false]) ∧ w = w' := by
  obtain ⟨T, hT, hbad, hgood⟩ := ofOk_first hok
  clear hok
  replace hbad := Lib.hid (okI_no hbad)
  replace hgood := Lib.hid hgood
  replace hr := Lib.hid hr
  generalize hn : l.length = n at hr hl hT
  have HN := Lib.hid hn
  clear hn
  go_enter Tryd.func14, Tryd.ntmps14
  go_wp2
  go_loop [4, 9] (fun m i => ∃ k : Nat, k ≤ T ∧ i = .int .i64 k ∧ m = .int .u64 (ofN (l.take k) : Nat)) (fun _ i => n - (intOf i).toNat)
  case atStart => exact ⟨0, by omega, rfl, rfl⟩
  case round =>
    obtain ⟨k, hk, rfl, rfl⟩ := hrel
    have hlt' : k < n := by omega
    obtain ⟨ad, hA, hb, hc⟩ := reads_int (HN.out ▸ hr.out) (k := k) (by rw [HN.out]; exact hlt')
    subst hA
    by_cases hkT : k < T
    · obtain ⟨o1, o2⟩ := okI_yes (hgood.out k hkT)
      have HS := Lib.hid (ofN_snoc l k (by rw [HN.out]; exact hlt'))
      generalize l.getD k 0 = x at hc o1 o2 HS
      go_wp2_with fail
      refine (right_yes _ _ o1 o2).mono ?_
      rintro e w' ⟨rfl, rfl⟩
      go_wp2_with fail
      refine (with_any _ _ _ (ofN_lt _)).mono ?_
      rintro e w' ⟨rfl, rfl⟩
      go_wp2_with fail
      go_round
      case rel => exact ⟨k + 1, by omega, by go_num, by rw [HS.out]⟩
      case measure => simp [intOf]; omega
    · obtain rfl : k = T := by omega
      have hb' := hbad.out
      generalize l.getD k 0 = x at hc hb'
      go_wp2_with fail
      refine (right_no _ _ hb').mono ?_
      rintro e w' ⟨rfl, rfl⟩
      go_wp2_with fail
      go_ret2
      exact ⟨rfl, rfl⟩

theorem of_any (A : Option Addr) (c n : Nat) (l : List Int) (w : World) (hn : l.length = n) (hl : n ≤ 9223372036854775807) (hr : Reads w w.heap.size 1 A n (l.map (Value.int .i64))) :
    Calls Tryd.prog 14 #[.slice A n c] w fun e w' => e = .returned (.tuple #[.int .u64 (outN l : Nat), .bool (ofOk l)]) ∧ w = w' := by
  subst hn
  unfold outN
  cases h : ofOk l with
  | true => rw [if_pos rfl]; exact of_yes A c l w hl hr h
  | false => rw [if_neg (by simp)]; exact of_no A c l w hl hr h

end Go.Proofs.YtmfgonjlkehkoaaDoor
