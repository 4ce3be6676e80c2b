/- The queue: Push, Pop, and container/heap's over them. -/
import Derived.Test.YtleckdbdhkgcpaaDoorHq
namespace Go.Proofs.YtleckdbdhkgcpaaDoor
open Go.RowKit Go.Shelf Go.Idl

theorem int_info1 : (Tryd.prog.info? 3).map (fun i => (i.zero, i.size, i.bytes)) = some (some (.int .i64 0), 1, 8) := by kernel_rfl
theorem info_parts1 {o : Option TypeInfo} {z : Value} {s b : Nat} (h : o.map (fun i => (i.zero, i.size, i.bytes)) = some (some z, s, b)) : ∃ i, o = some i ∧ i.zero = some z ∧ i.size = s ∧ i.bytes = b := by
  obtain ⟨i, rfl, he⟩ := Option.map_eq_some_iff.1 h
  injection he with h1 h2
  injection h2 with h2 h3
  exact ⟨i, rfl, h1, h2, h3⟩

theorem assert_int (v : Value) (w : World) : Sem.run Tryd.prog (Instr.typeAssert (.iface 3 v) 20 3 true) w = .ok (.tuple #[v, .bool true]) w := by
  simp [Instr.typeAssert, run_underlying Tryd.underlying3, go_sem, Result.andThen]

set_option maxHeartbeats 4000000 in
set_option maxRecDepth 100000 in
theorem push1_any (h g c : Nat) (zs : List Int) (n : Nat) (x : Int) (w : World) (hn : zs.length = n) (k : Blk w h 58 #[.slice (some ⟨g, 0, none⟩) n c]) (hz : Qrow w g 3 c zs) (hgh : h ≠ g) (hc : n ≤ 200000000000) :
    Calls Tryd.prog 77 #[.pointer (some ⟨h, 0, none⟩), .iface 3 (.int .i64 x)] w fun e w' => e = .returned (.tuple #[]) ∧ ∃ g' c', Blk w' h 58 #[.slice (some ⟨g', 0, none⟩) (n + 1) c'] ∧ Qrow w' g' 3 c' (zs ++ [x]) ∧
      (g' = g ∨ w.heap.size ≤ g') ∧ Kept (fun k => k = h ∨ k = g) w w' := by
  obtain ⟨i0, hi0, hz0, hz1, hz2⟩ := info_parts1 int_info1
  have ho := hz.own (Nat.zero_le g)
  rw [hn] at ho
  have hkl := k.lt
  have c0 := k.cell0
  replace hn := Lib.hid hn
  replace hz := Lib.hid hz
  replace ho := Lib.hid ho
  replace k := Lib.hid k
  have hta := assert_int (.int .i64 x)
  go_enter Tryd.func77, Tryd.ntmps77
  go_wp2_with (
    at_builtin
    refine wpList_append_any (w.alloc (.cells [Value.int .i64 x].toArray 3)) rfl _ _ 58 rfl 0 3 i0 (.int .i64 0) 1 8 Tryd.underlying58 hi0 hz0 hz1 hz2 rfl (by decide) _ n (nums zs) rfl (ho.out.alloc _) _ _ 1 1 [.int .i64 x] rfl (Reads.newN w 3 1 1 [.int .i64 x] rfl) (by simp [Value.oneCell']) (by unfold maxLen; omega) (by omega) (Nat.zero_le _) ?_
    intro v' w1 ho1 hg1 hat
    rw [show nums zs ++ [Value.int .i64 x] = nums (zs ++ [x]) from (nums_app zs [x]).symm] at ho1
    obtain ⟨g', c', rfl, _, hq, _⟩ := Qrow.of ho1 (by omega)
    replace hg1 : (w.alloc (.cells #[Value.int .i64 x] 3)).grownBy w1 (some g) := hg1
    replace hat : some g' = some g ∨ some g' = some (w.alloc (.cells #[Value.int .i64 x] 3)).heap.size := hat
    have k1 : Blk w1 h 58 #[.slice (some ⟨g, 0, none⟩) n c] := (k.out.alloc (.cells #[Value.int .i64 x] 3)).grown hg1 (fun e => hgh (by injection e))
    have hgs : g' = g ∨ w.heap.size ≤ g' := by
      rcases hat with e | e
      · exact .inl (by injection e)
      · right
        injection e with e
        simp at e
        omega
    have hne : g' ≠ h := by rcases hgs with e | e <;> omega
    have f1 := k1.frozen 0
    have c1 := k1.cell0
    have hK := ((Kept.refl (fun k => k = h ∨ k = g) w).alloc (.cells #[Value.int .i64 x] 3)).trans (Kept.of_grown (S := fun k => k = h ∨ k = g) hg1 (fun b e => .inr (by injection e with e; exact e.symm))) (T := fun k => k = h ∨ k = g) (fun _ _ h => h) (fun _ _ h => h)
    have fin : Blk (w1.setCell ⟨h, 0, none⟩ (.slice (some ⟨g', 0, none⟩) (n + 1) c')) h 58 #[.slice (some ⟨g', 0, none⟩) (n + 1) c'] ∧ Qrow (w1.setCell ⟨h, 0, none⟩ (.slice (some ⟨g', 0, none⟩) (n + 1) c')) g' 3 c' (zs ++ [x]) ∧
        Kept (fun k => k = h ∨ k = g) w (w1.setCell ⟨h, 0, none⟩ (.slice (some ⟨g', 0, none⟩) (n + 1) c')) := by
      refine ⟨by simpa using k1.set_ 0 (.slice (some ⟨g', 0, none⟩) (n + 1) c'), ?_, hK.setCell (.inl rfl) _⟩
      obtain ⟨cur, kc, hr⟩ := hq
      exact ⟨cur, kc.far hne _, hr⟩
    replace fin := Lib.hid fin
    replace k1 := Lib.hid k1
    replace hK := Lib.hid hK
    replace hq := Lib.hid hq
    replace hgs := Lib.hid hgs
    clear ho1 hg1 hat)
  refine bodyPost_end (v := .tuple #[]) (results_none rfl _ _ _) rfl ?_
  exact ⟨rfl, _, _, fin.out.1, fin.out.2.1, hgs.out, fin.out.2.2⟩

set_option maxHeartbeats 4000000 in
set_option maxRecDepth 100000 in
theorem pop1_any (h g c : Nat) (zs : List Int) (n : Nat) (w : World) (hn : zs.length = n + 1) (k : Blk w h 58 #[.slice (some ⟨g, 0, none⟩) (n + 1) c]) (hz : Qrow w g 3 c zs) (hgh : h ≠ g) (hc : n ≤ 200000000000) :
    Calls Tryd.prog 76 #[.pointer (some ⟨h, 0, none⟩)] w fun e w' => e = .returned (.iface 3 (.int .i64 (zs.getD n 0))) ∧ Blk w' h 58 #[.slice (some ⟨g, 0, none⟩) n c] ∧ Qrow w' g 3 c zs.dropLast ∧ Kept (fun k => k = h) w w' := by
  obtain ⟨cur, kg, hat⟩ := hz.at_
  have hcap : n + 1 ≤ c ∧ c ≤ maxLen := by
    obtain ⟨_, _, _, h2, h3, _⟩ := hz
    omega
  have q0 : w.cell? ⟨g, n, none⟩ = some (.int .i64 (zs.getD n 0)) := (kg.cell n).trans (hat n (by omega))
  have a0 : (⟨g, 0, none⟩ : Addr).add n = ⟨g, n, none⟩ := by unfold Addr.add; split <;> simp_all
  have c0 := k.cell0
  have f0 := k.frozen 0
  have hsub : (((n + 1 : Nat) : Int) - 1) = (n : Int) := by omega
  have fin : Blk (w.setCell ⟨h, 0, none⟩ (.slice (some ⟨g, 0, none⟩) n c)) h 58 #[.slice (some ⟨g, 0, none⟩) n c] ∧ Qrow (w.setCell ⟨h, 0, none⟩ (.slice (some ⟨g, 0, none⟩) n c)) g 3 c zs.dropLast ∧ Kept (fun k => k = h) w (w.setCell ⟨h, 0, none⟩ (.slice (some ⟨g, 0, none⟩) n c)) := by
    refine ⟨by simpa using k.set_ 0 (.slice (some ⟨g, 0, none⟩) n c), Qrow.pop ?_, (Kept.refl (fun k => k = h) w).setCell (p := ⟨h, 0, none⟩) rfl _⟩
    obtain ⟨cur, kc, hr⟩ := hz
    exact ⟨cur, kc.far (fun e => hgh e.symm) _, hr⟩
  generalize zs.getD n 0 = x at *
  have hl0 : ((0 : Int) ≤ (n : Int)) := by omega
  have hl1 : ((n : Int) < ((n + 1 : Nat) : Int)) := by omega
  have hl2 : ((n : Int) ≤ (c : Int)) := by omega
  obtain ⟨m, hm⟩ : ∃ m, m = n + 1 := ⟨_, rfl⟩
  rw [← hm] at hsub hl1 c0
  replace hm := Lib.hid hm
  replace fin := Lib.hid fin
  replace k := Lib.hid k
  replace kg := Lib.hid kg
  replace hz := Lib.hid hz
  replace hat := Lib.hid hat
  replace hn := Lib.hid hn
  go_enter Tryd.func76, Tryd.ntmps76
  go_wp2
  go_ret
  exact ⟨rfl, fin.out.1, fin.out.2.1, fin.out.2.2⟩

set_option maxHeartbeats 4000000 in
set_option maxRecDepth 100000 in
/-- heap.Push. -/
theorem hpush_any (h g c : Nat) (zs : List Int) (n : Nat) (x : Int) (w : World) (hn : zs.length = n) (k : Blk w h 58 #[.slice (some ⟨g, 0, none⟩) n c]) (hz : Qrow w g 3 c zs) (hgh : h ≠ g) (hc : n < 200000000000) :
    Calls Tryd.prog 27 #[.iface 57 (.pointer (some ⟨h, 0, none⟩)), .iface 3 (.int .i64 x)] w fun e w' => e = .returned (.tuple #[]) ∧ ∃ g' c' zs', zs'.Perm (x :: zs) ∧ Blk w' h 58 #[.slice (some ⟨g', 0, none⟩) (n + 1) c'] ∧ Qrow w' g' 3 c' zs' ∧
      (g' = g ∨ w.heap.size ≤ g') ∧ Kept (fun k => k = h ∨ k = g) w w' := by
  have hkl := k.lt
  replace hn := Lib.hid hn
  replace hz := Lib.hid hz
  replace k := Lib.hid k
  have hmp := fun W => m_push ⟨h, 0, none⟩ W
  go_enter Tryd.func27, Tryd.ntmps27
  go_wp2_with fail
  refine (push1_any h g c zs n x w hn.out k.out hz.out hgh (by omega)).mono ?_
  rintro e w1 ⟨rfl, g', c', k1, hz1, hg1, hK1⟩
  have hne : h ≠ g' := by rcases hg1 with e | e <;> omega
  have hlen : (zs ++ [x]).length = n + 1 := by rw [List.length_append, hn.out]; rfl
  have c1 := k1.cell0
  have hsub : (((n + 1 : Nat) : Int) - 1) = (n : Int) := by omega
  obtain ⟨m, hm⟩ : ∃ m, m = n + 1 := ⟨_, rfl⟩
  rw [← hm] at hsub c1 k1 hlen
  replace k1 := Lib.hid k1
  replace hz1 := Lib.hid hz1
  replace hK1 := Lib.hid hK1
  replace hg1 := Lib.hid hg1
  replace hm := Lib.hid hm
  clear hmp
  have hml := fun W hW => m_len ⟨h, 0, none⟩ (some ⟨g', 0, none⟩) m c' W hW
  go_wp2_with (go_at_call 28; refine (wlen_any (some ⟨g', 0, none⟩) m c' w1).mono ?_; rintro e w2 ⟨rfl, rfl⟩)
  refine (up_any h g' c' (zs ++ [x]) m n w1 hlen (by have := hm.out; omega) k1.out hz1.out hne (by have := hm.out; omega)).mono ?_
  rintro e w2 ⟨rfl, zs', hp, hz2, hK2⟩
  have k2 := k1.out.at_kept hK2 hne
  rw [hm.out] at k2
  replace hz2 := Lib.hid hz2
  replace k2 := Lib.hid k2
  replace hp := Lib.hid hp
  have hK := Lib.hid (hK1.out.trans hK2 (T := fun k => k = h ∨ k = g) (fun _ _ h => h) (fun i hi e => by rcases hg1.out with h1 | h1 <;> omega))
  clear hK2
  go_wp2
  refine bodyPost_end (v := .tuple #[]) (results_none rfl _ _ _) rfl ?_
  exact ⟨rfl, g', c', zs', hp.out.trans List.perm_append_comm, k2.out, hz2.out, hg1.out, hK.out⟩

theorem last_split {zs : List Int} {n : Nat} (h : zs.length = n + 1) : zs = zs.dropLast ++ [zs.getD n 0] := by
  have hne : zs ≠ [] := fun e => by rw [e] at h; simp at h
  have h1 := (List.dropLast_concat_getLast hne).symm
  rw [List.getLast_eq_getElem] at h1
  have h2 : zs.getD n 0 = zs[zs.length - 1]'(by omega) := by
    rw [List.getD_eq_getElem?_getD, List.getElem?_eq_getElem (by omega)]
    have e : zs.length - 1 = n := by omega
    simp [e]
  rw [h2]
  exact h1

set_option maxHeartbeats 4000000 in
set_option maxRecDepth 100000 in
/-- heap.Pop. -/
theorem hpop_any (h g c : Nat) (zs : List Int) (n : Nat) (w : World) (hn : zs.length = n + 1) (k : Blk w h 58 #[.slice (some ⟨g, 0, none⟩) (n + 1) c]) (hz : Qrow w g 3 c zs) (hgh : h ≠ g) (hc : n < 200000000000) :
    Calls Tryd.prog 29 #[.iface 57 (.pointer (some ⟨h, 0, none⟩))] w fun e w' => ∃ x zs', e = .returned (.iface 3 (.int .i64 x)) ∧ zs.Perm (x :: zs') ∧ Blk w' h 58 #[.slice (some ⟨g, 0, none⟩) n c] ∧ Qrow w' g 3 c zs' ∧ Kept (fun k => k = h ∨ k = g) w w' := by
  have hkl := k.lt
  have c0 := k.cell0
  have hsub : (((n + 1 : Nat) : Int) - 1) = (n : Int) := by omega
  obtain ⟨m, hm⟩ : ∃ m, m = n + 1 := ⟨_, rfl⟩
  have hnm : zs.length = m := by omega
  rw [← hm] at hsub c0 k
  replace hm := Lib.hid hm
  replace hn := Lib.hid hn
  replace hz := Lib.hid hz
  replace k := Lib.hid k
  have hml := fun W hW => m_len ⟨h, 0, none⟩ (some ⟨g, 0, none⟩) m c W hW
  have hms := fun W hW => m_swap ⟨h, 0, none⟩ (some ⟨g, 0, none⟩) m c W hW
  have hmp := fun W => m_pop ⟨h, 0, none⟩ W
  go_enter Tryd.func29, Tryd.ntmps29
  go_wp2_with (go_at_call 28; refine (wlen_any (some ⟨g, 0, none⟩) m c w).mono ?_; rintro e w2 ⟨rfl, rfl⟩)
  have hmo := hm.out
  refine (q_swap g c m zs 0 n w hnm (by omega) (by omega) hz.out).mono ?_
  rintro e w1 ⟨rfl, hz1, hK1⟩
  have hl1 : (swapL zs 0 n).length = m := (swapL_len _ _ _).trans hnm
  have hp1 := swapL_perm zs (i := 0) (j := n) (by omega) (by omega)
  clear hmo
  have k1 := k.out.at_kept hK1 hgh
  replace hz1 := Lib.hid hz1
  replace hK1 := Lib.hid hK1
  replace k1 := Lib.hid k1
  replace hp1 := Lib.hid hp1
  generalize swapL zs 0 n = zs1 at *
  clear c0
  go_wp2_with fail
  refine (down_any h g c zs1 m n w1 hl1 (by have := hm.out; omega) k1.out hz1.out hgh (by have := hm.out; omega)).mono ?_
  rintro e w2 ⟨⟨b, rfl⟩, zs2, hp2, hz2, hK2⟩
  have k2 := k1.out.at_kept hK2 hgh
  rw [hm.out] at k2
  have hl2 : zs2.length = n + 1 := (hp2.length_eq.trans hl1).trans hm.out
  have hK := Lib.hid (hK1.out.trans hK2 (T := fun k => k = h ∨ k = g) (fun _ _ h => .inr h) (fun _ _ h => .inr h))
  replace k2 := Lib.hid k2
  replace hz2 := Lib.hid hz2
  replace hp2 := Lib.hid (hp2.trans hp1.out)
  clear hK2
  go_wp2_with fail
  refine (pop1_any h g c zs2 n w2 hl2 k2.out hz2.out hgh (by omega)).mono ?_
  rintro e w3 ⟨rfl, k3, hz3, hK3⟩
  have hsp := last_split hl2
  have hK4 := Lib.hid (hK.out.trans hK3 (T := fun k => k = h ∨ k = g) (fun _ _ h => h) (fun _ _ h => .inl h))
  have hfin : zs.Perm (zs2.getD n 0 :: zs2.dropLast) := by
    refine hp2.out.symm.trans ?_
    rw [hsp]
    have e1 : (zs2.dropLast ++ [zs2.getD n 0]).getD n 0 = zs2.getD n 0 := by rw [← hsp]
    have e2 : (zs2.dropLast ++ [zs2.getD n 0]).dropLast = zs2.dropLast := by rw [← hsp]
    rw [e1, e2]
    exact List.perm_append_comm
  clear hsp
  generalize zs2.getD n 0 = x at *
  generalize zs2.dropLast = zs3 at *
  replace k3 := Lib.hid k3
  replace hz3 := Lib.hid hz3
  replace hfin := Lib.hid hfin
  clear hK3
  go_wp2
  go_ret
  exact ⟨x, zs3, rfl, hfin.out, k3.out, hz3.out, hK4.out⟩
end Go.Proofs.YtleckdbdhkgcpaaDoor
