/- put: what waits, by a map and a queue. -/
import Derived.Maps.OwnSet
import Derived.WalkArith
import Derived.Test.YtleckdbdhkgcpaaDoorHr
namespace Go.Idl
open Go Go.RowKit

theorem putW_perm {W V : List Nat} (h : W.Perm V) (i : Nat) : (putW W i).Perm (putW V i) := by
  unfold putW
  by_cases hm : i ∈ W
  · rw [if_pos hm, if_pos (h.mem_iff.1 hm)]; exact h
  · rw [if_neg hm, if_neg (fun e => hm (h.mem_iff.2 e))]; exact h.append_right _
theorem putW_fold_perm : ∀ (U : List Nat) {W V : List Nat}, W.Perm V → (U.foldl putW W).Perm (U.foldl putW V)
  | [], _, _, h => h
  | u :: r, _, _, h => putW_fold_perm r (putW_perm h u)
theorem casts_len (W : List Nat) : (casts W).length = W.length := by simp [casts]
theorem nat_wf {i : Nat} (h : i < 4611686018427387904) : (Lit.int .i64 (i : Nat)).wf = true := by
  exact WalkArith.wf_i64 (by omega)
theorem mem_putW {W : List Nat} {i j : Nat} : j ∈ putW W i ↔ j ∈ W ∨ j = i := by
  unfold putW
  by_cases hm : i ∈ W
  · rw [if_pos hm]
    exact ⟨.inl, fun h => h.elim id (fun e => e ▸ hm)⟩
  · rw [if_neg hm]; simp

/-- How often each that waits was put; none that does not. -/
def WaitsD (D : DataW Unit) (T : Nat) (W : List Nat) : Prop :=
  ∀ i : Nat, i < 4611686018427387904 → ∃ q : Nat, q ≤ T ∧ D.atKey (.int .i64 (i : Nat)) (.lit (.int .i64 0)) = .lit (.int .i64 (q : Nat)) ∧ (q = 0 ↔ i ∉ W)
theorem key_ne {i j : Nat} (h : j ≠ i) : Lit.int .i64 (j : Nat) ≠ Lit.int .i64 (i : Nat) := by
  intro e
  injection e with _ e
  omega
theorem WaitsD.start : WaitsD (.map []) 0 [] := fun i _ => ⟨0, Nat.le_refl _, rfl, by simp⟩
theorem WaitsD.put {D : DataW Unit} {T : Nat} {W V : List Nat} (h : WaitsD D T W) (hm : Maps.IsMap D) {i q : Nat} (hV : V.Perm (putW W i)) (hq : q ≤ T) : WaitsD (D.put (.int .i64 (i : Nat)) (.lit (.int .i64 ((q + 1 : Nat) : Int)))) (T + 1) V := by
  intro j hj
  by_cases e : j = i
  · subst e
    refine ⟨q + 1, by omega, Maps.atKey_put_same hm (by trivial) _ _, ?_⟩
    rw [hV.mem_iff, mem_putW]
    simp
  · obtain ⟨p, h1, h2, h3⟩ := h j hj
    refine ⟨p, by omega, (Maps.atKey_put_other (key_ne e) _ _).trans h2, ?_⟩
    rw [hV.mem_iff, mem_putW, h3]
    simp [e]
theorem WaitsD.del {D : DataW Unit} {T : Nat} {W V : List Nat} (h : WaitsD D T W) {i : Nat} (hn : W.Nodup) (hp : W.Perm (i :: V)) : WaitsD (D.del (.int .i64 (i : Nat))) T V := by
  intro j hj
  have hnd := List.nodup_cons.1 ((hp.nodup_iff).1 hn)
  by_cases e : j = i
  · subst e
    exact ⟨0, by omega, Maps.atKey_del_same _, by simp [hnd.1]⟩
  · obtain ⟨p, h1, h2, h3⟩ := h j hj
    refine ⟨p, h1, (Maps.atKey_del_other (key_ne e) _).trans h2, ?_⟩
    rw [h3, hp.mem_iff]
    simp [e]
end Go.Idl
namespace Go.Proofs.YtleckdbdhkgcpaaDoor
open Go.RowKit Go.Shelf Go.Idl Go.Maps

theorem klaw : Keyed Tryd.prog 3 := int_keyed Tryd.underlying3
theorem kzero (w : World) : (zeroValue 3).run Tryd.prog w = .ok (.int .i64 0) w := by kernel_rfl

def WaitsM (w : World) (mb T : Nat) (W : List Nat) : Prop :=
  ∃ D : DataW Unit, w.ownsMap Tryd.prog 3 (plainElem Tryd.prog 3) mb T D ∧ WaitsD D T W

/-- What waits, in memory. -/
structure Qs (w : World) (mv wv mb h g c : Nat) (W : List Nat) (T : Nat) : Prop where
  mvk : Blk w mv 59 #[.map (some mb)]
  wvk : Blk w wv 57 #[.pointer (some ⟨h, 0, none⟩)]
  hk : Blk w h 58 #[.slice (some ⟨g, 0, none⟩) W.length c]
  row : Qrow w g 3 c (casts W)
  map : WaitsM w mb T W

theorem map_ne {w : World} {mb T g : Nat} {W : List Nat} {t : TypeId} {cs : Array Value} (m : WaitsM w mb T W) (k : Blk w g t cs) : g ≠ mb := by
  obtain ⟨D, ⟨es, clock, hb, _⟩, _⟩ := m
  rintro rfl
  unfold Blk at k
  rw [k] at hb
  cases hb
theorem WaitsM.kept {w w' : World} {mb T : Nat} {W : List Nat} {S : Nat → Prop} (m : WaitsM w mb T W) (k : Kept S w w') (hn : ¬ S mb) : WaitsM w' mb T W := by
  obtain ⟨D, ho, hr⟩ := m
  exact ⟨D, map_kept ho k hn, hr⟩
theorem row_ne {w : World} {g e c g' : Nat} {zs : List Int} {t : TypeId} {cs : Array Value} (q : Qrow w g e c zs) (k : Blk w g' t cs) (hne : t ≠ e) : g' ≠ g := by
  obtain ⟨cur, kc, _⟩ := q
  exact k.ne_ kc hne
theorem Qs.ne {w : World} {mv wv mb h g c T : Nat} {W : List Nat} (q : Qs w mv wv mb h g c W T) : mv ≠ h ∧ mv ≠ g ∧ mv ≠ mb ∧ wv ≠ h ∧ wv ≠ g ∧ wv ≠ mb ∧ h ≠ g ∧ h ≠ mb ∧ g ≠ mb := by
  obtain ⟨cur, kc, _⟩ := q.row
  exact ⟨q.mvk.ne_ q.hk (by decide), q.mvk.ne_ kc (by decide), map_ne q.map q.mvk, q.wvk.ne_ q.hk (by decide), q.wvk.ne_ kc (by decide), map_ne q.map q.wvk, q.hk.ne_ kc (by decide), map_ne q.map q.hk, map_ne q.map kc⟩
theorem Qs.kept {w w' : World} {mv wv mb h g c T : Nat} {W : List Nat} {S : Nat → Prop} (q : Qs w mv wv mb h g c W T) (k : Kept S w w') (h1 : ¬ S mv) (h2 : ¬ S wv) (h3 : ¬ S mb) (h4 : ¬ S h) (h5 : ¬ S g) : Qs w' mv wv mb h g c W T :=
  ⟨q.mvk.at_kept k h1, q.wvk.at_kept k h2, q.hk.at_kept k h4, q.row.kept k h5, q.map.kept k h3⟩

/-- What a put comes to. -/
def PutPost (mv wv mb h g : Nat) (W : List Nat) (T i : Nat) (w w' : World) : Prop :=
  ∃ W' g' c', W'.Perm (putW W i) ∧ Qs w' mv wv mb h g' c' W' (T + 1) ∧ (g' = g ∨ w.heap.size ≤ g') ∧ Kept (fun k => k = mb ∨ k = h ∨ k = g) w w'

set_option maxHeartbeats 4000000 in
set_option maxRecDepth 100000 in
theorem put_any (mv wv mb h g c : Nat) (W : List Nat) (T i : Nat) (w : World) (q : Qs w mv wv mb h g c W T) (hW : W.length < 200000000000) (hi : i < 4611686018427387904) (hT : T + 1 < 4611686018427387904) :
    Calls Tryd.prog 26 #[.int .i64 (i : Nat), .pointer (some ⟨mv, 0, none⟩), .pointer (some ⟨wv, 0, none⟩)] w fun e w' => e = .returned (.tuple #[]) ∧ PutPost mv wv mb h g W T i w w' := by
  obtain ⟨n1, n2, n3, n4, n5, n6, n7, n8, n9⟩ := q.ne
  obtain ⟨qmv, qwv, qh, qrow, D, hown, hD⟩ := q
  obtain ⟨q, hqT, hat0, hq0⟩ := hD i hi
  have hkey : keyOf Tryd.prog 3 (.int .i64 (i : Nat)) = some (.int .i64 (i : Nat)) := keyOf_int_mk Tryd.underlying3 (nat_wf hi)
  have hml : maxLen = 9223372036854775807 := rfl
  have c0 := qmv.cell0
  have d0 := qwv.cell0
  have hwf : (Lit.int .i64 ((q : Int) + 1)).wf = true := nat_wf (i := q + 1) (by omega)
  have hput : ∀ V : List Nat, V.Perm (putW W i) → WaitsD (D.put (.int .i64 (i : Nat)) (.lit (.int .i64 ((q : Int) + 1)))) (T + 1) V := fun V hV => WaitsD.put hD hown.isMap hV hqT
  have hat1 : (D.put (.int .i64 (i : Nat)) (.lit (.int .i64 ((q : Int) + 1)))).atKey (.int .i64 (i : Nat)) (.lit (.int .i64 0)) = .lit (.int .i64 ((q : Int) + 1)) := Maps.atKey_put_same hown.isMap (by trivial) _ _
  -- behind the store
  have hafter : ∀ (w1 : World), w1.ownsMap Tryd.prog 3 (plainElem Tryd.prog 3) mb (T + 1) (D.put (.int .i64 (i : Nat)) (.lit (.int .i64 ((q : Int) + 1)))) → w.grownBy w1 (some mb) →
      Kept (fun k => k = mb) w w1 ∧ w1.cell? ⟨mv, 0, none⟩ = some (.map (some mb)) ∧ w1.cell? ⟨wv, 0, none⟩ = some (.pointer (some ⟨h, 0, none⟩)) ∧
      Sem.run Tryd.prog (Instr.lookup 59 (.map (some mb)) (.int .i64 (i : Nat)) false) w1 = .ok (.int .i64 ((q : Int) + 1)) w1 := by
    intro w1 ho hg
    obtain ⟨c1, hrun, hc1, _⟩ := ho.lookup_int klaw Tryd.underlying59 Tryd.underlying3 (kzero _) hkey
    rw [hat1] at hc1
    injection hc1 with hc1
    injection hc1 with _ hc1
    rw [← hc1] at hrun
    have hK : Kept (fun k => k = mb) w w1 := Kept.of_grown hg fun g e => (Option.some.inj e).symm
    exact ⟨hK, (qmv.at_kept hK n3).cell0, (qwv.at_kept hK n6).cell0, hrun⟩
  replace hafter := Lib.hid hafter
  replace hput := Lib.hid hput
  replace hD := Lib.hid hD
  replace qrow := Lib.hid qrow
  replace qmv := Lib.hid qmv
  replace qwv := Lib.hid qwv
  replace qh := Lib.hid qh
  replace hq0 := Lib.hid hq0
  replace hat0 := Lib.hid hat0
  replace hat1 := Lib.hid hat1
  by_cases hm : i ∈ W
  · have hq : q ≠ 0 := fun e => (hq0.out.1 e) hm
    have hne : (((q : Int) + 1) == 1) = false := by simp; omega
    have hpw : putW W i = W := if_pos hm
    replace hpw := Lib.hid hpw
    go_enter Tryd.func26, Tryd.ntmps26
    go_wp2_with (first
      | (at_lookup
         refine wpList_lookup_own_int w rfl _ _ 59 rfl 3 3 .i64 klaw Tryd.underlying59 Tryd.underlying3 (kzero _) mb T D rfl hown _ _ rfl hkey ?_
         intro c1 hc1 hwc1
         rw [hat0.out] at hc1
         injection hc1 with hc1
         injection hc1 with _ hc1
         subst hc1)
      | (at_mapUpdate
         refine wpList_mapUpdate_own w rfl _ _ _ 59 rfl 3 3 klaw Tryd.underlying59 _ mb T D rfl hown (by rw [hml]; omega) _ _ _ rfl rfl hkey _ [] (plainElem_int Tryd.underlying3 hwf) ?_
         intro w1 ho1 hg1
         obtain ⟨hK1, e1, e2, e3⟩ := hafter.out w1 ho1 hg1
         replace hK1 := Lib.hid hK1
         replace ho1 := Lib.hid ho1
         clear hg1)
      | fail)
    refine bodyPost_end (v := .tuple #[]) (results_none rfl _ _ _) rfl ?_
    refine ⟨rfl, W, g, c, by rw [hpw.out], ⟨qmv.out.at_kept hK1.out n3, qwv.out.at_kept hK1.out n6, qh.out.at_kept hK1.out n8, qrow.out.kept hK1.out n9, _, ho1.out, hput.out W (by rw [hpw.out])⟩, .inl rfl, hK1.out.mono fun _ _ h => .inl h⟩
  · have hq : q = 0 := Classical.byContradiction fun e => hm (Classical.byContradiction fun h => e (hq0.out.2 h))
    have hne : (((q : Int) + 1) == 1) = true := by rw [hq]; rfl
    have hpw : putW W i = W ++ [i] := if_neg hm
    replace hpw := Lib.hid hpw
    replace hq := Lib.hid hq
    go_enter Tryd.func26, Tryd.ntmps26
    go_wp2_with (first
      | (at_lookup
         refine wpList_lookup_own_int w rfl _ _ 59 rfl 3 3 .i64 klaw Tryd.underlying59 Tryd.underlying3 (kzero _) mb T D rfl hown _ _ rfl hkey ?_
         intro c1 hc1 hwc1
         rw [hat0.out] at hc1
         injection hc1 with hc1
         injection hc1 with _ hc1
         subst hc1)
      | (at_mapUpdate
         refine wpList_mapUpdate_own w rfl _ _ _ 59 rfl 3 3 klaw Tryd.underlying59 _ mb T D rfl hown (by rw [hml]; omega) _ _ _ rfl rfl hkey _ [] (plainElem_int Tryd.underlying3 hwf) ?_
         intro w1 ho1 hg1
         obtain ⟨hK1, e1, e2, e3⟩ := hafter.out w1 ho1 hg1
         replace hK1 := Lib.hid hK1
         replace ho1 := Lib.hid ho1
         clear hg1)
      | fail)
    have hl := casts_len W
    have k1 := qh.out.at_kept hK1.out n8
    have z1 := qrow.out.kept hK1.out n9
    refine (hpush_any h g c (casts W) W.length (i : Int) w1 hl k1 z1 n7 hW).mono ?_
    rintro e w2 ⟨rfl, g', c', zs', hp, k2, z2, hg2, hK2⟩
    have hsz := hK1.out.size
    have hK := hK1.out.trans hK2 (T := fun k => k = mb ∨ k = h ∨ k = g) (fun _ _ h => .inl h) (fun _ _ h => .inr h)
    have hcs : (i : Int) :: casts W = casts (i :: W) := rfl
    rw [hcs] at hp
    obtain ⟨W', rfl, hpW⟩ := perm_casts hp
    have hpW2 : W'.Perm (putW W i) := by rw [hpw.out]; exact hpW.trans (List.perm_append_comm (l₁ := [i]) (l₂ := W))
    have hl2 : W.length + 1 = W'.length := by rw [hpW.length_eq]; rfl
    rw [hl2] at k2
    have fin : PutPost mv wv mb h g W T i w w2 := ⟨W', g', c', hpW2, ⟨(qmv.out.at_kept hK1.out n3).at_kept hK2 (fun e => e.elim n1 n2), (qwv.out.at_kept hK1.out n6).at_kept hK2 (fun e => e.elim n4 n5), k2, z2, _, map_kept ho1.out hK2 (fun e => e.elim (fun e => n8 e.symm) (fun e => n9 e.symm)), hput.out W' hpW2⟩,
      hg2.imp id (fun e => by omega), hK⟩
    replace fin := Lib.hid fin
    clear hK2 hK k2 z2 hp hpW hpW2
    go_wp2
    refine bodyPost_end (v := .tuple #[]) (results_none rfl _ _ _) rfl ?_
    exact ⟨rfl, fin.out⟩
end Go.Proofs.YtleckdbdhkgcpaaDoor
