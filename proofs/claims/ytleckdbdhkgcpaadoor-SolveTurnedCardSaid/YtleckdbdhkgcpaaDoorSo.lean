/- Plain laws of systems of equations between labels. -/
import Derived.Test.YtleckdbdhkgcpaaDoorSy
namespace Go.Idl

theorem le_refl_of {up : List Nat} (h : Lat up) {a : Lb} (ha : Gd up a) : leL up a a = true := by
  simp only [leL, Bool.and_eq_true]
  exact ⟨h.rf _ ha.lt, subB_iff.2 fun _ h => h⟩
theorem leL_trans {up : List Nat} (h : Lat up) {a b c : Lb} (ha : Gd up a) (hb : Gd up b) (h1 : leL up a b = true) (h2 : leL up b c = true) : leL up a c = true := by
  simp only [leL, Bool.and_eq_true, subB_iff] at *
  exact ⟨h.tr _ _ _ ha.lt hb.lt h1.1 h2.1, fun i hi => h2.2 i (h1.2 i hi)⟩
theorem leL_antisymm {up : List Nat} (h : Lat up) {a b : Lb} (ha : Gd up a) (hb : Gd up b) (h1 : leL up a b = true) (h2 : leL up b a = true) : a = b := by
  simp only [leL, Bool.and_eq_true, subB_iff] at *
  have e1 := h.an _ _ ha.lt hb.lt h1.1 h2.1
  have e2 : a.ms = b.ms := Nat.eq_of_testBit_eq fun i => by
    rw [Bool.eq_iff_iff]; exact ⟨h1.2 i, h2.2 i⟩
  have e3 : a.lv = b.lv := by rw [ha.eq, hb.eq, e1]
  cases a; cases b; simp only at e2 e3; rw [e2, e3]
theorem leL_joinL {up : List Nat} (h : Lat up) {a b c : Lb} (ha : Gd up a) (hb : Gd up b) (hc : Gd up c) : leL up (joinL up a b) c = true ↔ leL up a c = true ∧ leL up b c = true := by
  simp only [leL, Bool.and_eq_true, subB_iff]
  rw [h.joinL_lv ha hb, Int.toNat_natCast, h.le_jn ha.lt hb.lt hc.lt]
  show _ ∧ (∀ i, (a.ms ||| b.ms).testBit i = true → _) ↔ _
  simp only [Nat.testBit_or, Bool.or_eq_true]
  constructor
  · rintro ⟨⟨h1, h2⟩, h3⟩
    exact ⟨⟨h1, fun i hi => h3 i (.inl hi)⟩, h2, fun i hi => h3 i (.inr hi)⟩
  · rintro ⟨⟨h1, h3⟩, h2, h4⟩
    exact ⟨⟨h1, h2⟩, fun i hi => hi.elim (h3 i) (h4 i)⟩
theorem le_joinL_left {up : List Nat} (h : Lat up) {a b : Lb} (ha : Gd up a) (hb : Gd up b) : leL up a (joinL up a b) = true :=
  ((leL_joinL h ha hb (h.joinL_gd ha hb)).1 (le_refl_of h (h.joinL_gd ha hb))).1
theorem le_joinL_right {up : List Nat} (h : Lat up) {a b : Lb} (ha : Gd up a) (hb : Gd up b) : leL up b (joinL up a b) = true :=
  ((leL_joinL h ha hb (h.joinL_gd ha hb)).1 (le_refl_of h (h.joinL_gd ha hb))).2

def z0 : Lb := ⟨0, 0⟩
/-- What an equation says. -/
def valTo (up : List Nat) (c : Lb) (ns : List Nat) (l : List Lb) : Lb := ns.foldl (fun v k => joinL up v (l.getD k z0)) c
def valF (up : List Nat) (consts : List Lb) (needs : List (List Nat)) (l : List Lb) (i : Nat) : Lb := valTo up (consts.getD i z0) (needs.getD i []) l

/-- A system that may be, over a lattice. -/
structure Sys (up : List Nat) (consts : List Lb) (needs : List (List Nat)) : Prop where
  lat : Lat up
  len : needs.length = consts.length
  gd : ∀ i, i < consts.length → Gd up (consts.getD i z0)
  nd : ∀ i, i < consts.length → ∀ k ∈ needs.getD i [], k < consts.length

/-- Labels, one a value. -/
structure Lbs (up : List Nat) (n : Nat) (l : List Lb) : Prop where
  len : l.length = n
  gd : ∀ i, i < n → Gd up (l.getD i z0)

def Under (up : List Nat) (n : Nat) (l m : List Lb) : Prop := ∀ i, i < n → leL up (l.getD i z0) (m.getD i z0) = true

theorem valTo_gd {up : List Nat} (h : Lat up) {n : Nat} {l : List Lb} (hl : Lbs up n l) : ∀ (ns : List Nat) (c : Lb), Gd up c → (∀ k ∈ ns, k < n) → Gd up (valTo up c ns l)
  | [], _, hc, _ => hc
  | k :: r, c, hc, hn => valTo_gd h hl r _ (h.joinL_gd hc (hl.gd k (hn k (by simp)))) fun j hj => hn j (by simp [hj])
theorem valTo_le {up : List Nat} (h : Lat up) {n : Nat} {l : List Lb} (hl : Lbs up n l) {x : Lb} (hx : Gd up x) : ∀ (ns : List Nat) (c : Lb), Gd up c → (∀ k ∈ ns, k < n) →
    (leL up (valTo up c ns l) x = true ↔ leL up c x = true ∧ ∀ k ∈ ns, leL up (l.getD k z0) x = true)
  | [], c, _, _ => by simp [valTo]
  | k :: r, c, hc, hn => by
    have hk := hl.gd k (hn k (by simp))
    show leL up (valTo up (joinL up c (l.getD k z0)) r l) x = true ↔ _
    rw [valTo_le h hl hx r _ (h.joinL_gd hc hk) (fun j hj => hn j (by simp [hj])), leL_joinL h hc hk hx]
    simp only [List.mem_cons, forall_eq_or_imp]
    exact and_assoc

section
variable {up : List Nat} {consts : List Lb} {needs : List (List Nat)}
theorem Sys.val_gd (S : Sys up consts needs) {l : List Lb} (hl : Lbs up consts.length l) {i : Nat} (hi : i < consts.length) : Gd up (valF up consts needs l i) := valTo_gd S.lat hl _ _ (S.gd i hi) (S.nd i hi)
theorem Sys.val_le (S : Sys up consts needs) {l : List Lb} (hl : Lbs up consts.length l) {i : Nat} (hi : i < consts.length) {x : Lb} (hx : Gd up x) :
    leL up (valF up consts needs l i) x = true ↔ leL up (consts.getD i z0) x = true ∧ ∀ k ∈ needs.getD i [], leL up (l.getD k z0) x = true := valTo_le S.lat hl hx _ _ (S.gd i hi) (S.nd i hi)
theorem Sys.val_mono (S : Sys up consts needs) {l m : List Lb} (hl : Lbs up consts.length l) (hm : Lbs up consts.length m) (hu : Under up consts.length l m) {i : Nat} (hi : i < consts.length) :
    leL up (valF up consts needs l i) (valF up consts needs m i) = true := by
  have hgm := S.val_gd hm hi
  rw [S.val_le hl hi hgm]
  have := (S.val_le hm hi hgm).1 (le_refl_of S.lat hgm)
  exact ⟨this.1, fun k hk => leL_trans S.lat (hl.gd k (S.nd i hi k hk)) (hm.gd k (S.nd i hi k hk)) (hu k (S.nd i hi k hk)) (this.2 k hk)⟩

/-- Labels that bound the system. -/
def BoundF (up : List Nat) (consts : List Lb) (needs : List (List Nat)) (m : List Lb) : Prop := Lbs up consts.length m ∧ ∀ i, i < consts.length → leL up (valF up consts needs m i) (m.getD i z0) = true

/-- The least solution. -/
structure Least (up : List Nat) (consts : List Lb) (needs : List (List Nat)) (l : List Lb) : Prop where
  lbs : Lbs up consts.length l
  sol : ∀ i, i < consts.length → valF up consts needs l i = l.getD i z0
  low : ∀ m, BoundF up consts needs m → Under up consts.length l m

theorem Least.bound (S : Sys up consts needs) {l : List Lb} (h : Least up consts needs l) : BoundF up consts needs l :=
  ⟨h.lbs, fun i hi => by rw [h.sol i hi]; exact le_refl_of S.lat (h.lbs.gd i hi)⟩
theorem lb_ext {l m : List Lb} (hl : l.length = m.length) (h : ∀ i, i < l.length → l.getD i z0 = m.getD i z0) : l = m := by
  apply List.ext_getElem hl
  intro i h1 h2
  have := h i h1
  rw [List.getD_eq_getElem?_getD, List.getD_eq_getElem?_getD, List.getElem?_eq_getElem h1, List.getElem?_eq_getElem h2] at this
  exact this
theorem Least.unique (S : Sys up consts needs) {l m : List Lb} (h : Least up consts needs l) (k : Least up consts needs m) : l = m :=
  lb_ext (h.lbs.len.trans k.lbs.len.symm) fun i hi => by
    rw [h.lbs.len] at hi
    exact leL_antisymm S.lat (h.lbs.gd i hi) (k.lbs.gd i hi) (h.low m (k.bound S) i hi) (k.low l (h.bound S) i hi)

/-- On the way to it. -/
structure Toward (up : List Nat) (consts : List Lb) (needs : List (List Nat)) (l : List Lb) : Prop where
  lbs : Lbs up consts.length l
  inf : ∀ i, i < consts.length → leL up (l.getD i z0) (valF up consts needs l i) = true
  low : ∀ m, BoundF up consts needs m → Under up consts.length l m

theorem Toward.start (S : Sys up consts needs) : Toward up consts needs consts := by
  have hl : Lbs up consts.length consts := ⟨rfl, S.gd⟩
  refine ⟨hl, fun i hi => ?_, fun m hm i hi => ?_⟩
  · have hg := S.val_gd hl hi
    exact ((S.val_le hl hi hg).1 (le_refl_of S.lat hg)).1
  · exact ((S.val_le hm.1 hi (hm.1.gd i hi)).1 (hm.2 i hi)).1

theorem getD_setL (l : List Lb) (i j : Nat) (v : Lb) : (l.set i v).getD j z0 = if i = j ∧ i < l.length then v else l.getD j z0 := by
  rw [List.getD_eq_getElem?_getD, List.getD_eq_getElem?_getD, List.getElem?_set]
  by_cases h : i = j
  · subst h
    by_cases h2 : i < l.length
    · simp [h2]
    · simp [h2]
  · simp [h]

theorem Toward.step (S : Sys up consts needs) {l : List Lb} (h : Toward up consts needs l) {i : Nat} (hi : i < consts.length) : Toward up consts needs (l.set i (valF up consts needs l i)) ∧ Under up consts.length l (l.set i (valF up consts needs l i)) := by
  have hv := S.val_gd h.lbs hi
  have hil : i < l.length := by rw [h.lbs.len]; exact hi
  have hg : ∀ j, (l.set i (valF up consts needs l i)).getD j z0 = if i = j then valF up consts needs l i else l.getD j z0 := fun j => by
    rw [getD_setL]
    by_cases e : i = j
    · rw [if_pos ⟨e, hil⟩, if_pos e]
    · rw [if_neg (fun h0 => e h0.1), if_neg e]
  have hl' : Lbs up consts.length (l.set i (valF up consts needs l i)) := ⟨by rw [List.length_set]; exact h.lbs.len, fun j hj => by
    rw [hg j]
    split
    · exact hv
    · exact h.lbs.gd j hj⟩
  have hu : Under up consts.length l (l.set i (valF up consts needs l i)) := fun j hj => by
    rw [hg j]
    split
    · rename_i e; subst e; exact h.inf i hi
    · exact le_refl_of S.lat (h.lbs.gd j hj)
  refine ⟨⟨hl', fun j hj => ?_, fun m hm j hj => ?_⟩, hu⟩
  · have hm := S.val_mono h.lbs hl' hu hj
    rw [hg j]
    split
    · rename_i e; subst e; exact hm
    · exact leL_trans S.lat (h.lbs.gd j hj) (S.val_gd h.lbs hj) (h.inf j hj) hm
  · rw [hg j]
    split
    · rename_i e; subst e
      exact leL_trans S.lat hv (S.val_gd hm.1 hi) (S.val_mono h.lbs hm.1 (h.low m hm) hi) (hm.2 i hi)
    · exact h.low m hm j hj

theorem Toward.least {l : List Lb} (h : Toward up consts needs l) (hs : ∀ i, i < consts.length → valF up consts needs l i = l.getD i z0) : Least up consts needs l := ⟨h.lbs, hs, h.low⟩
end

/-! ### how high a label stands -/
def rk (up : List Nat) (a : Lb) : Nat := (heightN up - hgt up a.lv.toNat) + countN a.ms
theorem rk_le (up : List Nat) (a : Lb) : rk up a ≤ heightN up + 64 := by
  have := countN_le a.ms
  unfold rk; omega
theorem countN_mono {a b : Nat} (h : ∀ i, a.testBit i = true → b.testBit i = true) : countN a ≤ countN b := cnt_mono fun i _ => h i
theorem countN_lt {a b : Nat} (hb : b < 2 ^ 64) (h : ∀ i, a.testBit i = true → b.testBit i = true) (hne : a ≠ b) : countN a < countN b := by
  have : ∃ k, b.testBit k = true ∧ a.testBit k = false := by
    apply Classical.byContradiction
    intro hn
    apply hne
    apply Nat.eq_of_testBit_eq
    intro i
    cases ha : a.testBit i with
    | true => rw [h i ha]
    | false =>
      cases hbi : b.testBit i with
      | false => rfl
      | true => exact absurd ⟨i, hbi, ha⟩ hn
  obtain ⟨k, h1, h2⟩ := this
  exact cnt_lt (fun i _ => h i) (tb_lt hb h1) h1 h2
theorem Lat.hgt_lt {up : List Nat} (h : Lat up) {a b : Nat} (ha : a < up.length) (hab : above up a b = true) : hgt up b < hgt up a := by
  rw [h.hgt_eq ha]
  have hab' := hab
  simp only [above, Bool.and_eq_true] at hab'
  exact le_sup (f := fun b => hgt up b + 1) (h.le_lt hab'.2).2 hab
theorem hgt_le_height {up : List Nat} {a : Nat} (ha : a < up.length) : hgt up a ≤ heightN up := le_sup (p := fun _ => true) (f := hgt up) ha rfl
theorem Lat.rk_lt {up : List Nat} (h : Lat up) {a b : Lb} (ha : Gd up a) (hb : Gd up b) (hm : b.ms < 2 ^ 64) (hl : leL up a b = true) (hne : a ≠ b) : rk up a < rk up b := by
  simp only [leL, Bool.and_eq_true, subB_iff] at hl
  unfold rk
  have h1 := hgt_le_height ha.lt
  have hc := countN_mono hl.2
  by_cases e : a.lv.toNat = b.lv.toNat
  · have : a.ms ≠ b.ms := by
      intro e2
      apply hne
      have e3 : a.lv = b.lv := by rw [ha.eq, hb.eq, e]
      cases a; cases b; simp only at e2 e3; rw [e2, e3]
    have := countN_lt hm hl.2 this
    rw [e]; omega
  · have := h.hgt_lt ha.lt (b := b.lv.toNat) (by simp [above, hl.1]; exact e)
    omega

end Go.Idl
