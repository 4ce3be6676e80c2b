/- Plain laws: the masks that pairs make, as the program makes them and as the document does. -/
import Derived.Test.YtleckdbdhkgcpaaDoorCv
namespace Go.Idl

def ws (k : Nat) (up : List Nat) (i : Nat) : List Nat := if (up.getD i 0).testBit k = true then up.set i (up.getD i 0 ||| up.getD k 0) else up
def wk (n : Nat) (up : List Nat) (k : Nat) : List Nat := (List.range n).foldl (ws k) up
def wars (n : Nat) (up : List Nat) : List Nat := (List.range n).foldl (wk n) up

theorem foldl_range_succ {α : Type} (f : α → Nat → α) (a : α) (n : Nat) : (List.range (n + 1)).foldl f a = f ((List.range n).foldl f a) n := by
  rw [List.range_succ, List.foldl_append]; rfl

theorem ws_length (k : Nat) (up : List Nat) (i : Nat) : (ws k up i).length = up.length := by
  unfold ws; split <;> simp

theorem ws_getD (k : Nat) (up : List Nat) (i j : Nat) : (ws k up i).getD j 0 = if i = j ∧ (up.getD i 0).testBit k = true ∧ i < up.length then up.getD i 0 ||| up.getD k 0 else up.getD j 0 := by
  unfold ws
  by_cases h : (up.getD i 0).testBit k = true
  · rw [if_pos h, getD_set]
    by_cases h2 : i = j ∧ i < up.length
    · rw [if_pos h2, if_pos ⟨h2.1, h, h2.2⟩]
    · rw [if_neg h2, if_neg (fun h3 => h2 ⟨h3.1, h3.2.2⟩)]
  · rw [if_neg h, if_neg (fun h3 => h h3.2.1)]

/-- One step of the program's: row k stands; each row that has k has all that k has. -/
theorem wk_spec (up : List Nat) (k : Nat) : ∀ m, m ≤ up.length → ((List.range m).foldl (ws k) up).length = up.length ∧
    ∀ j, ((List.range m).foldl (ws k) up).getD j 0 = if j < m ∧ (up.getD j 0).testBit k = true then up.getD j 0 ||| up.getD k 0 else up.getD j 0
  | 0, _ => ⟨rfl, fun j => by simp⟩
  | m + 1, hm => by
    obtain ⟨hl, hg⟩ := wk_spec up k m (by omega)
    rw [foldl_range_succ]
    refine ⟨by rw [ws_length, hl], fun j => ?_⟩
    have hk : ((List.range m).foldl (ws k) up).getD k 0 = up.getD k 0 := by
      rw [hg k]
      split
      · rename_i h; simp
      · rfl
    have hmm : ((List.range m).foldl (ws k) up).getD m 0 = up.getD m 0 := by
      rw [hg m, if_neg (by omega)]
    rw [ws_getD, hk, hmm, hl, hg j]
    by_cases h : m = j
    · subst h
      by_cases h2 : (up.getD m 0).testBit k = true
      · rw [if_pos ⟨rfl, h2, by omega⟩, if_pos ⟨by omega, h2⟩]
      · rw [if_neg (fun h3 => h2 h3.2.1), if_neg (by omega), if_neg (fun h3 => h2 h3.2)]
    · rw [if_neg (fun h3 => h h3.1)]
      by_cases h2 : j < m ∧ (up.getD j 0).testBit k = true
      · rw [if_pos h2, if_pos ⟨by omega, h2.2⟩]
      · rw [if_neg h2, if_neg (fun h3 => h2 ⟨by omega, h3.2⟩)]

theorem le_wk {n : Nat} {up : List Nat} (hl : up.length = n) (k : Nat) : (wk n up k).length = n ∧
    ∀ a b, a < n → (le (wk n up k) a b = true ↔ le up a b = true ∨ (le up a k = true ∧ le up k b = true)) := by
  obtain ⟨h1, h2⟩ := wk_spec up k n (by omega)
  refine ⟨h1.trans hl, fun a b ha => ?_⟩
  have h2a := h2 a
  show (((List.range n).foldl (ws k) up).getD a 0).testBit b = true ↔ _
  rw [h2a]
  unfold le
  by_cases hk : (up.getD a 0).testBit k = true
  · rw [if_pos ⟨ha, hk⟩, Nat.testBit_or, Bool.or_eq_true]
    constructor
    · rintro (h | h)
      · exact .inl h
      · exact .inr ⟨hk, h⟩
    · rintro (h | h)
      · exact .inl h
      · exact .inr h.2
  · rw [if_neg (fun h => hk h.2)]
    constructor
    · exact .inl
    · rintro (h | h)
      · exact h
      · exact absurd h.1 hk

structure Between (n : Nat) (ps : List (Nat × Nat)) (up : List Nat) : Prop where
  len : up.length = n
  rf : ∀ a, a < n → le up a a = true
  has : ∀ x ∈ ps, le up x.1 x.2 = true
  way : ∀ a b, a < n → le up a b = true → Way ps a b

theorem Between.base {n : Nat} {ps : List (Nat × Nat)} (hp : ∀ x ∈ ps, x.1 < n ∧ x.2 < n) : Between n ps (base n ps) := by
  obtain ⟨hl, hb⟩ := base_spec n ps ((List.range n).map fun i => 2 ^ i) (by simp) (fun x hx => (hp x hx).1)
  refine ⟨hl, fun a ha => (hb a a).2 (.inl (by rw [le_start n a a ha]; simp)), fun x hx => (hb x.1 x.2).2 (.inr hx), fun a b ha h => ?_⟩
  rcases (hb a b).1 h with h0 | h0
  · rw [le_start n a b ha] at h0
    obtain rfl := of_decide_eq_true h0
    exact .refl a
  · exact .one h0

/-- A row takes another one in. -/
theorem Between.or_ {n : Nat} {ps : List (Nat × Nat)} (hp : ∀ x ∈ ps, x.1 < n ∧ x.2 < n) {up : List Nat} (h : Between n ps up) {i k : Nat} (hi : i < n) (hik : le up i k = true) : Between n ps (up.set i (up.getD i 0 ||| up.getD k 0)) := by
  have hkn : k < n := (h.way i k hi hik).lt hp hi
  have e : ∀ a b, a < n → (le (up.set i (up.getD i 0 ||| up.getD k 0)) a b = true ↔ le up a b = true ∨ (a = i ∧ le up k b = true)) := by
    intro a b ha
    unfold le
    rw [getD_set]
    by_cases hh : i = a
    · subst hh
      rw [if_pos ⟨rfl, by rw [h.len]; exact hi⟩, Nat.testBit_or, Bool.or_eq_true]
      simp
    · rw [if_neg (fun h3 => hh h3.1)]
      have : ¬ a = i := fun e => hh e.symm
      simp [this]
  refine ⟨by rw [List.length_set]; exact h.len, fun a ha => (e a a ha).2 (.inl (h.rf a ha)), fun x hx => (e _ _ (hp x hx).1).2 (.inl (h.has x hx)), fun a b ha hl => ?_⟩
  rcases (e a b ha).1 hl with h0 | ⟨rfl, h0⟩
  · exact h.way a b ha h0
  · exact (h.way a k ha hik).trans (h.way k b hkn h0)

theorem wars_spec {n : Nat} {ps : List (Nat × Nat)} (hp : ∀ x ∈ ps, x.1 < n ∧ x.2 < n) {up : List Nat} (hb : Between n ps up) : ∀ k, k ≤ n → Between n ps ((List.range k).foldl (wk n) up) ∧
    ∀ a c b, a < n → c < k → le ((List.range k).foldl (wk n) up) a c = true → le ((List.range k).foldl (wk n) up) c b = true → le ((List.range k).foldl (wk n) up) a b = true
  | 0, _ => ⟨hb, fun a c b _ hc => by omega⟩
  | k + 1, hk => by
    obtain ⟨hB, ht⟩ := wars_spec hp hb k (by omega)
    rw [foldl_range_succ]
    generalize (List.range k).foldl (wk n) up = V at hB ht
    obtain ⟨hl, hle⟩ := le_wk hB.len k
    refine ⟨⟨hl, fun a ha => (hle a a ha).2 (.inl (hB.rf a ha)), fun x hx => (hle _ _ (hp x hx).1).2 (.inl (hB.has x hx)), fun a b ha h => ?_⟩, fun a c b ha hc h1 h2 => ?_⟩
    · rcases (hle a b ha).1 h with h0 | ⟨h0, h1⟩
      · exact hB.way a b ha h0
      · exact (hB.way a k ha h0).trans (hB.way k b (by omega) h1)
    · rw [hle a b ha]
      rw [hle a c ha] at h1
      rw [hle c b (by omega)] at h2
      rcases Nat.lt_or_ge c k with hck | hck
      · rcases h1 with h1 | ⟨h1, h1'⟩
        · rcases h2 with h2 | ⟨h2, h2'⟩
          · exact .inl (ht a c b ha hck h1 h2)
          · exact .inr ⟨ht a c k ha hck h1 h2, h2'⟩
        · rcases h2 with h2 | ⟨h2, h2'⟩
          · exact .inr ⟨h1, ht k c b (by omega) hck h1' h2⟩
          · exact .inr ⟨h1, h2'⟩
      · obtain rfl : c = k := by omega
        have h1' : le V a c = true := by rcases h1 with h1 | h1; exact h1; exact h1.1
        have h2' : le V c b = true := by rcases h2 with h2 | h2; exact h2; exact h2.2
        exact .inr ⟨h1', h2'⟩

theorem wars_made {n : Nat} {ps : List (Nat × Nat)} (hp : ∀ x ∈ ps, x.1 < n ∧ x.2 < n) : Made n ps (wars n (base n ps)) := by
  obtain ⟨hB, ht⟩ := wars_spec hp (Between.base hp) n (Nat.le_refl _)
  exact Made.of_closed hB.len hp hB.rf hB.has hB.way fun a b c ha hb h1 h2 => ht a b c ha hb h1 h2

/-- Masks that no row can be taken into another one of: they are what the pairs make. -/
theorem Between.made {n : Nat} {ps : List (Nat × Nat)} (hp : ∀ x ∈ ps, x.1 < n ∧ x.2 < n) {up : List Nat} (h : Between n ps up)
    (hc : ∀ i k, i < n → k < n → le up i k = true → up.getD i 0 ||| up.getD k 0 = up.getD i 0) : Made n ps up :=
  Made.of_closed h.len hp h.rf h.has h.way fun a b c ha hb h1 h2 => by
    have := hc a b ha hb h1
    unfold le
    rw [← this, Nat.testBit_or, Bool.or_eq_true]
    exact .inr h2

/-! ### an order's own pairs make it again -/
theorem Ord.way_le {up : List Nat} (h : Ord up) {ps : List (Nat × Nat)} (hp : ∀ x ∈ ps, le up x.1 x.2 = true) {a b : Nat} (ha : a < up.length) (hw : Way ps a b) : le up a b = true := by
  induction hw with
  | refl a => exact h.rf a ha
  | step h0 _ ih =>
    have h1 := hp _ h0
    have hb := (h.le_lt h1).2
    exact h.tr _ _ _ ha hb h1 (ih hb)

theorem Ord.covers_way {up : List Nat} (h : Ord up) : ∀ (d a b : Nat), cA up a ≤ cA up b + d → le up a b = true → Way (coversL up) a b
  | d, a, b, hd, hl => by
    obtain ⟨ha, hb⟩ := h.le_lt hl
    by_cases hab : a = b
    · subst hab; exact .refl a
    · by_cases hc : isCover up a b = true
      · exact .one (mem_coversL.2 ⟨ha, hb, hc⟩)
      · have : ∃ m, m < up.length ∧ m ≠ a ∧ m ≠ b ∧ le up a m = true ∧ le up m b = true := by
          simp only [isCover, Bool.and_eq_true, decide_eq_true_eq, List.all_eq_true, List.mem_range, Bool.or_eq_true, Bool.not_eq_true'] at hc
          have hc' : ¬ ∀ m, m < up.length → ((m = a ∨ m = b) ∨ le up a m = false) ∨ le up m b = false := fun h0 => hc ⟨⟨hab, hl⟩, h0⟩
          rw [Classical.not_forall] at hc'
          obtain ⟨m, hm⟩ := hc'
          have hmn : m < up.length := Classical.byContradiction fun h0 => hm fun h1 => absurd h1 h0
          refine ⟨m, hmn, ?_, ?_, ?_, ?_⟩
          · intro e; exact hm fun _ => .inl (.inl (.inl e))
          · intro e; exact hm fun _ => .inl (.inl (.inr e))
          · cases e : le up a m with
            | true => rfl
            | false => exact absurd (fun _ => .inl (.inr e)) hm
          · cases e : le up m b with
            | true => rfl
            | false => exact absurd (fun _ => .inr e) hm
        obtain ⟨m, hm, hma, hmb, h1, h2⟩ := this
        have c1 : cA up m < cA up a := h.cA_lt ha (by simp [above, h1]; exact fun e => hma e.symm)
        have c2 : cA up b < cA up m := h.cA_lt hm (by simp [above, h2]; exact hmb)
        cases d with
        | zero => omega
        | succ d => exact (h.covers_way d a m (by omega) h1).trans (h.covers_way d m b (by omega) h2)

theorem Ord.covers_made {up : List Nat} (h : Ord up) : Made up.length (coversL up) up := by
  refine ⟨rfl, fun a b ha => ⟨fun hl => h.covers_way (cA up a) a b (by omega) hl, fun hw => ?_⟩⟩
  refine h.way_le (fun x hx => ?_) ha hw
  have := (mem_coversL (a := x.1) (b := x.2)).1 hx
  simp only [isCover, Bool.and_eq_true] at this
  exact this.2.2.1.2

/-- Without one of its covers it is not made again. -/
theorem Ord.cover_needed {up : List Nat} (h : Ord up) {ps : List (Nat × Nat)} (hsub : ∀ x ∈ ps, x ∈ coversL up) {a b : Nat} (hab : (a, b) ∈ coversL up) (hno : (a, b) ∉ ps) : ¬ Way ps a b := by
  obtain ⟨ha, hb, hc⟩ := mem_coversL.1 hab
  simp only [isCover, Bool.and_eq_true, decide_eq_true_eq, List.all_eq_true, List.mem_range, Bool.or_eq_true, Bool.not_eq_true'] at hc
  have hle : ∀ x ∈ ps, le up x.1 x.2 = true := fun x hx => by
    have := (mem_coversL (a := x.1) (b := x.2)).1 (hsub x hx)
    simp only [isCover, Bool.and_eq_true] at this
    exact this.2.2.1.2
  intro hw
  cases hw with
  | refl => exact hc.1.1 rfl
  | step h0 h1 =>
    rename_i c
    have hac := hle _ h0
    have hcn := (h.le_lt hac).2
    have hcb := h.way_le hle hcn h1
    by_cases e1 : c = b
    · subst e1; exact hno h0
    · by_cases e2 : c = a
      · subst e2
        have := (mem_coversL (a := c) (b := c)).1 (hsub _ h0)
        simp [isCover] at this
      · rcases hc.2 c hcn with ((h3 | h3) | h3) | h3
        · exact e2 h3
        · exact e1 h3
        · rw [hac] at h3; cases h3
        · rw [hcb] at h3; cases h3

end Go.Idl
