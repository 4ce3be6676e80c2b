/- Plain laws: chains, and levels beside one another. -/
import Derived.Test.YtaclogfchlphlaaDoorPb
namespace Go.Idl

/-- Of masks that pairs make: Build answers them, if they are a lattice. -/
theorem bld_ok {n : Nat} {ps : List (Int × Int)} (h1 : 1 ≤ n) (h64 : n ≤ 64) (hp : ∀ p ∈ ps, pairOk (n : Nat) p = true) (hl : latB (warsP n ps) = true) : bldI (n : Nat) ps = 0 ∧ bldL (n : Nat) ps = warsP n ps := by
  have e : bldI (n : Nat) ps = 0 := by
    unfold bldI nOk
    rw [Int.toNat_natCast, if_pos ⟨by simp; omega, List.all_eq_true.2 hp⟩, if_pos hl]
  refine ⟨e, ?_⟩
  unfold bldL
  rw [e, if_pos rfl, Int.toNat_natCast]
theorem natP_ok {n : Nat} {ps : List (Int × Int)} (hp : ∀ p ∈ ps, pairOk (n : Nat) p = true) : ∀ x ∈ ps.map natP, x.1 < n ∧ x.2 < n := by
  intro x hx
  obtain ⟨p, hpm, rfl⟩ := List.mem_map.1 hx
  have := hp p hpm
  simp only [pairOk, Bool.and_eq_true, decide_eq_true_eq] at this
  unfold natP
  simp only
  omega
theorem warsP_made {n : Nat} {ps : List (Int × Int)} (hp : ∀ p ∈ ps, pairOk (n : Nat) p = true) : Made n (ps.map natP) (warsP n ps) := wars_made (natP_ok hp)

/-- A bounded height: whatever ranks levels bounds it, and a level that has that rank all the way up reaches it. -/
theorem Ord.hgt_of {up : List Nat} (h : Ord up) (f : Nat → Nat) (hf : ∀ a b, a < up.length → above up a b = true → f b < f a)
    (hx : ∀ a, a < up.length → 0 < f a → ∃ b, b < up.length ∧ above up a b = true ∧ f a ≤ f b + 1) : ∀ (c a : Nat), a < up.length → cA up a ≤ c → hgt up a = f a
  | 0, a, ha, hc => by have := h.cA_pos ha; omega
  | c + 1, a, ha, hc => by
    rw [h.hgt_eq ha]
    apply Nat.le_antisymm
    · refine sup_le.2 fun b hb hab => ?_
      rw [h.hgt_of f hf hx c b hb (by have := h.cA_lt ha hab; omega)]
      exact hf a b ha hab
    · rcases Nat.eq_zero_or_pos (f a) with h0 | h0
      · omega
      · obtain ⟨b, hb, hab, hle⟩ := hx a ha h0
        have := le_sup (f := fun b => hgt up b + 1) hb hab
        rw [h.hgt_of f hf hx c b hb (by have := h.cA_lt ha hab; omega)] at this
        omega
theorem Ord.height_of {up : List Nat} (h : Ord up) (f : Nat → Nat) (N : Nat) (hf : ∀ a b, a < up.length → above up a b = true → f b < f a)
    (hx : ∀ a, a < up.length → 0 < f a → ∃ b, b < up.length ∧ above up a b = true ∧ f a ≤ f b + 1) (hN : ∀ a, a < up.length → f a ≤ N) (hM : ∃ a, a < up.length ∧ f a = N) : heightN up = N := by
  have e : ∀ a, a < up.length → hgt up a = f a := fun a ha => h.hgt_of f hf hx _ a ha (Nat.le_refl _)
  unfold heightN
  apply Nat.le_antisymm
  · exact sup_le.2 fun b hb _ => by rw [e b hb]; exact hN b hb
  · obtain ⟨a, ha, hfa⟩ := hM
    have := le_sup (p := fun _ => true) (f := hgt up) ha rfl
    rw [e a ha, hfa] at this
    exact this

/-! ### a chain -/
def chainP (k : Nat) : List (Int × Int) := (List.range (k - 1)).map fun i : Nat => ((i : Int), ((i + 1 : Nat) : Int))
theorem chainP_ok (k : Nat) : ∀ p ∈ chainP k, pairOk (k : Nat) p = true := by
  intro p hp
  obtain ⟨i, hi, rfl⟩ := List.mem_map.1 hp
  have := List.mem_range.1 hi
  simp only [pairOk, Bool.and_eq_true, decide_eq_true_eq]
  omega
theorem mem_chain {k a b : Nat} : (a, b) ∈ (chainP k).map natP ↔ b = a + 1 ∧ a + 1 < k := by
  unfold chainP natP
  simp only [List.mem_map, List.mem_range]
  constructor
  · rintro ⟨p, ⟨i, hi, rfl⟩, he⟩
    simp only [Prod.mk.injEq] at he
    omega
  · rintro ⟨rfl, h⟩
    exact ⟨_, ⟨a, by omega, rfl⟩, by simp only [Prod.mk.injEq]; omega⟩
theorem chain_way {k a b : Nat} (hb : b < k) : Way ((chainP k).map natP) a b ↔ a ≤ b := by
  constructor
  · intro h
    induction h with
    | refl a => exact Nat.le_refl _
    | step h _ ih => have := mem_chain.1 h; have := ih hb; omega
  · intro h
    obtain ⟨d, rfl⟩ : ∃ d, b = a + d := ⟨b - a, by omega⟩
    clear h
    induction d generalizing a with
    | zero => exact .refl _
    | succ d ih =>
      have e : a + (d + 1) = (a + 1) + d := by omega
      rw [e] at hb ⊢
      exact .step (mem_chain.2 ⟨rfl, by omega⟩) (ih hb)
theorem chain_lat {k : Nat} (h1 : 1 ≤ k) (h64 : k ≤ 64) : Lat (warsP k (chainP k)) ∧ heightN (warsP k (chainP k)) = k - 1 := by
  have hm := warsP_made (chainP_ok k)
  generalize warsP k (chainP k) = up at hm
  have hl : ∀ a b, a < k → b < k → (le up a b = true ↔ a ≤ b) := fun a b ha hb => (hm.iff_ a b ha).trans (chain_way hb)
  have hlt : ∀ a b, a < k → le up a b = true → b < k := fun a b ha h => ((hm.iff_ a b ha).1 h).lt (natP_ok (chainP_ok k)) ha
  have hO : Ord up := by
    refine ⟨by rw [hm.len]; exact h1, by rw [hm.len]; exact h64, ?_, ?_, ?_, ?_⟩ <;> rw [hm.len]
    · exact hlt
    · exact fun a ha => (hl a a ha ha).2 (Nat.le_refl _)
    · intro a b ha hb h h'
      have := (hl a b ha hb).1 h
      have := (hl b a hb ha).1 h'
      omega
    · intro a b c ha hb h h'
      have hc := hlt b c hb h'
      have := (hl a b ha hb).1 h
      have := (hl b c hb hc).1 h'
      exact (hl a c ha hc).2 (by omega)
  refine ⟨{ toOrd := hO, jx := ?_, mx := ?_ }, ?_⟩
  · rw [hm.len]
    intro a b ha hb
    refine ⟨max a b, by rw [hm.len]; omega, (hl _ _ ha (by omega)).2 (by omega), (hl _ _ hb (by omega)).2 (by omega), fun m hmk h h' => ?_⟩
    rw [hm.len] at hmk
    have := (hl a m ha hmk).1 h
    have := (hl b m hb hmk).1 h'
    exact (hl _ _ (by omega) hmk).2 (by omega)
  · rw [hm.len]
    intro a b ha hb
    refine ⟨min a b, by rw [hm.len]; omega, (hl _ _ (by omega) ha).2 (by omega), (hl _ _ (by omega) hb).2 (by omega), fun m hmk h h' => ?_⟩
    rw [hm.len] at hmk
    have := (hl m a hmk ha).1 h
    have := (hl m b hmk hb).1 h'
    exact (hl _ _ hmk (by omega)).2 (by omega)
  · have hab : ∀ a b, a < k → above up a b = true → a < b ∧ b < k := by
      intro a b ha h
      simp only [above, Bool.and_eq_true, decide_eq_true_eq] at h
      have hb := hlt a b ha h.2
      have := (hl a b ha hb).1 h.2
      omega
    refine hO.height_of (fun a => k - 1 - a) (k - 1) ?_ ?_ ?_ ?_ <;> rw [hm.len]
    · intro a b ha h
      have := hab a b ha h
      omega
    · intro a ha h0
      refine ⟨a + 1, by omega, ?_, by omega⟩
      simp only [above, Bool.and_eq_true, decide_eq_true_eq]
      exact ⟨by omega, (hl _ _ ha (by omega)).2 (by omega)⟩
    · intro a ha
      omega
    · exact ⟨0, by omega, by simp⟩

/-! ### levels beside one another -/
def wideTo (k i : Nat) : List (Int × Int) := (List.range i).flatMap fun j : Nat => [((0 : Int), (j : Int)), ((j : Int), ((k : Int) - 1))]
def wideP (k : Nat) : List (Int × Int) := wideTo k (k - 1)
theorem wideTo_succ (k i : Nat) : wideTo k (i + 1) = wideTo k i ++ [((0 : Int), (i : Int)), ((i : Int), ((k : Int) - 1))] := by
  unfold wideTo
  rw [List.range_succ, List.flatMap_append]
  simp
theorem chainTo_succ (i : Nat) : ((List.range (i + 1)).map fun i : Nat => ((i : Int), ((i + 1 : Nat) : Int))) = ((List.range i).map fun i : Nat => ((i : Int), ((i + 1 : Nat) : Int))) ++ [((i : Int), ((i + 1 : Nat) : Int))] := by
  rw [List.range_succ, List.map_append]
  rfl
theorem wideP_ok (k : Nat) : ∀ p ∈ wideP k, pairOk (k : Nat) p = true := by
  intro p hp
  unfold wideP wideTo at hp
  obtain ⟨i, hi, hp⟩ := List.mem_flatMap.1 hp
  have := List.mem_range.1 hi
  simp only [List.mem_cons, List.not_mem_nil, or_false] at hp
  simp only [pairOk, Bool.and_eq_true, decide_eq_true_eq]
  rcases hp with rfl | rfl <;> simp only <;> omega
theorem mem_wide {k a b : Nat} : (a, b) ∈ (wideP k).map natP ↔ (a = 0 ∧ b + 1 < k) ∨ (a + 1 < k ∧ b = k - 1) := by
  unfold wideP wideTo natP
  simp only [List.mem_map, List.mem_flatMap, List.mem_range, List.mem_cons, List.not_mem_nil, or_false]
  constructor
  · rintro ⟨p, ⟨i, hi, rfl | rfl⟩, he⟩ <;> simp only [Prod.mk.injEq] at he <;> omega
  · rintro (⟨rfl, h⟩ | ⟨h, rfl⟩)
    · exact ⟨_, ⟨b, by omega, .inl rfl⟩, by simp only [Prod.mk.injEq]; omega⟩
    · exact ⟨_, ⟨a, by omega, .inr rfl⟩, by simp only [Prod.mk.injEq]; omega⟩
theorem wide_way {k a b : Nat} (ha : a < k) (hb : b < k) : Way ((wideP k).map natP) a b ↔ a = b ∨ a = 0 ∨ b = k - 1 := by
  constructor
  · intro h
    induction h with
    | refl a => exact .inl rfl
    | step h _ ih =>
      have h0 := mem_wide.1 h
      have := ih (by omega) hb
      omega
  · rintro (rfl | rfl | rfl)
    · exact .refl _
    · by_cases e : b = 0
      · subst e; exact .refl _
      · by_cases e2 : b + 1 < k
        · exact .one (mem_wide.2 (.inl ⟨rfl, e2⟩))
        · exact .one (mem_wide.2 (.inr ⟨by omega, by omega⟩))
    · by_cases e : a = k - 1
      · rw [← e]; exact .refl _
      · exact .one (mem_wide.2 (.inr ⟨by omega, rfl⟩))
theorem wide_lat {k : Nat} (h1 : 1 ≤ k) (h64 : k ≤ 64) : Lat (warsP k (wideP k)) ∧ heightN (warsP k (wideP k)) = min (k - 1) 2 := by
  have hm := warsP_made (wideP_ok k)
  generalize warsP k (wideP k) = up at hm
  have hl : ∀ a b, a < k → b < k → (le up a b = true ↔ a = b ∨ a = 0 ∨ b = k - 1) := fun a b ha hb => (hm.iff_ a b ha).trans (wide_way ha hb)
  have hlt : ∀ a b, a < k → le up a b = true → b < k := fun a b ha h => ((hm.iff_ a b ha).1 h).lt (natP_ok (wideP_ok k)) ha
  have hO : Ord up := by
    refine ⟨by rw [hm.len]; exact h1, by rw [hm.len]; exact h64, ?_, ?_, ?_, ?_⟩ <;> rw [hm.len]
    · exact hlt
    · exact fun a ha => (hl a a ha ha).2 (.inl rfl)
    · intro a b ha hb h h'
      have := (hl a b ha hb).1 h
      have := (hl b a hb ha).1 h'
      omega
    · intro a b c ha hb h h'
      have hc := hlt b c hb h'
      have := (hl a b ha hb).1 h
      have := (hl b c hb hc).1 h'
      exact (hl a c ha hc).2 (by omega)
  refine ⟨{ toOrd := hO, jx := ?_, mx := ?_ }, ?_⟩
  · rw [hm.len]
    intro a b ha hb
    have hex : ∃ j, j < k ∧ (a = j ∨ a = 0 ∨ j = k - 1) ∧ (b = j ∨ b = 0 ∨ j = k - 1) ∧ ∀ m, m < k → (a = m ∨ a = 0 ∨ m = k - 1) → (b = m ∨ b = 0 ∨ m = k - 1) → (j = m ∨ j = 0 ∨ m = k - 1) := by
      by_cases e1 : a = b
      · exact ⟨a, by omega, by omega, by omega, by omega⟩
      · by_cases e2 : a = 0
        · exact ⟨b, by omega, by omega, by omega, by omega⟩
        · by_cases e3 : b = 0
          · exact ⟨a, by omega, by omega, by omega, by omega⟩
          · exact ⟨k - 1, by omega, by omega, by omega, by omega⟩
    obtain ⟨j, hj, h2, h3, h4⟩ := hex
    exact ⟨j, by rw [hm.len]; exact hj, (hl _ _ ha hj).2 h2, (hl _ _ hb hj).2 h3, fun m hmk h h' => by
      rw [hm.len] at hmk
      exact (hl _ _ hj hmk).2 (h4 m hmk ((hl _ _ ha hmk).1 h) ((hl _ _ hb hmk).1 h'))⟩
  · rw [hm.len]
    intro a b ha hb
    have hex : ∃ j, j < k ∧ (j = a ∨ j = 0 ∨ a = k - 1) ∧ (j = b ∨ j = 0 ∨ b = k - 1) ∧ ∀ m, m < k → (m = a ∨ m = 0 ∨ a = k - 1) → (m = b ∨ m = 0 ∨ b = k - 1) → (m = j ∨ m = 0 ∨ j = k - 1) := by
      by_cases e1 : a = b
      · exact ⟨a, by omega, by omega, by omega, by omega⟩
      · by_cases e2 : a = k - 1
        · exact ⟨b, by omega, by omega, by omega, by omega⟩
        · by_cases e3 : b = k - 1
          · exact ⟨a, by omega, by omega, by omega, by omega⟩
          · exact ⟨0, by omega, by omega, by omega, by omega⟩
    obtain ⟨j, hj, h2, h3, h4⟩ := hex
    exact ⟨j, by rw [hm.len]; exact hj, (hl _ _ hj ha).2 h2, (hl _ _ hj hb).2 h3, fun m hmk h h' => by
      rw [hm.len] at hmk
      exact (hl _ _ hmk hj).2 (h4 m hmk ((hl _ _ hmk ha).1 h) ((hl _ _ hmk hb).1 h'))⟩
  · have hab : ∀ a b, a < k → above up a b = true → b < k ∧ a ≠ b ∧ (a = 0 ∨ b = k - 1) := by
      intro a b ha h
      simp only [above, Bool.and_eq_true, decide_eq_true_eq] at h
      have hb := hlt a b ha h.2
      have := (hl a b ha hb).1 h.2
      omega
    have hba : ∀ a b, a < k → b < k → a ≠ b → (a = 0 ∨ b = k - 1) → above up a b = true := by
      intro a b ha hb hne h
      simp only [above, Bool.and_eq_true, decide_eq_true_eq]
      exact ⟨hne, (hl _ _ ha hb).2 (by omega)⟩
    refine hO.height_of (fun a => if a = k - 1 then 0 else if a = 0 then min (k - 1) 2 else 1) (min (k - 1) 2) ?_ ?_ ?_ ?_ <;> rw [hm.len]
    · intro a b ha h
      have := hab a b ha h
      split <;> split <;> (try split) <;> (try split) <;> omega
    · intro a ha h0
      by_cases e1 : a = k - 1
      · rw [if_pos e1] at h0; omega
      · by_cases e2 : a = 0
        · by_cases e3 : k = 2
          · refine ⟨k - 1, by omega, hba _ _ ha (by omega) (by omega) (by omega), ?_⟩
            simp only [if_neg e1, if_pos e2, if_pos]
            omega
          · refine ⟨1, by omega, hba _ _ ha (by omega) (by omega) (by omega), ?_⟩
            simp only [if_neg e1, if_pos e2]
            rw [if_neg (by omega), if_neg (by omega)]
            omega
        · refine ⟨k - 1, by omega, hba _ _ ha (by omega) (by omega) (by omega), ?_⟩
          simp only [if_neg e1, if_neg e2, if_pos]
          omega
    · intro a ha
      split
      · omega
      · split <;> omega
    · refine ⟨0, by omega, ?_⟩
      split
      · omega
      · rfl
end Go.Idl
