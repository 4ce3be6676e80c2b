/- Plain laws of labels. -/
import Derived.Test.YtleckdbdhkgcpaaDoorWl
namespace Go.Idl

/-- A label: its level, its mask. -/
structure Lb where
  lv : Int
  ms : Nat
deriving DecidableEq

def goodB (up : List Nat) (k : Int) : Bool := decide (0 ≤ k) && decide (k < up.length)
theorem goodB_iff {up : List Nat} {k : Int} : goodB up k = true ↔ ∃ j : Nat, k = j ∧ j < up.length := by
  simp only [goodB, Bool.and_eq_true, decide_eq_true_eq]
  constructor
  · rintro ⟨h1, h2⟩
    exact ⟨k.toNat, by omega, by omega⟩
  · rintro ⟨j, rfl, h⟩
    exact ⟨by omega, by omega⟩

def bothB (up : List Nat) (a b : Int) : Bool := goodB up a && goodB up b && latB up
/-- The join of two labels that may be. -/
def joinL (up : List Nat) (a b : Lb) : Lb := ⟨joinI up a.lv.toNat b.lv.toNat, a.ms ||| b.ms⟩
def leL (up : List Nat) (a b : Lb) : Bool := le up a.lv.toNat b.lv.toNat && subB a.ms b.ms
/-- What a bit stands for. -/
def stands (args : List Lb) (pc : Lb) (bit : Nat) : Lb := if bit = 6 then pc else args.getD bit ⟨0, 0⟩
def putF (up : List Nat) (l : Lb) (args : List Lb) (pc : Lb) : Lb := (bitsOf l.ms).foldl (fun out bit => joinL up out (stands args pc bit)) ⟨l.lv, 0⟩
/-- Are a mask's bits those of so many parameters, and the place's? -/
def fitsB (m : Nat) (k : Nat) : Bool := (List.range 64).all fun i => !m.testBit i || decide (i < k) || decide (i = 6)
def putOk (up : List Nat) (l : Lb) (args : List Lb) (pc : Lb) : Bool :=
  decide (args.length ≤ 6) && latB up && goodB up l.lv && goodB up pc.lv && fitsB l.ms args.length && args.all fun a => goodB up a.lv

theorem fitsB_iff {m k : Nat} : fitsB m k = true ↔ ∀ i ∈ bitsOf m, i < k ∨ i = 6 := by
  simp only [fitsB, List.all_eq_true, List.mem_range, Bool.or_eq_true, Bool.not_eq_true', decide_eq_true_eq, mem_bitsOf]
  constructor
  · rintro h i ⟨h1, h2⟩
    rcases h i h1 with (h3 | h3) | h3
    · rw [h2] at h3; cases h3
    · exact .inl h3
    · exact .inr h3
  · intro h i hi
    cases h2 : m.testBit i with
    | false => exact .inl (.inl rfl)
    | true => rcases h i ⟨hi, h2⟩ with h3 | h3
              · exact .inl (.inr h3)
              · exact .inr h3

/-- .. as the program asks: nothing of the mask beside those that fit. -/
theorem fits_prog {m k : Nat} (hm : m < 2 ^ 64) (hk : k < 64) : decide (m &&& (18446744073709551615 - withN (belowN k) 6) = 0) = fitsB m k := by
  rw [Bool.eq_iff_iff, decide_eq_true_eq, fitsB_iff]
  have hw : withN (belowN k) 6 < 2 ^ 64 := withN_lt _ _ (belowN_lt _)
  have hb : ∀ i, i < 64 → (m &&& (18446744073709551615 - withN (belowN k) 6)).testBit i = (m.testBit i && !(decide (i < k) || decide (6 = i))) := by
    intro i hi
    rw [Nat.testBit_and]
    have h := testBit_not64 (withN (belowN k) 6) i hw hi
    rw [show 2 ^ 64 - 1 - withN (belowN k) 6 = 18446744073709551615 - withN (belowN k) 6 from rfl] at h
    rw [h]
    unfold withN
    rw [if_pos ⟨by decide, by decide⟩, testBit_or_bit, testBit_belowN]
    have : (min (k : Int) 64).toNat = k := by omega
    rw [this]
    rfl
  constructor
  · intro h i hi
    rw [mem_bitsOf] at hi
    have := hb i hi.1
    rw [h, hi.2] at this
    simp at this
    rcases Nat.lt_or_ge i k with h1 | h1
    · exact .inl h1
    · exact .inr (this h1).symm
  · intro h
    apply Nat.eq_of_testBit_eq
    intro i
    rw [Nat.zero_testBit]
    rcases Nat.lt_or_ge i 64 with hi | hi
    · rw [hb i hi]
      cases h2 : m.testBit i with
      | false => rfl
      | true =>
        rcases h i (mem_bitsOf.2 ⟨hi, h2⟩) with h3 | h3
        · simp [h3]
        · simp [h3]
    · rw [Nat.testBit_and]
      have : m.testBit i = false := by
        cases h : m.testBit i with
        | false => rfl
        | true => have := tb_lt hm h; omega
      rw [this]; rfl

/-- A mask that fits, in order: its parameters, then the place. -/
theorem bits_of_fits {m k : Nat} (hk : k ≤ 6) (h : fitsB m k = true) : bitsOf m = ((List.range k).filter fun i => m.testBit i) ++ (if m.testBit 6 = true then [6] else []) := by
  rw [fitsB_iff] at h
  unfold bitsOf
  have e1 : (List.range 64).filter (fun i => m.testBit i) = (List.range 7).filter (fun i => m.testBit i) := filter_more (by decide) fun i h1 h2 => by
    cases hb : m.testBit i with
    | false => rfl
    | true => rcases h i (mem_bitsOf.2 ⟨h2, hb⟩) with h3 | h3 <;> omega
  have e2 : (List.range 6).filter (fun i => m.testBit i) = (List.range k).filter (fun i => m.testBit i) := filter_more hk fun i h1 h2 => by
    cases hb : m.testBit i with
    | false => rfl
    | true => rcases h i (mem_bitsOf.2 ⟨by omega, hb⟩) with h3 | h3 <;> omega
  rw [e1, show List.range 7 = List.range 6 ++ [6] from rfl, List.filter_append, e2]
  congr 1
  by_cases hb : m.testBit 6 = true
  · rw [if_pos hb, List.filter_cons_of_pos hb]; rfl
  · rw [if_neg hb, List.filter_cons_of_neg hb]; rfl

/-- What the document's loop makes of the first j parameters. -/
def refTo (up : List Nat) (l : Lb) (args : List Lb) (j : Nat) : Lb := ((List.range j).filter fun i => l.ms.testBit i).foldl (fun out bit => joinL up out (args.getD bit ⟨0, 0⟩)) ⟨l.lv, 0⟩
theorem refTo_succ (up : List Nat) (l : Lb) (args : List Lb) (j : Nat) : refTo up l args (j + 1) = if l.ms.testBit j = true then joinL up (refTo up l args j) (args.getD j ⟨0, 0⟩) else refTo up l args j := by
  unfold refTo
  rw [List.range_succ, List.filter_append, List.foldl_append]
  by_cases h : l.ms.testBit j = true
  · rw [if_pos h, List.filter_cons_of_pos h]; rfl
  · rw [if_neg h, List.filter_cons_of_neg h]; rfl
theorem putF_ref {up : List Nat} {l : Lb} {args : List Lb} {pc : Lb} (hk : args.length ≤ 6) (h : fitsB l.ms args.length = true) :
    putF up l args pc = if l.ms.testBit 6 = true then joinL up (refTo up l args args.length) pc else refTo up l args args.length := by
  unfold putF refTo
  rw [bits_of_fits hk h, List.foldl_append]
  have e : ∀ (L : List Nat) (x : Lb), (∀ i ∈ L, i < 6) → L.foldl (fun out bit => joinL up out (stands args pc bit)) x = L.foldl (fun out bit => joinL up out (args.getD bit ⟨0, 0⟩)) x := by
    intro L
    induction L with
    | nil => intro x _; rfl
    | cons b r ih =>
      intro x hL
      rw [List.foldl_cons, List.foldl_cons]
      have hb : b < 6 := hL b (by simp)
      have : stands args pc b = args.getD b ⟨0, 0⟩ := by
        unfold stands; rw [if_neg (by omega)]
      rw [this]
      exact ih _ fun i hi => hL i (by simp [hi])
  rw [e ((List.range args.length).filter fun i => l.ms.testBit i) ⟨l.lv, 0⟩ (fun i hi => by have := List.mem_range.1 (List.mem_filter.1 hi).1; omega)]
  by_cases hb : l.ms.testBit 6 = true
  · rw [if_pos hb, if_pos hb]; rfl
  · rw [if_neg hb, if_neg hb]; rfl

/-! ### in a lattice -/
theorem Lat.le_jn {up : List Nat} (h : Lat up) {a b x : Nat} (ha : a < up.length) (hb : b < up.length) (hx : x < up.length) : le up (jn up a b) x = true ↔ le up a x = true ∧ le up b x = true := by
  have hj := h.jn_is ha hb
  exact ⟨fun h0 => ⟨h.tr _ _ _ ha hj.lt hj.l h0, h.tr _ _ _ hb hj.lt hj.r h0⟩, fun h0 => hj.least x hx h0.1 h0.2⟩
theorem Lat.le_mt {up : List Nat} (h : Lat up) {a b x : Nat} (ha : a < up.length) (hb : b < up.length) (hx : x < up.length) : le up x (mt up a b) = true ↔ le up x a = true ∧ le up x b = true := by
  have hj := h.mt_is ha hb
  exact ⟨fun h0 => ⟨h.tr _ _ _ hx hj.lt h0 hj.l, h.tr _ _ _ hx hj.lt h0 hj.r⟩, fun h0 => hj.most x hx h0.1 h0.2⟩

/-- A label that may be. -/
def Gd (up : List Nat) (l : Lb) : Prop := ∃ j : Nat, l.lv = j ∧ j < up.length
theorem gd_iff {up : List Nat} {l : Lb} : goodB up l.lv = true ↔ Gd up l := goodB_iff
theorem Gd.lt {up : List Nat} {l : Lb} (h : Gd up l) : l.lv.toNat < up.length := by obtain ⟨j, e, hj⟩ := h; omega
theorem Gd.eq {up : List Nat} {l : Lb} (h : Gd up l) : l.lv = (l.lv.toNat : Int) := by obtain ⟨j, e, hj⟩ := h; omega
theorem Lat.joinL_lv {up : List Nat} (h : Lat up) {a b : Lb} (ha : Gd up a) (hb : Gd up b) : (joinL up a b).lv = (jn up a.lv.toNat b.lv.toNat : Int) := h.joinI_eq ha.lt hb.lt
theorem Lat.joinL_gd {up : List Nat} (h : Lat up) {a b : Lb} (ha : Gd up a) (hb : Gd up b) : Gd up (joinL up a b) := ⟨_, h.joinL_lv ha hb, (h.jn_is ha.lt hb.lt).lt⟩

/-- The level that a fold of joins comes to is below what all are below. -/
theorem Lat.fold_le {up : List Nat} (h : Lat up) {f : Nat → Lb} {x : Nat} (hx : x < up.length) : ∀ (L : List Nat) (o : Lb), Gd up o → (∀ b ∈ L, Gd up (f b)) →
    Gd up (L.foldl (fun out bit => joinL up out (f bit)) o) ∧
    (le up (L.foldl (fun out bit => joinL up out (f bit)) o).lv.toNat x = true ↔ le up o.lv.toNat x = true ∧ ∀ b ∈ L, le up (f b).lv.toNat x = true)
  | [], o, ho, _ => ⟨ho, by simp⟩
  | b :: r, o, ho, hf => by
    have hb := hf b (by simp)
    have ih := h.fold_le (f := f) hx r (joinL up o (f b)) (h.joinL_gd ho hb) fun c hc => hf c (by simp [hc])
    refine ⟨ih.1, ?_⟩
    rw [List.foldl_cons, ih.2, h.joinL_lv ho hb, Int.toNat_natCast, h.le_jn ho.lt hb.lt hx]
    simp only [List.mem_cons, forall_eq_or_imp]
    exact ⟨fun ⟨⟨h1, h2⟩, h3⟩ => ⟨h1, h2, h3⟩, fun ⟨h1, h2, h3⟩ => ⟨⟨h1, h2⟩, h3⟩⟩

theorem fold_ms {up : List Nat} {f : Nat → Lb} (j : Nat) : ∀ (L : List Nat) (o : Lb), (L.foldl (fun out bit => joinL up out (f bit)) o).ms.testBit j = true ↔ o.ms.testBit j = true ∨ ∃ b ∈ L, (f b).ms.testBit j = true
  | [], o => by simp
  | b :: r, o => by
    rw [List.foldl_cons, fold_ms j r]
    show ((o.ms ||| (f b).ms).testBit j = true) ∨ _ ↔ _
    rw [Nat.testBit_or, Bool.or_eq_true]
    simp only [List.mem_cons, exists_eq_or_imp]
    exact or_assoc

theorem fold_ms_lt {up : List Nat} {f : Nat → Lb} : ∀ (L : List Nat) (o : Lb), o.ms < 2 ^ 64 → (∀ b ∈ L, (f b).ms < 2 ^ 64) → (L.foldl (fun out bit => joinL up out (f bit)) o).ms < 2 ^ 64
  | [], _, ho, _ => ho
  | b :: r, o, ho, hf => fold_ms_lt r _ (Nat.or_lt_two_pow ho (hf b (by simp))) fun c hc => hf c (by simp [hc])

end Go.Idl
