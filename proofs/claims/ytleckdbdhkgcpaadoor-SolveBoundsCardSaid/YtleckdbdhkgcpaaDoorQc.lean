/- A region that draws its order and holds calls that make memory: quiet within a class of worlds; its last operations in whatever orders are left. -/
import Derived.Test.YtleckdbdhkgcpaaDoorQt
namespace Go.Idl
open Go Go.RowKit

section
variable {F : Fence} {n : Nat} {P : Program} {ops : Array Oper} {md : Region.Mode} {C : World → Prop}

/-- Each operation from m on waits for all those ahead of m. -/
def tailWaitsB (md : Region.Mode) (ops : Array Oper) (m : Nat) : Bool :=
  (List.range ops.size).all fun t => decide (t < m) || (List.range m).all fun i => ((List.range m).any fun j => decide (i < j) && Region.waitsFor md ops j i) || Region.waitsFor md ops t i

theorem tail_waits2 {m : Nat} {listed : Array Bool} (hs : tailWaitsB md ops m = true) (inv : HeadInv md ops m listed) :
    ∀ (d i : Nat), m - i = d → i < m → listed.getD i true = false → ∀ t, m ≤ t → t ∉ Region.ready md ops listed := by
  intro d
  induction d using Nat.strongRecOn with
  | _ d ih =>
    intro i hd hi hun t ht hr
    obtain ⟨_, ot, hot, hall⟩ := mem_ready.1 hr
    have htlt : t < ops.size := (Array.getElem?_eq_some_iff.1 hot).1
    have h1 := List.all_eq_true.1 hs t (List.mem_range.2 htlt)
    simp only [Bool.or_eq_true, decide_eq_true_eq] at h1
    rcases h1 with h1 | h1
    · omega
    · have h2 := List.all_eq_true.1 h1 i (List.mem_range.2 hi)
      simp only [Bool.or_eq_true] at h2
      rcases h2 with h2 | h2
      · obtain ⟨j, hj, hj2⟩ := List.any_eq_true.1 h2
        simp only [Bool.and_eq_true, decide_eq_true_eq] at hj2
        have hjm := List.mem_range.1 hj
        obtain ⟨oj, hoj, e, he, hb, hon⟩ := Region.waitsFor_spec hj2.2
        cases hl : listed.getD j false with
        | true =>
          have h3 := inv.closed j oj hoj hl e he hb
          rw [hon, getD_both hun] at h3
          cases h3
        | false =>
          have hjs : j < listed.size := by rw [inv.size]; exact (Array.getElem?_eq_some_iff.1 hoj).1
          exact ih (m - j) (by omega) j rfl hjm (getD_in hjs hl) t ht hr
      · obtain ⟨o', ho', e, he, hb, hon⟩ := Region.waitsFor_spec h2
        have : o' = ot := Option.some.inj (ho'.symm.trans hot)
        subst this
        have h3 := hall e he hb
        rw [hon, getD_both hun] at h3
        cases h3

theorem wpAnyQL_first2 {m i : Nat} {oi : Oper} {v : Value} {L : Array Bool → Act → Prop} (hi : ops[i]? = some oi) (hsel : ∀ (j : Nat) (o : Oper) cs b, ops[j]? = some o → o.op ≠ .select cs b)
    (hs : tailWaitsB md ops m = true) (hin : i < m)
    (hdone : ∀ listed a, L listed a → ∀ j ∈ Region.ready md ops listed, m ≤ j) :
    ∀ (f : Nat) (listed : Array Bool) (a : Act), HeadInv md ops m listed →
      (∀ j oj, ops[j]? = some oj → j ≠ i → listed.getD j true = false → (∀ e ∈ oj.after, Region.binds md e = true → e.on ≠ i) → oi.apart ops oj = true) →
      i ∈ Region.ready md ops listed → YieldsQuiet F n P ops C oi v a →
      wpAnyQL F n P md ops C m L f (listed.setIfInBounds i true) (a.put oi.dst v) → wpAnyQL F n P md ops C m L (f + 1) listed a := by
  intro f
  induction f with
  | zero =>
    intro listed a inv _ hr hy H
    have hun := (mem_ready.1 hr).1
    refine ⟨fun h => (by rw [h] at hr; cases hr), fun j hj => ?_⟩
    have hjn : j < m := by
      rcases Nat.lt_or_ge j m with h | h
      · exact h
      · exact absurd hj (tail_waits2 hs inv _ i rfl hin hun j h)
    refine ⟨hjn, ?_⟩
    by_cases hji : j = i
    · subst hji; exact hy.qOpIn hi H
    · have := hdone _ _ H j (ready_mono hj hji)
      omega
  | succ f ih =>
    intro listed a inv hfree hr hy H
    have hun := (mem_ready.1 hr).1
    refine ⟨fun h => (by rw [h] at hr; cases hr), fun j hj => ?_⟩
    have hjn : j < m := by
      rcases Nat.lt_or_ge j m with h | h
      · exact h
      · exact absurd hj (tail_waits2 hs inv _ i rfl hin hun j h)
    refine ⟨hjn, ?_⟩
    by_cases hji : j = i
    · subst hji; exact hy.qOpIn hi H
    · have h1 := (H.2 j (ready_mono hj hji)).2
      obtain ⟨hjun, oj, hoj, hall⟩ := mem_ready.1 hj
      have hnot : ∀ e ∈ oj.after, Region.binds md e = true → e.on ≠ i := fun e he hb heq => by
        have h1 := hall e he hb
        rw [heq, getD_both hun] at h1
        cases h1
      have h2 := qOpIn_put hoj (hfree j oj hoj hji hjun hnot) (fun cs b => hsel i oi cs b hi) (fun cs b => hsel j oj cs b hoj) hy h1
      have hfree' : ∀ k ok, ops[k]? = some ok → k ≠ i → (listed.setIfInBounds j true).getD k true = false →
          (∀ e ∈ ok.after, Region.binds md e = true → e.on ≠ i) → oi.apart ops ok = true := fun k ok hk hki hun hno => by
        refine hfree k ok hk hki ?_ hno
        by_cases hjk : j = k
        · subst hjk; exact hjun
        · rw [getD_set_ne true hjk] at hun; exact hun
      refine qOpIn_mono (fun a' h3 => ih (listed.setIfInBounds j true) a' (inv.set hj hjn) hfree' (ready_mono hr (Ne.symm hji)) h3.1 ?_) h2
      rw [Array.setIfInBounds_comm _ _ hji]
      exact h3.2

/-- The head in the order of the text; behind it just 'till' is listed, and no operation of the head is ready. -/
def lexHead2 (md : Region.Mode) (ops : Array Oper) (m : Nat) (till : Array Bool) : Nat → Nat → Array Bool → Bool
  | 0, _, listed => (listed == till) && (Region.ready md ops listed).all fun j => decide (m ≤ j)
  | f + 1, k, listed => (Region.ready md ops listed).contains k && Region.free md ops listed k && lexHead2 md ops m till f (k + 1) (listed.setIfInBounds k true)

theorem wpAnyQL_lex2 {m : Nat} {till : Array Bool} {Lq : Act → Prop} (hsel : Region.noSelect ops = true) (hs : tailWaitsB md ops m = true) :
    ∀ (l : List Oper) (k : Nat) (listed : Array Bool) (a : Act), (∀ j, j < l.length → l[j]? = ops[k + j]?) → k + l.length = m → HeadInv md ops m listed →
    lexHead2 md ops m till l.length k listed = true → wpQuietIn F n P ops C Lq l a →
    wpAnyQL F n P md ops C m (fun listed' a' => (listed' = till ∧ ∀ j ∈ Region.ready md ops listed', m ≤ j) ∧ Lq a') l.length listed a
  | [], k, listed, a, _, hk, _, hB, h => by
    simp only [List.length_nil, lexHead2, Bool.and_eq_true, beq_iff_eq, List.all_eq_true, decide_eq_true_eq] at hB
    exact ⟨hB, h⟩
  | o :: l, k, listed, a, hl, hk, inv, hB, h => by
    have h0 : ops[k]? = some o := by simpa using (hl 0 (by simp)).symm
    simp only [List.length_cons, lexHead2, Bool.and_eq_true] at hB
    obtain ⟨⟨hr, hf⟩, hB'⟩ := hB
    have hkn : k < m := by simp only [List.length_cons] at hk; omega
    have hr' : k ∈ Region.ready md ops listed := by simpa using hr
    have hst : qOpIn F n P ops C k (wpQuietIn F n P ops C Lq l) a := by unfold qOpIn; simp only [h0]; exact h
    obtain ⟨v, hy, hK⟩ := yieldsQuiet_of_qOpIn h0 hst
    exact wpAnyQL_first2 h0 (Region.noSelect_spec hsel) hs hkn (fun listed' a' hL => hL.1.2) l.length listed a inv (Region.free_spec h0 hf) hr' hy
      (wpAnyQL_lex2 hsel hs l (k + 1) _ _ (fun j hj => by have := hl (j + 1) (by simp; omega); simpa [Nat.add_assoc, Nat.add_comm 1 j] using this) (by simp only [List.length_cons] at hk; omega) (inv.set hr' hkn) hB' hK)

/-- What is asked of a region's text. -/
def classB (md : Region.Mode) (ops : Array Oper) (m : Nat) (till : Array Bool) : Bool :=
  Region.noSelect ops && decide (m ≤ ops.size) && tailWaitsB md ops m && lexHead2 md ops m till m 0 (Array.replicate ops.size false)

/-- A head that is quiet within a class of worlds; then whatever orders are left. -/
theorem wpIn_region_class {X : Type} (f : X → World) {id : Nat} {Q : Exit → Act → World → Prop} {a : Act} {w : World} {l : List Oper} (m : Nat) (till : List Bool) (hx : ∃ x, f x = w.drew) (hm : P.follows .mixedOrders = true) (hB : classB .any l.toArray m till.toArray = true)
    (h : wpQuietIn F n P l.toArray (fun w' => ∃ x, w' = f x) (fun a' => ∀ w', (∃ x, w' = f x) → wpAnyIn F n P .any l.toArray Q (l.length - m) till.toArray a' w') (l.take m) a) : (Code.region id l.toArray true).wpIn F n P Q a w := by
  simp only [classB, Bool.and_eq_true, decide_eq_true_eq] at hB
  obtain ⟨⟨⟨hsel, hn⟩, hs⟩, hlex⟩ := hB
  have hn' : m ≤ l.length := by simpa using hn
  have htl : (l.take m).length = m := by simp; omega
  have inv0 : HeadInv .any l.toArray m (Array.replicate l.toArray.size false) :=
    ⟨by simp, fun j oj _ hl => (by rw [getD_replicate_false] at hl; cases hl), fun t _ ht => getD_in (by simpa using ht) (getD_replicate_false _ _)⟩
  have H := wpAnyQL_lex2 (md := .any) (till := till.toArray) hsel hs (l.take m) 0 _ a (fun j hj => by
    have hj' : j < m := by rw [htl] at hj; exact hj
    simp [hj']) (by simpa using htl) inv0 (by rw [htl]; exact hlex) h
  refine wpIn_region_any hm ?_
  obtain ⟨x, hx⟩ := hx
  have := wpAnyIn_of_qhead (Q' := Q) (g := l.length - m) (fun listed a' w' hw' hL => by
    obtain ⟨⟨rfl, _⟩, hq⟩ := hL
    exact hq w' hw') _ _ _ _ ⟨x, hx.symm⟩ H
  rw [htl, show m + (l.length - m) = l.toArray.size by simp; omega] at this
  exact this

/-- The orders that are left, a step each. -/
theorem wpAnyIn_end {listed : Array Bool} {a : Act} {w : World} {Q : Exit → Act → World → Prop} (hr : Region.ready md ops listed = []) (h : Q .normal a w) : wpAnyIn F n P md ops Q 0 listed a w := ⟨hr, h⟩
theorem wpAnyIn_one {f i : Nat} {listed : Array Bool} {a : Act} {w : World} {Q : Exit → Act → World → Prop} (hr : Region.ready md ops listed = [i])
    (h : wpOpIn F n P ops Q i (wpAnyIn F n P md ops Q f (listed.setIfInBounds i true)) a w) : wpAnyIn F n P md ops Q (f + 1) listed a w :=
  ⟨fun h0 => (by rw [hr] at h0; cases h0), fun j hj => by
    rw [hr] at hj
    obtain rfl : j = i := by simpa using hj
    exact h⟩
theorem wpAnyIn_two {f i k : Nat} {listed : Array Bool} {a : Act} {w : World} {Q : Exit → Act → World → Prop} (hr : Region.ready md ops listed = [i, k])
    (h : wpOpIn F n P ops Q i (wpAnyIn F n P md ops Q f (listed.setIfInBounds i true)) a w) (h2 : wpOpIn F n P ops Q k (wpAnyIn F n P md ops Q f (listed.setIfInBounds k true)) a w) : wpAnyIn F n P md ops Q (f + 1) listed a w :=
  ⟨fun h0 => (by rw [hr] at h0; cases h0), fun j hj => by
    rw [hr] at hj
    simp only [List.mem_cons, List.not_mem_nil, or_false] at hj
    rcases hj with rfl | rfl
    · exact h
    · exact h2⟩
theorem wpOpIn_at {i : Nat} {o : Oper} {a : Act} {w : World} {Q : Exit → Act → World → Prop} {K : Act → World → Prop} (ho : ops[i]? = some o) (hw : Region.wanted o (yielded ops a.tmps) = true)
    (h : ∀ K', (∀ a w, K a w → K' a w) → o.wpIn F n P a w K' Q) : wpOpIn F n P ops Q i K a w := by
  unfold wpOpIn
  simp only [ho, hw, if_true]
  exact h K fun _ _ h => h
end

/-- The class of worlds that leave what lay below B as it lies in w. -/
theorem class_below (B : Nat) (w : World) : ∃ (X : Type) (f : X → World), (∀ x, Below B w (f x)) ∧ ∀ W, Below B w W → ∃ x, f x = W :=
  ⟨{ W : World // Below B w W }, Subtype.val, fun x => x.2, fun W h => ⟨⟨W, h⟩, rfl⟩⟩
theorem class_law {F : Fence} {r : Nat} {P : Program} {g : FuncId} {args : Array Value} {B : Nat} {w W : World} {v : Value} {X : Type} {f : X → World} (hall : ∀ W, Below B w W → ∃ x, f x = W) (hB : Below B w W) (hBW : B ≤ W.heap.size)
    (h : CallsIn F r P g args W fun e w' => e = .returned v ∧ Below W.heap.size W w') : CallsIn F r P g args W fun e w'' => e = .returned v ∧ ∃ x, w'' = f x :=
  h.mono fun _ _ ⟨he, hb⟩ => ⟨he, by
    obtain ⟨x, hx⟩ := hall _ (hB.trans (hb.mono hBW))
    exact ⟨x, hx.symm⟩⟩
end Go.Idl
