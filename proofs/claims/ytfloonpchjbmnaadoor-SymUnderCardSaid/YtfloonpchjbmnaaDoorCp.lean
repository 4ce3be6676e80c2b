/- Plain laws of Cap; the reference's Cap. -/
import Derived.Test.YtfloonpchjbmnaaDoorSj
import Derived.Test.YtfloonpchjbmnaaDoorRj
import Derived.Test.YtfloonpchjbmnaaDoorSr
namespace Go.Idl
open Go Go.RowKit
theorem add0 (g j : Nat) : (⟨g, 0, none⟩ : Addr).add j = ⟨g, j, none⟩ := by
  unfold Addr.add
  split
  · rename_i h; subst h; rfl
  · simp
/-- Caps, capped at some bits. -/
def capTo (up : List Nat) (bound : Int) (L : List Nat) (cs : List Int) : List Int := L.foldl (fun cs b => cs.set b (meetI up (cs.getD b 0).toNat bound.toNat)) cs
def capF (up : List Nat) (cs : List Int) (m : Nat) (bound : Int) : List Int := capTo up bound (bitsOf m) cs
def capOk (up : List Nat) (cs : List Int) (l : Lb) (bound : Int) : Bool := levB up (cs ++ [bound, l.lv]) && fitsB l.ms 7
def capL (up : List Nat) (cs : List Int) (l : Lb) (bound : Int) : List Int := if capOk up cs l bound = true then capF up cs l.ms bound else [0, 0, 0, 0, 0, 0, 0]
theorem capTo_len (up : List Nat) (bound : Int) : ∀ (L : List Nat) (cs : List Int), (capTo up bound L cs).length = cs.length
  | [], _ => rfl
  | b :: r, cs => by
    show (capTo up bound r (cs.set b _)).length = _
    rw [capTo_len up bound r, List.length_set]
theorem capTo_snoc (up : List Nat) (bound : Int) (L : List Nat) (b : Nat) (cs : List Int) : capTo up bound (L ++ [b]) cs = (capTo up bound L cs).set b (meetI up ((capTo up bound L cs).getD b 0).toNat bound.toNat) := by
  unfold capTo
  rw [List.foldl_append]
  rfl
theorem capL_len (up : List Nat) (cs : List Int) (l : Lb) (bound : Int) (h : cs.length = 7) : (capL up cs l bound).length = 7 := by
  unfold capL
  split
  · unfold capF; rw [capTo_len, h]
  · rfl
theorem capOk_iff {up : List Nat} {cs : List Int} {l : Lb} {bound : Int} : capOk up cs l bound = true ↔ latB up = true ∧ (∀ k ∈ cs, goodB up k = true) ∧ goodB up bound = true ∧ goodB up l.lv = true ∧ fitsB l.ms 7 = true := by
  unfold capOk levB
  simp only [Bool.and_eq_true, List.all_append, List.all_cons, List.all_nil, Bool.and_true, List.all_eq_true]
  constructor
  · rintro ⟨⟨h1, h2, h3, h4⟩, h5⟩
    exact ⟨h1, h2, h3, h4, h5⟩
  · rintro ⟨h1, h2, h3, h4, h5⟩
    exact ⟨⟨h1, h2, h3, h4⟩, h5⟩
theorem bits7 {m : Nat} (h : fitsB m 7 = true) {b : Nat} (hb : b ∈ bitsOf m) : b < 7 := by
  rcases fitsB_iff.1 h b hb with h1 | h1 <;> omega
theorem bits_of_7 {m : Nat} (h : fitsB m 7 = true) : bitsOf m = (List.range 7).filter fun i => m.testBit i := by
  unfold bitsOf
  refine filter_more (by decide) fun i h1 h2 => ?_
  cases hb : m.testBit i with
  | false => rfl
  | true => have := bits7 h (mem_bitsOf.2 ⟨h2, hb⟩); omega
/-- What the document's loop has made at j. -/
def rcapTo (up : List Nat) (cs : List Int) (m : Nat) (bound : Int) (j : Nat) : List Int := capTo up bound ((List.range j).filter fun i => m.testBit i) cs
theorem rcapTo_succ (up : List Nat) (cs : List Int) (m : Nat) (bound : Int) (j : Nat) : rcapTo up cs m bound (j + 1) = if m.testBit j = true then (rcapTo up cs m bound j).set j (meetI up ((rcapTo up cs m bound j).getD j 0).toNat bound.toNat) else rcapTo up cs m bound j := by
  unfold rcapTo
  rw [List.range_succ, List.filter_append]
  by_cases h : m.testBit j = true
  · rw [if_pos h, List.filter_cons_of_pos h]
    exact capTo_snoc up bound _ j cs
  · rw [if_neg h, List.filter_cons_of_neg h]
    simp
theorem capF_ref {up : List Nat} {cs : List Int} {m : Nat} {bound : Int} (h : fitsB m 7 = true) : capF up cs m bound = rcapTo up cs m bound 7 := by
  unfold capF rcapTo
  rw [bits_of_7 h]
/-- Caps that are levels stay levels. -/
theorem capTo_good {up : List Nat} (La : Lat up) {bound : Int} (hb : goodB up bound = true) : ∀ (L : List Nat) (cs : List Int), (∀ b ∈ L, b < cs.length) → (∀ k ∈ cs, goodB up k = true) → ∀ k ∈ capTo up bound L cs, goodB up k = true
  | [], _, _, h => h
  | b :: r, cs, hL, h => by
    have hbl : b < cs.length := hL b (by simp)
    refine capTo_good La hb r (cs.set b _) (fun c hc => by rw [List.length_set]; exact hL c (by simp [hc])) fun k hk => ?_
    rcases List.mem_or_eq_of_mem_set hk with h1 | rfl
    · exact h k h1
    · have hg := h (cs.getD b 0) (by rw [List.getD_eq_getElem?_getD, List.getElem?_eq_getElem hbl]; exact List.getElem_mem hbl)
      obtain ⟨x, hx, hxl⟩ := goodB_iff.1 hg
      obtain ⟨y, hy, hyl⟩ := goodB_iff.1 hb
      rw [hx, hy, Int.toNat_natCast, Int.toNat_natCast]
      have hm := La.mt_is hxl hyl
      exact goodB_iff.2 ⟨mt up x y, La.meetI_eq hxl hyl, hm.lt⟩
theorem getD_good {up : List Nat} {cs : List Int} {b : Nat} (h : ∀ k ∈ cs, goodB up k = true) (hb : b < cs.length) : goodB up (cs.getD b 0) = true :=
  h _ (by rw [List.getD_eq_getElem?_getD, List.getElem?_eq_getElem hb]; exact List.getElem_mem hb)
end Go.Idl
