/- Plain laws of joins and meets in a lattice. -/
import Derived.Test.YtaclogfchlphlaaDoorSy
namespace Go.Idl

section
variable {up : List Nat} {a b c : Nat}
theorem Lat.jn_of (h : Lat up) {k : Nat} (hk : IsJoin up a b k) (ha : a < up.length) (hb : b < up.length) : jn up a b = k := h.join_unique (h.jn_is ha hb) hk
theorem Lat.mt_of (h : Lat up) {k : Nat} (hk : IsMeet up a b k) (ha : a < up.length) (hb : b < up.length) : mt up a b = k := h.meet_unique (h.mt_is ha hb) hk
theorem Lat.jn_lt (h : Lat up) (ha : a < up.length) (hb : b < up.length) : jn up a b < up.length := (h.jn_is ha hb).lt
theorem Lat.mt_lt (h : Lat up) (ha : a < up.length) (hb : b < up.length) : mt up a b < up.length := (h.mt_is ha hb).lt
theorem Lat.jn_comm (h : Lat up) (ha : a < up.length) (hb : b < up.length) : jn up a b = jn up b a := h.jn_of (h.jn_is hb ha).symm ha hb
theorem Lat.mt_comm (h : Lat up) (ha : a < up.length) (hb : b < up.length) : mt up a b = mt up b a := h.mt_of (h.mt_is hb ha).symm ha hb
/-- Two levels with the same levels above them are one. -/
theorem Lat.ext_up (h : Lat up) (ha : a < up.length) (hb : b < up.length) (hab : ∀ x, x < up.length → (le up a x = true ↔ le up b x = true)) : a = b :=
  h.an a b ha hb ((hab b hb).2 (h.rf b hb)) ((hab a ha).1 (h.rf a ha))
theorem Lat.ext_down (h : Lat up) (ha : a < up.length) (hb : b < up.length) (hab : ∀ x, x < up.length → (le up x a = true ↔ le up x b = true)) : a = b :=
  h.an a b ha hb ((hab a ha).1 (h.rf a ha)) ((hab b hb).2 (h.rf b hb))
theorem Lat.jn_assoc (h : Lat up) (ha : a < up.length) (hb : b < up.length) (hc : c < up.length) : jn up (jn up a b) c = jn up a (jn up b c) := by
  have h1 := h.jn_lt ha hb
  have h2 := h.jn_lt hb hc
  refine h.ext_up (h.jn_lt h1 hc) (h.jn_lt ha h2) fun x hx => ?_
  rw [h.le_jn h1 hc hx, h.le_jn ha hb hx, h.le_jn ha h2 hx, h.le_jn hb hc hx, and_assoc]
theorem Lat.mt_assoc (h : Lat up) (ha : a < up.length) (hb : b < up.length) (hc : c < up.length) : mt up (mt up a b) c = mt up a (mt up b c) := by
  have h1 := h.mt_lt ha hb
  have h2 := h.mt_lt hb hc
  refine h.ext_down (h.mt_lt h1 hc) (h.mt_lt ha h2) fun x hx => ?_
  rw [h.le_mt h1 hc hx, h.le_mt ha hb hx, h.le_mt ha h2 hx, h.le_mt hb hc hx, and_assoc]
theorem Lat.mt_jn (h : Lat up) (ha : a < up.length) (hb : b < up.length) : mt up a (jn up a b) = a := by
  have h1 := h.jn_lt ha hb
  refine h.ext_down (h.mt_lt ha h1) ha fun x hx => ?_
  rw [h.le_mt ha h1 hx]
  exact ⟨fun h0 => h0.1, fun h0 => ⟨h0, h.tr x a _ hx ha h0 (h.jn_is ha hb).l⟩⟩
theorem Lat.jn_mt (h : Lat up) (ha : a < up.length) (hb : b < up.length) : jn up a (mt up a b) = a := by
  have h1 := h.mt_lt ha hb
  refine h.ext_up (h.jn_lt ha h1) ha fun x hx => ?_
  rw [h.le_jn ha h1 hx]
  exact ⟨fun h0 => h0.1, fun h0 => ⟨h0, h.tr _ a x h1 ha (h.mt_is ha hb).l h0⟩⟩
theorem Lat.jn_eq (h : Lat up) (ha : a < up.length) (hb : b < up.length) : decide (jn up a b = b) = le up a b := by
  rw [Bool.eq_iff_iff, decide_eq_true_eq]
  constructor
  · intro e
    have := (h.jn_is ha hb).l
    rwa [e] at this
  · intro hl
    exact h.jn_of ⟨hb, hl, h.rf b hb, fun m _ _ h2 => h2⟩ ha hb
theorem Lat.mt_eq (h : Lat up) (ha : a < up.length) (hb : b < up.length) : decide (mt up a b = a) = le up a b := by
  rw [Bool.eq_iff_iff, decide_eq_true_eq]
  constructor
  · intro e
    have := (h.mt_is ha hb).r
    rwa [e] at this
  · intro hl
    exact h.mt_of ⟨ha, h.rf a ha, hl, fun m _ h1 _ => h1⟩ ha hb
end
end Go.Idl
