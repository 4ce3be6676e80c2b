/- A region in a round of a loop over an iterator: as outside of one, where it defers nothing. -/
import Derived.Test.YtfloonpchjbmnaaDoorQc
import Derived.RangeFuncCalls
namespace Go.Idl
open Go Go.RowKit

/-- Does a region defer nothing? -/
def noDeferB (ops : Array Oper) : Bool := ops.all fun o => match o.op with | .defer _ => false | _ => true
theorem noDefer_spec {ops : Array Oper} (h : noDeferB ops = true) {i : Nat} {o : Oper} (ho : ops[i]? = some o) (c : Call) : o.op ≠ .defer c := by
  intro he
  unfold noDeferB at h
  rw [Array.all_eq_true_iff_forall_mem] at h
  have := h o (Array.mem_of_getElem? ho)
  rw [he] at this
  cases this

section
variable {F : Fence} {l n : Nat} {P : Program} {ops : Array Oper} {md : Region.Mode} {Q : Exit → Act → World → Prop}
theorem uponIn_ofRound {o : Oper} {a : Act} {K : Act → World → Prop} (r : Result Next) (h : o.uponIn F n P a K Q r) : o.uponIn (F.inRound l) n P a K Q r := by
  cases r with
  | ok x w => cases x <;> exact h
  | halt x w => cases x <;> exact h
theorem wpOpIn_ofRound (hro : F.round = none) (hd : noDeferB ops = true) {i : Nat} {K : Act → World → Prop} {a : Act} {w : World} (h : wpOpIn F n P ops Q i K a w) : wpOpIn (F.inRound l) n P ops Q i K a w := by
  unfold wpOpIn at h ⊢
  cases ho : ops[i]? with
  | none => rw [ho] at h; exact h
  | some o =>
    rw [ho] at h
    simp only at h ⊢
    split
    · rename_i hw
      rw [if_pos hw] at h
      refine ⟨h.1, ?_⟩
      have h2 := h.2
      rw [Oper.semAt_eq _ _ _ (noDefer_spec hd ho)] at h2 ⊢
      exact uponIn_ofRound _ h2
    · rename_i hw
      rw [if_neg hw] at h
      exact h
theorem wpAnyIn_ofRound (hro : F.round = none) (hd : noDeferB ops = true) : ∀ (f : Nat) (listed : Array Bool) (a : Act) (w : World), wpAnyIn F n P md ops Q f listed a w → wpAnyIn (F.inRound l) n P md ops Q f listed a w
  | 0, _, _, _, h => h
  | f + 1, listed, _, _, h => ⟨h.1, fun i hi => wpOpIn_ofRound hro hd (wpOpIn_mono (fun a w => wpAnyIn_ofRound hro hd f _ a w) (h.2 i hi))⟩
/-- .. so a region in a round is walked as outside of one. -/
theorem wpIn_region_round {id : Nat} {a : Act} {w : World} {ops : List Oper} (hm : P.follows .mixedOrders = true) (hro : F.round = none) (hd : noDeferB ops.toArray = true)
    (h : wpAnyIn F n P .any ops.toArray Q ops.toArray.size (Array.replicate ops.toArray.size false) a w.drew) : (Code.region id ops.toArray true).wpIn (F.inRound l) n P Q a w :=
  wpIn_region_any hm (wpAnyIn_ofRound hro hd _ _ _ _ h)
theorem wpAnyIn_three {f i k r : Nat} {listed : Array Bool} {a : Act} {w : World} (hr : Region.ready md ops listed = [i, k, r])
    (h : wpOpIn F n P ops Q i (wpAnyIn F n P md ops Q f (listed.setIfInBounds i true)) a w) (h2 : wpOpIn F n P ops Q k (wpAnyIn F n P md ops Q f (listed.setIfInBounds k true)) a w)
    (h3 : wpOpIn F n P ops Q r (wpAnyIn F n P md ops Q f (listed.setIfInBounds r true)) a w) : wpAnyIn F n P md ops Q (f + 1) listed a w :=
  ⟨fun h0 => (by rw [hr] at h0; cases h0), fun j hj => by
    rw [hr] at hj
    simp only [List.mem_cons, List.not_mem_nil, or_false] at hj
    rcases hj with rfl | rfl | rfl
    · exact h
    · exact h2
    · exact h3⟩
end
end Go.Idl
