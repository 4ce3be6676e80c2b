/- Plain laws: the covers make the lattice again, and none is too many. -/
import Derived.Test.YtaclogfchlphlaaDoorPc
import Derived.Test.YtaclogfchlphlaaDoorCs
namespace Go.Idl

theorem natP_intP (ps : List (Nat × Nat)) : (intP ps).map natP = ps := by
  unfold intP
  rw [List.map_map]
  have : (natP ∘ fun p : Nat × Nat => ((p.1 : Int), (p.2 : Int))) = id := by
    funext p
    simp [natP]
  rw [this, List.map_id]
theorem intP_ok {n : Nat} {ps : List (Nat × Nat)} (h : ∀ x ∈ ps, x.1 < n ∧ x.2 < n) : ∀ p ∈ intP ps, pairOk (n : Nat) p = true := by
  intro p hp
  unfold intP at hp
  obtain ⟨x, hx, rfl⟩ := List.mem_map.1 hp
  have := h x hx
  simp only [pairOk, Bool.and_eq_true, decide_eq_true_eq]
  omega
theorem coversL_lt {up : List Nat} : ∀ x ∈ coversL up, x.1 < up.length ∧ x.2 < up.length := fun x hx => by
  have := (mem_coversL (a := x.1) (b := x.2)).1 hx
  exact ⟨this.1, this.2.1⟩

theorem Lat.covers_build {up : List Nat} (h : Lat up) : bldI (up.length : Nat) (intP (coversL up)) = 0 ∧ bldL (up.length : Nat) (intP (coversL up)) = up := by
  have hok := intP_ok (coversL_lt (up := up))
  have hm := warsP_made hok
  rw [natP_intP] at hm
  have e : warsP up.length (intP (coversL up)) = up := hm.unique h.toOrd.covers_made
  have := bld_ok h.n1 h.n64 hok (by rw [e]; exact h.mk_)
  rw [e] at this
  exact this

theorem Lat.covers_nil {up : List Nat} (h : Lat up) (h0 : coversL up = []) : up.length = 1 := by
  have h1 := h.n1
  apply Classical.byContradiction
  intro hne
  have hj := h.jn_is (a := 0) (b := 1) (by omega) (by omega)
  have hw : ∀ a b, le up a b = true → a = b := by
    intro a b hl
    have := h.toOrd.covers_way (cA up a) a b (by omega) hl
    rw [h0] at this
    cases this with
    | refl => rfl
    | step h2 _ => cases h2
  have e1 := hw _ _ hj.l
  have e2 := hw _ _ hj.r
  omega

/-- A list without its k-th. -/
def lessL {α : Type} (l : List α) (k : Nat) : List α := l.take k ++ l.drop (k + 1)
theorem lessL_len {α : Type} (l : List α) (k : Nat) (hk : k < l.length) : (lessL l k).length = l.length - 1 := by
  unfold lessL
  rw [List.length_append, List.length_take, List.length_drop]
  omega
theorem lessL_map {α β : Type} (f : α → β) (l : List α) (k : Nat) : lessL (l.map f) k = (lessL l k).map f := by
  unfold lessL
  rw [List.map_append, List.map_take, List.map_drop]
theorem lessL_sub {α : Type} {l : List α} {k : Nat} : ∀ x ∈ lessL l k, x ∈ l := fun x hx => by
  unfold lessL at hx
  rcases List.mem_append.1 hx with h | h
  · exact List.mem_of_mem_take h
  · exact List.mem_of_mem_drop h
theorem lessL_not {α : Type} {l : List α} {k : Nat} {x : α} (hn : l.Nodup) (hx : l[k]? = some x) : x ∉ lessL l k := by
  obtain ⟨hk, hx'⟩ := List.getElem?_eq_some_iff.1 hx
  have e : l = l.take k ++ x :: l.drop (k + 1) := by
    rw [← hx', ← List.drop_eq_getElem_cons hk, List.take_append_drop]
  rw [e, List.nodup_append] at hn
  obtain ⟨_, h2, h3⟩ := hn
  rw [List.nodup_cons] at h2
  intro h
  unfold lessL at h
  rcases List.mem_append.1 h with h | h
  · exact h3 x h x (by simp) rfl
  · exact h2.1 h

theorem Lat.covers_less {up : List Nat} (h : Lat up) {k : Nat} (hk : k < (coversL up).length) : ¬ (bldI (up.length : Nat) (intP (lessL (coversL up) k)) = 0 ∧ bldL (up.length : Nat) (intP (lessL (coversL up) k)) = up) := by
  rintro ⟨h0, h1⟩
  have hlt : ∀ x ∈ lessL (coversL up) k, x.1 < up.length ∧ x.2 < up.length := fun x hx => coversL_lt x (lessL_sub x hx)
  have hm := warsP_made (intP_ok hlt)
  rw [natP_intP] at hm
  unfold bldL at h1
  rw [h0, if_pos rfl, Int.toNat_natCast] at h1
  rw [h1] at hm
  obtain ⟨a, b, hx⟩ : ∃ a b, (coversL up)[k]? = some (a, b) := ⟨_, _, List.getElem?_eq_getElem hk⟩
  have hab := List.mem_of_getElem? hx
  have hno := lessL_not (nodup_coversL up) hx
  obtain ⟨ha, hb, hc⟩ := mem_coversL.1 hab
  refine h.toOrd.cover_needed (fun x hx => lessL_sub x hx) hab hno ((hm.iff_ a b ha).1 ?_)
  simp only [isCover, Bool.and_eq_true] at hc
  exact hc.1.2
end Go.Idl
