/- Plain laws of systems as they are read. -/
import Derived.Test.YtleckdbdhkgcpaaDoorVf
namespace Go.Idl
open Go Go.RowKit
set_option linter.unusedSimpArgs false
set_option linter.unusedVariables false

theorem sysB_sys {up : List Nat} (hM : Masks up) {consts : List Lb} {needs : List (List Int)} (h : sysB up consts needs = true) : ∃ N : List (List Nat), needs = N.map casts ∧ Idl.Sys up consts N := by
  simp only [sysB, Bool.and_eq_true, decide_eq_true_eq, List.all_eq_true, List.mem_range, Bool.not_eq_true'] at h
  obtain ⟨⟨⟨h1, h2⟩, h3⟩, h4⟩ := h
  have hz : ∀ i, i < consts.length → ∀ z ∈ needs.getD i [], ∃ k : Nat, z = (k : Int) ∧ k < consts.length := by
    intro i hi z hz
    have h5 := (h4 i hi).2
    rw [List.any_eq_false] at h5
    have h6 := h5 z hz
    simp only [badI, Bool.or_eq_true, decide_eq_true_eq, not_or] at h6
    exact ⟨z.toNat, by omega, by omega⟩
  have hall : ∀ ns ∈ needs, ∀ z ∈ ns, ∃ k : Nat, z = (k : Int) ∧ k < consts.length := by
    intro ns hns
    obtain ⟨i, hi, rfl⟩ := List.getElem_of_mem hns
    have := hz i (by omega)
    rw [List.getD_eq_getElem?_getD, List.getElem?_eq_getElem hi] at this
    exact this
  have hc : ∀ ns ∈ needs, casts (ns.map Int.toNat) = ns := by
    intro ns hns
    unfold casts
    rw [List.map_map]
    have : ns.map ((fun k : Nat => (k : Int)) ∘ Int.toNat) = ns.map id := List.map_congr_left fun z hzm => by
      obtain ⟨k, rfl, _⟩ := hall ns hns z hzm
      simp
    rw [this, List.map_id]
  have he : needs = (needs.map fun ns => ns.map Int.toNat).map casts := by
    rw [List.map_map]
    have : needs.map (casts ∘ fun ns => ns.map Int.toNat) = needs.map id := List.map_congr_left fun ns hns => hc ns hns
    rw [this, List.map_id]
  refine ⟨_, he, ⟨Lat.of hM h1, by rw [List.length_map]; exact h3, fun i hi => gd_iff.1 (h4 i hi).1, fun i hi k hk => ?_⟩⟩
  have e2 : (needs.map fun ns => ns.map Int.toNat).getD i [] = (needs.getD i []).map Int.toNat := by
    rw [List.getD_eq_getElem?_getD, List.getD_eq_getElem?_getD, List.getElem?_map]
    cases needs[i]? <;> rfl
  rw [e2] at hk
  obtain ⟨z, hzm, rfl⟩ := List.mem_map.1 hk
  obtain ⟨k, rfl, hlt⟩ := hz i hi z hzm
  simpa using hlt
/-- .. and what may be, may be. -/
theorem sys_sysB {up : List Nat} {consts : List Lb} {needs : List (List Nat)} (hq : latB up = true) (h16 : consts.length ≤ 16384) (h : Idl.Sys up consts needs) : sysB up consts (needs.map casts) = true := by
  simp only [sysB, Bool.and_eq_true, decide_eq_true_eq, List.all_eq_true, List.mem_range, Bool.not_eq_true']
  refine ⟨⟨⟨hq, h16⟩, by rw [List.length_map]; exact h.len⟩, fun i hi => ⟨gd_iff.2 (h.gd i hi), ?_⟩⟩
  rw [castss_getD, List.any_eq_false]
  intro z hz
  obtain ⟨k, hk, rfl⟩ := List.mem_map.1 hz
  have := h.nd i hi k hk
  simp only [badI, Bool.or_eq_true, decide_eq_true_eq, not_or]
  omega
theorem foldl_max_ub (f : Nat → Nat) (x : Nat) : ∀ (L : List Nat) (m : Nat), m ≤ x → (∀ v ∈ L, f v ≤ x) → L.foldl (fun m v => max m (f v)) m ≤ x
  | [], m, hm, _ => hm
  | v :: r, m, hm, h => by
    rw [List.foldl_cons]
    refine foldl_max_ub f x r _ ?_ fun y hy => h y (by simp [hy])
    have := h v (by simp)
    omega
theorem times_le_len (k b : Nat) : ∀ needs : List (List Nat), (∀ ns ∈ needs, ns.length ≤ b) → timesF needs k ≤ needs.length * b
  | [], _ => by simp [timesF]
  | ns :: r, h => by
    have ih := times_le_len k b r fun y hy => h y (by simp [hy])
    unfold timesF at ih ⊢
    rw [List.map_cons, List.sum_cons, List.length_cons, Nat.add_mul, Nat.one_mul]
    have h1 := h ns (by simp)
    have h2 := List.count_le_length (a := k) (l := ns)
    omega
theorem fan_le {needs : List (List Nat)} {b : Nat} (h : ∀ ns ∈ needs, ns.length ≤ b) : fanF needs ≤ needs.length * b := foldl_max_ub _ _ _ 0 (Nat.zero_le _) fun v _ => times_le_len v b needs h
theorem fewB_iff {l m : Nat} {needs : List (List Int)} : fewB l m needs = true ↔ l ≤ 60 ∧ m ≤ 60 ∧ ∀ i, i < m → (needs.getD i []).length ≤ 60 := by
  simp only [fewB, Bool.and_eq_true, decide_eq_true_eq, List.all_eq_true, List.mem_range, and_assoc]
theorem few_fan {l m : Nat} {needs : List (List Nat)} (h : fewB l m (needs.map casts) = true) (hm : needs.length = m) : fanF needs ≤ 1000000 := by
  obtain ⟨h1, h2, h3⟩ := fewB_iff.1 h
  have h4 : ∀ ns ∈ needs, ns.length ≤ 60 := by
    intro ns hns
    obtain ⟨i, hi, rfl⟩ := List.getElem_of_mem hns
    have := h3 i (by omega)
    rw [castss_getD, casts_len', List.getD_eq_getElem?_getD, List.getElem?_eq_getElem hi] at this
    exact this
  have := fan_le h4
  have h5 : needs.length * 60 ≤ 60 * 60 := Nat.mul_le_mul_right _ (by omega)
  omega
end Go.Idl
