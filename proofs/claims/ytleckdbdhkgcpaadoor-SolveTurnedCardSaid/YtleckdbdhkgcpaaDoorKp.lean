/- What stays where some blocks turn; rows that a call owns. -/
import Derived.Lib.Hide
import Derived.Maps.Own
import Derived.Test.YtleckdbdhkgcpaaDoorMw
import Derived.Test.YtleckdbdhkgcpaaDoorWp
namespace Go.Idl
open Go Go.RowKit
set_option linter.unusedSimpArgs false
set_option linter.unusedVariables false

/-- All blocks stay but those of S. -/
structure Kept (S : Nat → Prop) (w w' : World) : Prop where
  os : w'.os = w.os
  tape : w'.tape = w.tape
  output : w'.output = w.output
  size : w.heap.size ≤ w'.heap.size
  block : ∀ k, k < w.heap.size → ¬ S k → w'.heap[k]? = w.heap[k]?

theorem Kept.refl (S : Nat → Prop) (w : World) : Kept S w w := ⟨rfl, rfl, rfl, Nat.le_refl _, fun _ _ _ => rfl⟩
theorem Kept.trans {S S' T : Nat → Prop} {a b c : World} (h : Kept S a b) (k : Kept S' b c) (h1 : ∀ i, i < a.heap.size → S i → T i) (h2 : ∀ i, i < a.heap.size → S' i → T i) : Kept T a c :=
  ⟨k.os.trans h.os, k.tape.trans h.tape, k.output.trans h.output, Nat.le_trans h.size k.size, fun i hi hn => (k.block i (Nat.lt_of_lt_of_le hi h.size) fun hs => hn (h2 i hi hs)).trans (h.block i hi fun hs => hn (h1 i hi hs))⟩
theorem Kept.mono {S T : Nat → Prop} {a b : World} (h : Kept S a b) (h1 : ∀ i, i < a.heap.size → S i → T i) : Kept T a b := ⟨h.os, h.tape, h.output, h.size, fun i hi hn => h.block i hi fun hs => hn (h1 i hi hs)⟩
theorem Kept.below {S : Nat → Prop} {a b : World} {B : Nat} (h : Kept S a b) (hB : B ≤ a.heap.size) (h1 : ∀ i, i < B → ¬ S i) : Below B a b := ⟨h.os, h.tape, h.output, h.size, fun i hi => h.block i (Nat.lt_of_lt_of_le hi hB) (h1 i hi)⟩
theorem Kept.of_below {S : Nat → Prop} {a b : World} {B : Nat} (h : Below B a b) (h1 : ∀ i, B ≤ i → i < a.heap.size → S i) : Kept S a b :=
  ⟨h.os, h.tape, h.output, h.size, fun i hi hn => h.block i (Nat.lt_of_not_ge fun hg => hn (h1 i hg hi))⟩
theorem Kept.of_grown {a b : World} {row : Option Nat} {S : Nat → Prop} (h : a.grownBy b row) (h1 : ∀ g, row = some g → S g) : Kept S a b :=
  ⟨h.os, h.tape, h.output, h.size, fun i hi hn => h.block i hi fun e => hn (h1 i e.symm)⟩
theorem Kept.alloc {S : Nat → Prop} {a b : World} (h : Kept S a b) (o : Obj) : Kept S a (b.alloc o) :=
  ⟨h.os, h.tape, h.output, Nat.le_trans h.size (by simp), fun i hi hn => (Below.heap_alloc b o i (Nat.lt_of_lt_of_le hi h.size)).trans (h.block i hi hn)⟩
theorem Kept.setCell {S : Nat → Prop} {a b : World} (h : Kept S a b) {p : Addr} (hp : S p.block) (u : Value) : Kept S a (b.setCell p u) :=
  ⟨h.os, h.tape, h.output, Nat.le_trans h.size (by simp [World.setCell]), fun i hi hn => (Below.heap_setCell b p u i fun e => hn (e ▸ hp)).trans (h.block i hi hn)⟩
theorem Kept.drew {S : Nat → Prop} {a b : World} (h : Kept S a b) : Kept S a b.drew := ⟨h.os, h.tape, h.output, h.size, h.block⟩
theorem Kept.drewN {S : Nat → Prop} {a b : World} (h : Kept S a b) (n : Nat) : Kept S a (b.drewN n) := ⟨h.os, h.tape, h.output, h.size, h.block⟩
theorem Kept.more {S : Nat → Prop} {a b c : World} (h : Kept S a b) (k : Below b.heap.size b c) : Kept S a c := h.trans (Kept.of_below (S := S) k fun i h1 h2 => absurd h2 (Nat.not_lt_of_ge h1)) (fun _ _ h => h) (fun _ _ h => h)

theorem Blk.at_kept {w w' : World} {g : Nat} {t : TypeId} {cs : Array Value} {S : Nat → Prop} (h : Blk w g t cs) (k : Kept S w w') (hn : ¬ S g) : Blk w' g t cs := (k.block g h.lt hn).trans h
theorem own_kept {w w' : World} {base : Nat} {e : TypeId} {size n : Nat} {v : Value} {xs : List Value} {S : Nat → Prop} (h : w.ownsRow base e size v n xs) (k : Kept S w w') (hn : ∀ g, v.ownBlock = some g → ¬ S g) : w'.ownsRow base e size v n xs := by
  refine ⟨h.1, ?_⟩
  rcases h.2 with h0 | ⟨g, cap, cur, rfl, hb, hh, hr⟩
  · exact .inl h0
  · exact .inr ⟨g, cap, cur, rfl, hb, Blk.at_kept (t := e) (cs := cur) hh k (hn g rfl), hr⟩
theorem map_kept {H : Type} {P : Program} {kt : TypeId} {R : Value → Option (DataW H × List MemPlace)} {w w' : World} {b n : Nat} {D : DataW H} {S : Nat → Prop} (h : w.ownsMap P kt R b n D) (k : Kept S w w') (hn : ¬ S b) : w'.ownsMap P kt R b n D := by
  have hl := h.lt
  obtain ⟨es, clock, hb, hr⟩ := h
  exact ⟨es, clock, (k.block b hl hn).trans hb, hr⟩

/-- Numbers in memory. -/
def nums (zs : List Int) : List Value := zs.map (Value.int .i64)
theorem nums_len (zs : List Int) : (nums zs).length = zs.length := by simp [nums]
theorem nums_at {zs : List Int} {j : Nat} (hj : j < zs.length) : (nums zs)[j]? = some (Value.int .i64 (zs.getD j 0)) := by
  unfold nums
  rw [List.getElem?_map, List.getD_eq_getElem?_getD, List.getElem?_eq_getElem hj]
  rfl
theorem nums_set (zs : List Int) (i : Nat) (x : Int) : (nums zs).set i (.int .i64 x) = nums (zs.set i x) := by unfold nums; rw [List.map_set]
theorem nums_app (a b : List Int) : nums (a ++ b) = nums a ++ nums b := by unfold nums; rw [List.map_append]
theorem nums_one (l : List Int) : ∀ u ∈ nums l, u.oneCell' = true := by
  intro u hu
  obtain ⟨x, _, rfl⟩ := List.mem_map.1 hu
  rfl

/-- A row of numbers at a block's start, with room behind it. -/
def Qrow (w : World) (g : Nat) (e : TypeId) (cap : Nat) (zs : List Int) : Prop :=
  ∃ cur, Blk w g e cur ∧ cur.size = cap ∧ zs.length ≤ cap ∧ cap ≤ maxLen ∧ cur.toList.take zs.length = nums zs
theorem Qrow.lt {w : World} {g : Nat} {e : TypeId} {cap : Nat} {zs : List Int} (h : Qrow w g e cap zs) : g < w.heap.size := by obtain ⟨cur, k, _⟩ := h; exact k.lt
theorem Qrow.own {w : World} {g : Nat} {e : TypeId} {cap : Nat} {zs : List Int} (h : Qrow w g e cap zs) {base : Nat} (hb : base ≤ g) : w.ownsRow base e 1 (.slice (some ⟨g, 0, none⟩) zs.length cap) zs.length (nums zs) := by
  obtain ⟨cur, k, h1, h2, h3, h4⟩ := h
  exact ⟨by rw [nums_len]; omega, .inr ⟨g, cap, cur, rfl, hb, k, h2, h3, by omega, by rw [Nat.mul_one]; exact h4⟩⟩
theorem Qrow.of {w : World} {base : Nat} {e : TypeId} {v : Value} {n : Nat} {zs : List Int} (h : w.ownsRow base e 1 v n (nums zs)) (hn : 0 < n) : ∃ g cap, v = .slice (some ⟨g, 0, none⟩) n cap ∧ base ≤ g ∧ Qrow w g e cap zs ∧ zs.length = n := by
  have hl := h.1
  rw [nums_len, Nat.mul_one] at hl
  rcases h.2 with ⟨_, h0⟩ | ⟨g, cap, cur, rfl, hb, hh, h1, h2, h3, h4⟩
  · omega
  · rw [Nat.mul_one] at h3 h4
    exact ⟨g, cap, rfl, hb, ⟨cur, hh, h3, by omega, h2, by rw [hl]; exact h4⟩, hl⟩
theorem Qrow.at_ {w : World} {g : Nat} {e : TypeId} {cap : Nat} {zs : List Int} (h : Qrow w g e cap zs) : ∃ cur, Blk w g e cur ∧ ∀ i, i < zs.length → cur[i]? = some (.int .i64 (zs.getD i 0)) := by
  obtain ⟨cur, k, h1, h2, h3, h4⟩ := h
  refine ⟨cur, k, fun i hi => ?_⟩
  have := nums_at hi
  rw [← h4, List.getElem?_take_of_lt hi] at this
  simpa using this
theorem Qrow.reads {w : World} {g : Nat} {e : TypeId} {cap : Nat} {zs : List Int} (h : Qrow w g e cap zs) : Reads w w.heap.size 1 (some ⟨g, 0, none⟩) zs.length (nums zs) := Reads.of_own (h.own (Nat.zero_le g))
/-- Two numbers of it change their places. -/
theorem Qrow.swap {w w' : World} {g : Nat} {e : TypeId} {cap : Nat} {zs : List Int} (h : Qrow w g e cap zs) {cur : Array Value} (k : Blk w g e cur) {i j : Nat}
    (k' : Blk w' g e ((cur.setIfInBounds i (.int .i64 (zs.getD j 0))).setIfInBounds j (.int .i64 (zs.getD i 0)))) : Qrow w' g e cap (swapL zs i j) := by
  obtain ⟨cur0, k0, h1, h2, h3, h4⟩ := h
  have hc : cur0 = cur := by
    unfold Blk at k k0
    rw [k] at k0
    injection k0 with k0
    injection k0 with k0
    exact k0.symm
  subst hc
  refine ⟨_, k', by simp [h1], by rw [swapL_len]; exact h2, h3, ?_⟩
  rw [swapL_len]
  unfold swapL
  rw [← nums_set, ← nums_set, ← h4]
  simp [List.take_set]
theorem Qrow.kept {w w' : World} {g : Nat} {e : TypeId} {cap : Nat} {zs : List Int} {S : Nat → Prop} (h : Qrow w g e cap zs) (k : Kept S w w') (hn : ¬ S g) : Qrow w' g e cap zs := by
  obtain ⟨cur, k0, hr⟩ := h
  exact ⟨cur, k0.at_kept k hn, hr⟩
/-- One less at its end. -/
theorem Qrow.pop {w : World} {g : Nat} {e : TypeId} {cap : Nat} {zs : List Int} (h : Qrow w g e cap zs) : Qrow w g e cap zs.dropLast := by
  obtain ⟨cur, k, h1, h2, h3, h4⟩ := h
  refine ⟨cur, k, h1, by rw [List.length_dropLast]; omega, h3, ?_⟩
  rw [List.length_dropLast, List.dropLast_eq_take]
  have : (cur.toList.take zs.length).take (zs.length - 1) = (nums zs).take (zs.length - 1) := by rw [h4]
  rw [List.take_take, Nat.min_eq_left (by omega)] at this
  rw [this]
  unfold nums
  rw [List.map_take]

/-- Naturals as numbers. -/
def casts (W : List Nat) : List Int := W.map fun k : Nat => (k : Int)
theorem perm_casts {zs : List Int} {W : List Nat} (h : zs.Perm (casts W)) : ∃ W' : List Nat, zs = casts W' ∧ W'.Perm W := by
  unfold casts at *
  refine ⟨zs.map Int.toNat, ?_, ?_⟩
  · rw [List.map_map]
    have h1 : zs.map ((fun k : Nat => (k : Int)) ∘ Int.toNat) = zs.map id := List.map_congr_left fun z hz => by
      obtain ⟨k, _, rfl⟩ := List.mem_map.1 (h.mem_iff.1 hz)
      simp
    rw [h1]
    simp
  · have h2 := h.map Int.toNat
    rw [List.map_map] at h2
    have h1 : W.map (Int.toNat ∘ fun k : Nat => (k : Int)) = W.map id := List.map_congr_left fun k _ => by simp
    rw [h1, List.map_id] at h2
    exact h2
end Go.Idl
