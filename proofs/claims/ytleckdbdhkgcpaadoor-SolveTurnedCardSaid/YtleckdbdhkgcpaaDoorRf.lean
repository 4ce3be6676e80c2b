/- Words for loops over an iterator: blocks known whole stay; marks. -/
import Derived.RangeFuncNested
import Derived.RangeFuncBound
import Derived.RangeFuncCalls
import Derived.RangeFuncLeaves
import Derived.Shelf.Abstract
import Derived.Shelf.RegionOpen
import Derived.WalkKit
import Derived.OwnWalkIn
import Derived.TacticsInMore
import Derived.LoopNIn
import Derived.LoopIn
import Derived.Test.YtleckdbdhkgcpaaDoorMw
namespace Go.Idl
open Go Go.RowKit

/-- A block of cells known whole stays where blocks that are no cells turn. -/
theorem Blk.own {W W' : World} {row : Option Nat} {g : Nat} {t : TypeId} {cs : Array Value} (h : Blk W g t cs) (hg : W.grownBy W' row) (hr : ∀ r, row = some r → ∃ o : Obj, W.heap[r]? = some o ∧ o.isCells = false) : Blk W' g t cs := by
  refine h.grown hg fun e => ?_
  obtain ⟨o, ho, hc⟩ := hr g e.symm
  unfold Blk at h
  rw [h] at ho
  cases ho
  cases hc
theorem Blk.cell0 {W : World} {g : Nat} {t : TypeId} {v : Value} (h : Blk W g t #[v]) : W.cell? ⟨g, 0, none⟩ = some v := by rw [h.cell 0]; rfl
theorem Blk.set0 {W : World} {g : Nat} {t : TypeId} {v : Value} (h : Blk W g t #[v]) (u : Value) : Blk (W.setCell ⟨g, 0, none⟩ u) g t #[u] := by
  have := h.set_ 0 u
  simpa using this

theorem ownsRow_own {W W' : World} {row : Option Nat} {base : Nat} {e : TypeId} {size n : Nat} {v : Value} {xs : List Value} (h : W.ownsRow base e size v n xs) (hg : W.grownBy W' row)
    (hr : ∀ r, row = some r → ∃ o : Obj, W.heap[r]? = some o ∧ o.isCells = false) : W'.ownsRow base e size v n xs := by
  refine ⟨h.1, ?_⟩
  rcases h.2 with h0 | ⟨g, cap, cur, hv, hb, hh, hrest⟩
  · exact .inl h0
  · exact .inr ⟨g, cap, cur, hv, hb, Blk.own (t := e) (cs := cur) hh hg hr, hrest⟩
theorem ownsRow_setCell {W : World} {base : Nat} {e : TypeId} {size n : Nat} {v : Value} {xs : List Value} (h : W.ownsRow base e size v n xs) {p : Addr} (hp : v.ownBlock ≠ some p.block) (u : Value) : (W.setCell p u).ownsRow base e size v n xs := by
  refine ⟨h.1, ?_⟩
  rcases h.2 with h0 | ⟨g, cap, cur, rfl, hb, hh, hrest⟩
  · exact .inl h0
  · exact .inr ⟨g, cap, cur, rfl, hb, Blk.far (t := e) (cs := cur) hh (fun h1 => hp (by rw [← h1]; rfl)) u, hrest⟩

theorem keeps_own {W W' : World} {base : Nat} {e : TypeId} {size n : Nat} {v : Value} {xs : List Value} (h : W.ownsRow base e size v n xs) (hg : W.grownBy W' v.ownBlock) : KeepsOthers W W' :=
  KeepsOthers.of_grownBy hg fun j _ hj ho => by
    rcases h.2 with ⟨rfl, _⟩ | ⟨g, cap, cur, rfl, hb, hh, _⟩
    · cases hj
    · cases hj
      rw [hh] at ho
      cases ho
      rfl
theorem keeps_below {W W' : World} (h : Below W.heap.size W W') : KeepsOthers W W' :=
  ⟨h.size, fun k _ hk _ => (h.block k (Array.getElem?_eq_some_iff.1 hk).1).trans hk⟩

/-- 'out = append(out, x, ..)' inside a fence. -/
theorem wpListIn_append_new {F : Fence} {k : Nat} {P : Program} (w0 : World) {ops : Array Oper} {rest : List Oper} {o : Oper} {a : Act} {Q : Exit → Act → World → Prop} (hgd : o.guard = none) (s x : Operand) (t : TypeId)
    (ho : o.op = .call { callee := .builtin .append, args := #[s, x], argTypes := #[t, t] })
    (base : Nat) (e : TypeId) (i : TypeInfo) (z : Value) (size bytes : Nat) (ht : P.underlying t = some (.slice e)) (hi : P.info? e = some i) (hz : i.zero = some z)
    (hsize : i.size = size) (hby : i.bytes = bytes) (hzs : z.cells.size = size) (hsz : 0 < size)
    (v : Value) (n : Nat) (xs : List Value) (hs : a.eval s = v) (hown : w0.ownsRow base e size v n xs)
    (m c : Nat) (news : List Value) (hx : a.eval x = .slice (some ⟨w0.heap.size, 0, none⟩) m c) (hlen : news.length = m * size) (h1 : ∀ u ∈ news, u.oneCell' = true)
    (h63 : n + m ≤ maxLen) (hbytes : (n + m) * bytes ≤ 140737488355328) (hbase : base ≤ w0.heap.size)
    (h : ∀ A' c' w', w'.ownsRow base e size (.slice A' (n + m) c') (n + m) (xs ++ news) → Below base w0 w' → w0.grownBy w' v.ownBlock → KeepsOthers w0 w' → wpListIn F k P ops Q rest (a.put o.dst (.slice A' (n + m) c')) w') :
    wpListIn F k P ops Q (o :: rest) a (w0.alloc (.cells news.toArray e)) := by
  refine wpListIn_append_own (w0.alloc (.cells news.toArray e)) hgd s x t ho base e i z size bytes ht hi hz hsize hby hzs hsz v n xs hs (hown.alloc _) ⟨w0.heap.size, 0, none⟩ m c news hx hlen (fun j u hu => ?_) h1 h63 hbytes (by simp; omega) ?_
  · have hb := (Blk.new w0 e news.toArray).cell j
    have e1 : (⟨w0.heap.size, 0, none⟩ : Addr).add j = ⟨w0.heap.size, j, none⟩ := by
      unfold Addr.add
      split
      · rename_i h; subst h; rfl
      · simp
    rw [e1, hb]
    simpa using hu
  intro v' w' hown' hg _
  obtain ⟨A', c', rfl⟩ := ownsRow_slice hown'
  refine h A' c' w' hown' (((Below.refl base w0).alloc hbase _).grown hg (by simp; omega) (fun k hk => ?_)) ?_ ((KeepsOthers.alloc _ _).trans (keeps_own (hown.alloc _) hg))
  · obtain ⟨A0, c0, rfl⟩ := ownsRow_slice hown
    exact ownsRow_base hown k hk
  · exact ⟨hg.os, hg.tape, hg.output, Nat.le_trans (by simp) hg.size, fun k hk hne => (hg.block k (by simp; omega) hne).trans (Below.heap_alloc w0 _ k hk)⟩

theorem keeps_drewN {A W : World} (h : KeepsOthers A W) (k : Nat) : KeepsOthers A (W.drewN k) := ⟨h.size, h.same⟩
theorem below_drewNs {B : Nat} {a w : World} (h : Below B a w) (n : Nat) : Below B a (w.drewN n) := ⟨h.os, h.tape, h.output, h.size, h.block⟩

/-! ### marks: what loops over an iterator leave among a call's deferred calls -/
def mark (D : Nat) : Deferred := { target := .collected D, args := #[] }
/-- Marks of loops that are over: their blocks lie from 'base' on and below 'top', each its own, none with a call in it. -/
def Marks (base top : Nat) (W : World) (ds : List Deferred) : Prop := ∃ Ds : List Nat, ds = Ds.map mark ∧ Ds.Nodup ∧ ∀ D ∈ Ds, base ≤ D ∧ D < top ∧ W.heap[D]? = some (.deferred (some []))
theorem Marks.nil (base top : Nat) (W : World) : Marks base top W [] := ⟨[], rfl, List.nodup_nil, fun D h => by cases h⟩
theorem Marks.keeps {base top : Nat} {W W' : World} {ds : List Deferred} (h : Marks base top W ds) (k : KeepsOthers W W') : Marks base top W' ds := by
  obtain ⟨Ds, e, hn, hd⟩ := h
  exact ⟨Ds, e, hn, fun D hD => ⟨(hd D hD).1, (hd D hD).2.1, k.same D _ (hd D hD).2.2 rfl⟩⟩
theorem Marks.more {base top top' : Nat} {W : World} {ds : List Deferred} (h : Marks base top W ds) (ht : top ≤ top') : Marks base top' W ds := by
  obtain ⟨Ds, e, hn, hd⟩ := h
  exact ⟨Ds, e, hn, fun D hD => ⟨(hd D hD).1, Nat.lt_of_lt_of_le (hd D hD).2.1 ht, (hd D hD).2.2⟩⟩
theorem Marks.cons {base top D : Nat} {W : World} {ds : List Deferred} (h : Marks base top W ds) (hb : base ≤ D) (ht : top ≤ D) (hK : W.heap[D]? = some (.deferred (some []))) :
    Marks base W.heap.size W ({ target := .collected D, args := #[] } :: ds) := by
  obtain ⟨Ds, rfl, hn, hd⟩ := h
  have hD : D < W.heap.size := (Array.getElem?_eq_some_iff.1 hK).1
  refine ⟨D :: Ds, rfl, List.nodup_cons.2 ⟨fun hm => ?_, hn⟩, fun x hx => ?_⟩
  · have := (hd D hm).2.1; omega
  · rcases List.mem_cons.1 hx with rfl | hx
    · exact ⟨hb, hD, hK⟩
    · exact ⟨(hd x hx).1, by have := (hd x hx).2.1; omega, (hd x hx).2.2⟩
theorem Marks.own {base top B : Nat} {W W' : World} {ds : List Deferred} {row : Option Nat} (h : Marks base top W ds) (hB : top ≤ B) (hg : W.grownBy W' row) (hr : ∀ r, row = some r → B ≤ r ∧ ∃ o : Obj, W.heap[r]? = some o ∧ o.isCells = false) : Marks base top W' ds := by
  obtain ⟨Ds, e, hn, hd⟩ := h
  refine ⟨Ds, e, hn, fun D hD => ⟨(hd D hD).1, (hd D hD).2.1, ?_⟩⟩
  have h1 := (hd D hD).2
  refine (hg.block D (Array.getElem?_eq_some_iff.1 h1.2).1 fun e => ?_).trans h1.2
  have := (hr D e.symm).1
  omega

/-- What taking the marks leaves. -/
structure Took (base : Nat) (W W' : World) : Prop where
  below : Below base W W'
  blk : ∀ g t cs, Blk W g t cs → Blk W' g t cs
  own : ∀ b e size v n xs, W.ownsRow b e size v n xs → W'.ownsRow b e size v n xs
theorem Took.refl (base : Nat) (W : World) : Took base W W := ⟨Below.refl _ _, fun _ _ _ h => h, fun _ _ _ _ _ _ h => h⟩

theorem leaves_marks {F : Fence} {n : Nat} {P : Program} {fn : Func} {tmps : Array Value} {R : Ending → World → Prop} {base : Nat} : ∀ (Ds : List Nat) (W : World), Ds.Nodup → (∀ D ∈ Ds, base ≤ D ∧ W.heap[D]? = some (.deferred (some []))) →
    (∀ W', Took base W W' → LeavesInM F n P fn tmps R [] .returning W') → LeavesInM F n P fn tmps R (Ds.map mark) .returning W
  | [], W, _, _, h => h W (Took.refl _ _)
  | D :: Ds, W, hn, hd, h => by
    have hD := hd D (by simp)
    rw [List.nodup_cons] at hn
    refine ⟨by simp, .inl ⟨D, _, rfl, run_takeDeferred hD.2, ?_⟩⟩
    have hg := grownBy_putObj' W D (.deferred none)
    have hr : ∀ r, some D = some r → ∃ o : Obj, W.heap[r]? = some o ∧ o.isCells = false := fun r e => by cases e; exact ⟨_, hD.2, rfl⟩
    refine leaves_marks Ds _ hn.2 (fun x hx => ⟨(hd x (by simp [hx])).1, ?_⟩) (fun W' hW' => h W' ?_)
    · rw [World.putObj_heap_other (fun e => hn.1 (by rw [← e]; exact hx))]
      exact (hd x (by simp [hx])).2
    · refine ⟨Below.trans ?_ hW'.below, fun g t cs hb => hW'.blk g t cs (hb.own hg hr), fun b e size v n xs ho => hW'.own b e size v n xs (ownsRow_own ho hg hr)⟩
      exact ⟨hg.os, hg.tape, hg.output, hg.size, fun k hk => World.putObj_heap_other (by have := hD.1; omega)⟩

theorem leaves_of_marks {F : Fence} {n : Nat} {P : Program} {fn : Func} {tmps : Array Value} {R : Ending → World → Prop} {base top : Nat} {ds : List Deferred} {W : World} (h : Marks base top W ds)
    (hend : ∀ W', Took base W W' → LeavesInM F n P fn tmps R [] .returning W') : LeavesInM F n P fn tmps R ds .returning W := by
  obtain ⟨Ds, rfl, hn, hd⟩ := h
  exact leaves_marks Ds W hn (fun D hD => ⟨(hd D hD).1, (hd D hD).2.2⟩) hend

end Go.Idl
