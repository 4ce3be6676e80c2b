/- A value of More, opened. -/
import Derived.Test.YtleckdbdhkgcpaaDoorOy
namespace Go.Proofs.YtleckdbdhkgcpaaDoor
open Go.ChangeShapes Go.WideShapes Go.ChangeAt Go.RowKit Go.Idl

theorem array7 {cs : Array Value} (h : cs.size = 7) : ∃ a b c d e f g, cs = #[a, b, c, d, e, f, g] := by
  obtain ⟨l⟩ := cs
  match l, h with
  | [a, b, c, d, e, f, g], _ => exact ⟨a, b, c, d, e, f, g, rfl⟩
theorem open_more {H : Type} {enc : TypeId × Value → H} {W : World} {r : Reach} {base b0 : Nat} {sp : Nat → Bool} {held : Bool} {v : Value} {d : DataW H} {p : List MemPlace}
    (hv : Value.okWide Tryd.prog W r b0 31 v) (h : DataW.Trod enc Tryd.prog W base sp held 31 v d p) :
    ∃ (A C D : Option Addr) (n c l lc m mc : Nat) (zs : List Int) (consts : List Lb) (needs : List (List Int)) (at_ need_ : Int) (x : Lb), v = .agg #[.slice A n c, .slice C l lc, .slice D m mc, .int .i64 at_, .int .i64 need_, .int .i64 x.lv, .int .u64 (x.ms : Nat)] ∧
      zs.length = n ∧ Reads W W.heap.size 1 A n (zs.map (Value.int .u64)) ∧ n ≤ maxLen ∧ (∀ z ∈ zs, (Lit.int .u64 z).wf = true) ∧ consts.length = l ∧ l ≤ maxLen ∧ Reads W W.heap.size 2 C l (lbVals consts) ∧ (∀ k, (consts.getD k z0).ms < 2 ^ 64) ∧ m ≤ maxLen ∧ NRows W W.heap.size D m needs ∧ x.ms < 2 ^ 64 := by
  have c0 : Tryd.prog.cellsOf 22 = 1 := by kernel_rfl
  have c1 : Tryd.prog.cellsOf 26 = 2 := by kernel_rfl
  have c2 : Tryd.prog.cellsOf 3 = 1 := by kernel_rfl
  have c3 : Tryd.prog.cellsOf 29 = 2 := by kernel_rfl
  have c4 : Tryd.prog.cellsOf 23 = 1 := by kernel_rfl
  have c5 : Tryd.prog.cellsOf 24 = 1 := by kernel_rfl
  have c6 : Tryd.prog.cellsOf 31 = 7 := by kernel_rfl
  obtain ⟨cs, rfl, hsz⟩ := okWide_struct Tryd.underlying31 hv
  obtain ⟨a0, a1, a2, a3, a4, a5, a6, rfl⟩ := array7 (hsz.trans c6)
  obtain ⟨fuel, hf⟩ := h
  obtain ⟨xs, fu, _, hx, _, hlen, hfs⟩ := DataW.trod_struct Tryd.underlying31 hf
  match xs, hlen with
  | [y0, y1, y2, y3, y4], _ =>
    have t0 := hfs 0 _ rfl
    have t1 := hfs 1 _ rfl
    have t2 := hfs 2 _ rfl
    have t3 := hfs 3 _ rfl
    have t4 := hfs 4 _ rfl
    simp [c0, c1, c2, c3, Value.cells] at t0 t1 t2 t3 t4
    obtain ⟨A, n, c, zs, rfl, hz, hr, hm, hwf, _, _⟩ := open_ints_trod Tryd.underlying22 Tryd.underlying27 (by kernel_rfl) t0
    obtain ⟨z0_, z1_, fu1, hx1, _, s0, s1⟩ := trod_struct2 Tryd.underlying26 t1
    simp [c4, c5] at s0 s1
    obtain ⟨C, l, lc, consts, rfl, h1, h2, h3, h4, _, _⟩ := open_labels_trod s0
    obtain ⟨D, m, mc, needs, rfl, g1, g2, _, _⟩ := open_rows_trod s1
    obtain ⟨at_, rfl, _⟩ := open_int_trod Tryd.underlying3 t2
    obtain ⟨need_, rfl, _⟩ := open_int_trod Tryd.underlying3 t3
    obtain ⟨x, rfl, rfl, hx2, _⟩ := open_label_trod t4
    exact ⟨A, C, D, n, c, l, lc, m, mc, zs, consts, needs, at_, need_, x, rfl, hz, hr, hm, hwf, h1, h3, h2, h4, g2, g1, hx2⟩
end Go.Proofs.YtleckdbdhkgcpaaDoor
