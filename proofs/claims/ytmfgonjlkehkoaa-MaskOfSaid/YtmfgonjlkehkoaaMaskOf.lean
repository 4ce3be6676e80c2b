/- MaskOf: of at most 1000 numbers, whatever they are, the set of them, or that there is none, is what the document says; for every input. -/
import Derived.Test.YtmfgonjlkehkoaaRows
import Derived.Test.YtmfgonjlkehkoaaOf
import Derived.Test.YtmfgonjlkehkoaaFr
namespace Go.Proofs.Ytmfgonjlkehkoaa
open Go.ChangeShapes Go.WideShapes Go.ChangeAt Go.RowKit Go.Idl

theorem own : ownKnob Try.prog.godebug = none := by kernel_rfl
theorem int_info : (Try.prog.info? 3).map (fun i => (i.zero, i.size, i.bytes)) = some (some (.int .i64 0), 1, 8) := by kernel_rfl

theorem walkMaskOf_long (A : Option Addr) (n c : Nat) (w : World) (h : 1000 < n) (h2 : n ≤ 9223372036854775807) : Calls Try.prog 5 #[.slice A n c] w fun e w' => e = .returned (.bool true) ∧ Below w.heap.size w w' := by
  go_enter Try.func5, Try.ntmps5
  go_wp2
  go_ret
  exact ⟨rfl, Below.refl _ _⟩

theorem walkMaskOf (A : Option Addr) (c : Nat) (l : List Int) (w : World) (hr : Reads w w.heap.size 1 A l.length (l.map (Value.int .i64))) (h : l.length ≤ 1000) : Calls Try.prog 5 #[.slice A l.length c] w fun e w' => e = .returned (.bool true) ∧ Below w.heap.size w w' := by
  obtain ⟨i0, hi0, hz0, hz1, hz2⟩ := info_parts int_info
  replace hr := Lib.hid hr
  generalize hn : l.length = n at hr h
  have HN := Lib.hid hn
  clear hn
  go_enter Try.func5, Try.ntmps5
  have hM : n ≤ maxLen := by unfold maxLen; omega
  have h1 : ∀ u ∈ l.map (Value.int .i64), u.oneCell' = true := by
    intro u hu
    obtain ⟨x, _, rfl⟩ := List.mem_map.1 hu
    rfl
  replace h1 := Lib.hid h1
  go_wp2_with (at_builtin; refine wpList_append_copy w rfl _ _ 27 rfl 3 i0 (.int .i64 0) 1 8 Try.underlying27 hi0 hz0 hz1 hz2 rfl (by decide) rfl w.heap.size _ n _ (l.map (Value.int .i64)) rfl hr.out (Nat.le_refl _) h1.out hM (by omega) ?_; intro A' c' w1 hown1 hr1 hb1)
  have hb1' := Lib.hid hb1
  refine (of_any A' c' n l w1 HN.out (by omega) hr1).mono ?_
  rintro e w' ⟨rfl, rfl⟩
  go_wp2_with fail
  refine (rof_any A c n l w1 HN.out (by omega) ((hr.out.below hb1).more hb1.size)).mono ?_
  rintro e w' ⟨rfl, rfl⟩
  go_wp2_with fail
  refine (of_any _ _ 1 [1] _ rfl (by omega) (Reads.new w1 3 [.int .i64 1])).mono ?_
  rintro e w' ⟨rfl, rfl⟩
  have e1 : outN [1] = 2 := by decide
  have e2 : ofOk [1] = true := by decide
  rw [e1, e2]
  clear e1 e2
  have hb1 : (((outN l : Nat) : Int) == ((outN l : Nat) : Int)) = true := by simp
  have hb2 : (ofOk l == ofOk l) = true := by simp
  go_wp2_with fail
  go_ret
  exact ⟨rfl, (hb1'.out).alloc hb1'.out.size _⟩

set_option maxRecDepth 100000 in
theorem maskOf_lifted (os : Os) (started : os.Started) (H : Type) (enc : TypeId × Value → H) :
    ReturnsInHanded {} Try.checked os 5 .any (Rows.maskOfSpec.pre6 enc Try.prog Try.f5 Rows.maskOfRow.domain false) (Rows.maskOfSpec.post enc Try.prog Try.f5 false true false false) := by
  refine law_lifted (C := Try.checked) (tb := 4) own started (by kernel_rfl) Try.func5
    (ChangeSpec.witness6 (enc := enc) (C := Try.checked) false ⟨#[], #[.slice none 0 0], []⟩ 8 (by kernel_rfl) (by kernel_rfl) (by kernel_rfl) (by kernel_rfl)) (by kernel_rfl) (by kernel_rfl) (by kernel_rfl) Try.underlying4 rfl
    (fun ds h => by match ds, h with | [_], _ => rfl) ?_
  intro W base args ds ps hval hA hlt
  rw [Try.params5] at hA hval
  obtain ⟨v0, d0, rfl, rfl, h0⟩ := trodAll_one hA
  obtain ⟨A, n, c, zs, rfl, hz, hr, hm, _, _⟩ := open_ints_reads Try.underlying27 Try.underlying3 (by kernel_rfl) (hval 0 27 v0 rfl rfl) h0
  by_cases hn : n ≤ 1000
  · subst hz
    exact walkMaskOf A c zs W hr hn
  · exact walkMaskOf_long A n c W (by omega) (by unfold maxLen at hm; omega)

theorem maskOf_holds : Rows.MaskOfSaid :=
  OpenClaim.holds_of_wide 5 Try.f5 rfl rfl rfl rfl rfl rfl rfl ⟨rfl, rfl, rfl, rfl, rfl⟩ rfl rfl rfl rfl rfl (by kernel_rfl) Try.func5 (by kernel_rfl)
    (of_decide_eq_true (by kernel_rfl)) (by unfold Func.isWrapper; first | (rw [if_pos (by decide +kernel)]; kernel_rfl) | (rw [if_neg (by decide +kernel)]; exact ⟨rfl, rfl⟩))
    (fun os started H enc _ => maskOf_lifted os started H enc)
#print axioms maskOf_holds
end Go.Proofs.Ytmfgonjlkehkoaa
