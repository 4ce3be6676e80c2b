/- SymTwice: a call within a call may be looked at in either order, for every input; what math/bits.deBruijn64tab holds is tied to the program's text. -/
import Derived.Test.YtfloonpchjbmnaaDoorDr
import Derived.Test.YtfloonpchjbmnaaDoorOm
import Derived.Test.YtfloonpchjbmnaaDoorOl
import Derived.Test.YtfloonpchjbmnaaDoorOc
import Derived.Test.YtfloonpchjbmnaaDoorSymTwiceW
import Derived.Test.YtfloonpchjbmnaaDoorCards
import Derived.Test.YtfloonpchjbmnaaDoorTie
import Derived.SevenTiedAt
namespace Go.Proofs.YtfloonpchjbmnaaDoor
open Go.ChangeShapes Go.WideShapes Go.ChangeAt Go.RowKit Go.Idl

set_option maxRecDepth 100000 in
theorem symTwice_lifted (os : Os) (started : os.Started) (H : Type) (enc : TypeId × Value → H) :
    ReturnsInHanded {} Tryd.checked os 5 .any (fun w args => (Rows.symTwiceSpec.pre enc Tryd.prog Tryd.f5 [] false w args ∧ laidMetH Tryd.prog laidT w) ∧ sizedMet enc Tryd.prog Tryd.f5 (OpenSpec.ofChange Rows.symTwiceSpec) false w args)
      (Rows.symTwiceSpec.post enc Tryd.prog Tryd.f5 false true false false) := by
  refine law_lifted_laid (C := Tryd.checked) (tb := 4) (fun w => laidMetH Tryd.prog laidT w) (fun _ _ hh h => h.of_heap hh) own started (by kernel_rfl) Tryd.func5
    (ChangeSpec.witness_shaped (enc := enc) (C := Tryd.checked) (os := os) (X := fun w _ => laidMetH Tryd.prog laidT w) false (World.doorLaid Tryd.prog 400 os) #[.agg #[.slice none 0 0, .int .i64 0, .int .u64 0, .slice none 0 0, .int .i64 0, .int .u64 0, .slice none 0 0, .int .i64 0]] 12 rfl (World.shaped_of_RefB (by kernel_rfl) (by kernel_rfl)) (by kernel_rfl) (by kernel_rfl) (by kernel_rfl) (door_met os _))
    (by kernel_rfl) (by kernel_rfl) (by kernel_rfl) Tryd.underlying4 rfl (fun ds h => by match ds, h with | [_], _ => rfl) ?_
  intro W base args ds ps hval hA hlt hsz hx
  have hT := tab_of_laid hx
  rw [Tryd.params5] at hA hval hsz
  obtain ⟨v0, d0, rfl, rfl, h0⟩ := trodAll_one hA
  obtain ⟨cs, rfl, _⟩ := okWide_struct Tryd.underlying44 (hval 0 44 v0 rfl rfl)
  obtain ⟨fuel, hf⟩ := h0
  obtain ⟨A, n, c, up, l, Z, m, d, ls, pc, Y, r, e, zs, k, he, hl, hm, hM, hr, hlm, hpm, hls, hmm, hz, hlms, hzl, hr2, hy⟩ := open_twice hf
  obtain rfl : cs = #[.slice A n c, .int .i64 l.lv, .int .u64 (l.ms : Nat), .slice Z m d, .int .i64 pc.lv, .int .u64 (pc.ms : Nat), .slice Y r e, .int .i64 k] := by
    have := congrArg List.toArray he
    simpa [Value.cells] using this
  exact walkSymTwice A n c up l Z m d ls pc Y r e zs k W hT hl hm hM hr hlm hpm hls hmm hz hlms hzl hr2 hy

theorem symTwice_row : Rows.SymTwiceSaid :=
  OpenClaim.holds_of_wide 5 Tryd.f5 rfl rfl rfl rfl rfl rfl rfl ⟨rfl, rfl, rfl, rfl, rfl⟩ rfl rfl rfl rfl rfl (by kernel_rfl) Tryd.func5 (by kernel_rfl)
    (of_decide_eq_true (by kernel_rfl)) (by unfold Func.isWrapper; first | (rw [if_pos (by decide +kernel)]; kernel_rfl) | (rw [if_neg (by decide +kernel)]; exact ⟨rfl, rfl⟩))
    (fun os started H enc _ => symTwice_lifted os started H enc)

theorem symTwice_holds : Rows.SymTwiceCardSaid :=
  Claim7.holds_tied_plain_at .later [] [.data] true Rows.symTwiceCard.stood.harness Rows.symTwiceCard.stood.looks
    symTwice_row (fun _ h => by cases h) (by kernel_rfl) (fun _ h => by cases h) symTwice_row_tie rfl ⟨rfl, rfl⟩ (by kernel_rfl) rfl
    (fun f fn hf hfn => by
      obtain rfl : f = 5 := Option.some.inj ((show Tryd.prog.funcNamed "interdict/interdictlaw19.SymTwice" = some 5 by kernel_rfl).symm.trans hf) |>.symm
      obtain rfl : fn = Tryd.f5 := (Option.some.inj (Tryd.func5.symm.trans hfn)).symm
      exact ⟨by kernel_rfl, fun j t ht => by
        rw [Tryd.params5] at ht
        have hm := Array.mem_of_getElem? ht
        have hall : (Tryd.f5.params.all fun u => !Tryd.prog.wantsStandIn u) = true := by kernel_rfl
        rw [Tryd.params5] at hall
        have h1 := Array.all_eq_true_iff_forall_mem.1 hall t hm
        exact (show Tryd.prog.wantsStandIn t = false by simpa using h1)⟩)
    (by kernel_rfl)
#print axioms symTwice_holds
end Go.Proofs.YtfloonpchjbmnaaDoor
