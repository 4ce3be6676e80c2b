/- SymGrows: with higher arguments, or a higher place, a label becomes no lower, for every input; what math/bits.deBruijn64tab holds is tied to the program's text. -/
import Derived.Test.YtfloonpchjbmnaaDoorDr
import Derived.Test.YtfloonpchjbmnaaDoorOm
import Derived.Test.YtfloonpchjbmnaaDoorOl
import Derived.Test.YtfloonpchjbmnaaDoorOc
import Derived.Test.YtfloonpchjbmnaaDoorSymGrowsW
import Derived.Test.YtfloonpchjbmnaaDoorCards
import Derived.Test.YtfloonpchjbmnaaDoorTie
import Derived.SevenTiedAt
namespace Go.Proofs.YtfloonpchjbmnaaDoor
open Go.ChangeShapes Go.WideShapes Go.ChangeAt Go.RowKit Go.Idl

set_option maxRecDepth 100000 in
theorem symGrows_lifted (os : Os) (started : os.Started) (H : Type) (enc : TypeId × Value → H) :
    ReturnsInHanded {} Tryd.checked os 7 .any (fun w args => (Rows.symGrowsSpec.pre enc Tryd.prog Tryd.f7 [] false w args ∧ laidMetH Tryd.prog laidT w) ∧ sizedMet enc Tryd.prog Tryd.f7 (OpenSpec.ofChange Rows.symGrowsSpec) false w args)
      (Rows.symGrowsSpec.post enc Tryd.prog Tryd.f7 false true false false) := by
  refine law_lifted_laid (C := Tryd.checked) (tb := 4) (fun w => laidMetH Tryd.prog laidT w) (fun _ _ hh h => h.of_heap hh) own started (by kernel_rfl) Tryd.func7
    (ChangeSpec.witness_shaped (enc := enc) (C := Tryd.checked) (os := os) (X := fun w _ => laidMetH Tryd.prog laidT w) false (World.doorLaid Tryd.prog 400 os) #[.agg #[.slice none 0 0, .int .i64 0, .int .u64 0, .slice none 0 0, .int .i64 0, .int .u64 0], .int .i64 0, .agg #[.int .i64 0, .int .u64 0]] 12 rfl (World.shaped_of_RefB (by kernel_rfl) (by kernel_rfl)) (by kernel_rfl) (by kernel_rfl) (by kernel_rfl) (door_met os _))
    (by kernel_rfl) (by kernel_rfl) (by kernel_rfl) Tryd.underlying4 rfl (fun ds h => by match ds, h with | [_, _, _], _ => rfl) ?_
  intro W base args ds ps hval hA hlt hsz hx
  have hT := tab_of_laid hx
  rw [Tryd.params7] at hA hval hsz
  obtain ⟨v0, v1, v2, d0, d1, d2, p0, p1, p2, rfl, rfl, rfl, h0, h1, h2⟩ := trodAll_three hA
  obtain ⟨cs, rfl, _⟩ := okWide_struct Tryd.underlying28 (hval 0 28 v0 rfl rfl)
  obtain ⟨fuel, hf⟩ := h0
  obtain ⟨A, n, c, up, l, Z, m, d, ls, pc, he, hl, hm, hM, hr, hlm, hpm, hls, hmm, hz, hlms, _, _⟩ := open_call hf
  obtain rfl : cs = #[.slice A n c, .int .i64 l.lv, .int .u64 (l.ms : Nat), .slice Z m d, .int .i64 pc.lv, .int .u64 (pc.ms : Nat)] := by
    have := congrArg List.toArray he
    simpa [Value.cells] using this
  obtain ⟨t, rfl, _, _, _⟩ := open_int Tryd.underlying3 (hval 1 3 v1 rfl rfl) h1
  obtain ⟨mo, rfl, hmo⟩ := open_label (hval 2 25 v2 rfl rfl) h2
  exact walkSymGrows A n c up l Z m d ls pc t mo W hT hl hm hM hr hlm hpm hmo hls hmm hz hlms

theorem symGrows_row : Rows.SymGrowsSaid :=
  OpenClaim.holds_of_wide 7 Tryd.f7 rfl rfl rfl rfl rfl rfl rfl ⟨rfl, rfl, rfl, rfl, rfl⟩ rfl rfl rfl rfl rfl (by kernel_rfl) Tryd.func7 (by kernel_rfl)
    (of_decide_eq_true (by kernel_rfl)) (by unfold Func.isWrapper; first | (rw [if_pos (by decide +kernel)]; kernel_rfl) | (rw [if_neg (by decide +kernel)]; exact ⟨rfl, rfl⟩))
    (fun os started H enc _ => symGrows_lifted os started H enc)

theorem symGrows_holds : Rows.SymGrowsCardSaid :=
  Claim7.holds_tied_plain_at .later [] [.data] true Rows.symGrowsCard.stood.harness Rows.symGrowsCard.stood.looks
    symGrows_row (fun _ h => by cases h) (by kernel_rfl) (fun _ h => by cases h) symGrows_row_tie rfl ⟨rfl, rfl⟩ (by kernel_rfl) rfl
    (fun f fn hf hfn => by
      obtain rfl : f = 7 := Option.some.inj ((show Tryd.prog.funcNamed "interdict/interdictlaw19.SymGrows" = some 7 by kernel_rfl).symm.trans hf) |>.symm
      obtain rfl : fn = Tryd.f7 := (Option.some.inj (Tryd.func7.symm.trans hfn)).symm
      exact ⟨by kernel_rfl, fun j t ht => by
        rw [Tryd.params7] at ht
        have hm := Array.mem_of_getElem? ht
        have hall : (Tryd.f7.params.all fun u => !Tryd.prog.wantsStandIn u) = true := by kernel_rfl
        rw [Tryd.params7] at hall
        have h1 := Array.all_eq_true_iff_forall_mem.1 hall t hm
        exact (show Tryd.prog.wantsStandIn t = false by simpa using h1)⟩)
    (by kernel_rfl)
#print axioms symGrows_holds
end Go.Proofs.YtfloonpchjbmnaaDoor
