/- LatticeJoins: the join and the meet of any two levels, and whether one stands above the other one, of any masks: the program and the document say the same, for every input; what math/bits.deBruijn64tab holds is tied to the program's text. -/
import Derived.Test.YtaclogfchlphlaaDoorOm
import Derived.Test.YtaclogfchlphlaaDoorLatticeJoinsW
import Derived.Test.YtaclogfchlphlaaDoorCards
import Derived.Test.YtaclogfchlphlaaDoorTie
import Derived.SevenTiedAt
namespace Go.Proofs.YtaclogfchlphlaaDoor
open Go.ChangeShapes Go.WideShapes Go.ChangeAt Go.RowKit Go.Idl

set_option maxRecDepth 100000 in
theorem latticeJoins_lifted (os : Os) (started : os.Started) (H : Type) (enc : TypeId × Value → H) :
    ReturnsInHanded {} Tryd.checked os 9 .any (fun w args => (Rows.latticeJoinsSpec.pre enc Tryd.prog Tryd.f9 [] false w args ∧ laidMetH Tryd.prog laidT w) ∧ sizedMet enc Tryd.prog Tryd.f9 (OpenSpec.ofChange Rows.latticeJoinsSpec) false w args)
      (Rows.latticeJoinsSpec.post enc Tryd.prog Tryd.f9 false true false false) := by
  refine law_lifted_laid (C := Tryd.checked) (tb := 4) (fun w => laidMetH Tryd.prog laidT w) (fun _ _ hh h => h.of_heap hh) own started (by kernel_rfl) Tryd.func9
    (ChangeSpec.witness_shaped (enc := enc) (C := Tryd.checked) (os := os) (X := fun w _ => laidMetH Tryd.prog laidT w) false (World.doorLaid Tryd.prog 400 os) #[.slice none 0 0, .int .i64 0, .int .i64 0] 12 rfl (World.shaped_of_RefB (by kernel_rfl) (by kernel_rfl)) (by kernel_rfl) (by kernel_rfl) (by kernel_rfl) (door_met os _))
    (by kernel_rfl) (by kernel_rfl) (by kernel_rfl) Tryd.underlying4 rfl (fun ds h => by match ds, h with | [_, _, _], _ => rfl) ?_
  intro W base args ds ps hval hA hlt hsz hx
  have hT := tab_of_laid hx
  rw [Tryd.params9] at hA hval hsz
  obtain ⟨v0, v1, v2, d0, d1, d2, p0, p1, p2, rfl, rfl, rfl, h0, h1, h2⟩ := trodAll_three hA
  obtain ⟨A, n, c, zs, rfl, hz, hr, hm, hwf, hd, _, _⟩ := open_ints_reads Tryd.underlying23 Tryd.underlying39 (by kernel_rfl) (hval 0 23 v0 rfl rfl) h0
  obtain ⟨a, rfl, rfl, rfl, wa⟩ := open_int Tryd.underlying3 (hval 1 3 v1 rfl rfl) h1
  obtain ⟨b, rfl, rfl, rfl, wb⟩ := open_int Tryd.underlying3 (hval 2 3 v2 rfl rfl) h2
  obtain ⟨up, hl, he, hM⟩ := masks_of_ints zs hwf
  have hby := masks_room hsz hd
  rw [he] at hr
  exact walkLatticeJoins A n c up a b W hT (by omega) hm (by omega) hM hr

theorem latticeJoins_row : Rows.LatticeJoinsSaid :=
  OpenClaim.holds_of_wide 9 Tryd.f9 rfl rfl rfl rfl rfl rfl rfl ⟨rfl, rfl, rfl, rfl, rfl⟩ rfl rfl rfl rfl rfl (by kernel_rfl) Tryd.func9 (by kernel_rfl)
    (of_decide_eq_true (by kernel_rfl)) (by unfold Func.isWrapper; first | (rw [if_pos (by decide +kernel)]; kernel_rfl) | (rw [if_neg (by decide +kernel)]; exact ⟨rfl, rfl⟩))
    (fun os started H enc _ => latticeJoins_lifted os started H enc)

theorem latticeJoins_holds : Rows.LatticeJoinsCardSaid :=
  Claim7.holds_tied_plain_at .later [] [.data] true Rows.latticeJoinsCard.stood.harness Rows.latticeJoinsCard.stood.looks
    latticeJoins_row (fun _ h => by cases h) (by kernel_rfl) (fun _ h => by cases h) latticeJoins_row_tie rfl ⟨rfl, rfl⟩ (by kernel_rfl) rfl
    (fun f fn hf hfn => by
      obtain rfl : f = 9 := Option.some.inj ((show Tryd.prog.funcNamed "interdict/interdictlaw05.LatticeJoins" = some 9 by kernel_rfl).symm.trans hf) |>.symm
      obtain rfl : fn = Tryd.f9 := (Option.some.inj (Tryd.func9.symm.trans hfn)).symm
      exact ⟨by kernel_rfl, fun j t ht => by
        rw [Tryd.params9] at ht
        have hm := Array.mem_of_getElem? ht
        have hall : (Tryd.f9.params.all fun u => !Tryd.prog.wantsStandIn u) = true := by kernel_rfl
        rw [Tryd.params9] at hall
        have h1 := Array.all_eq_true_iff_forall_mem.1 hall t hm
        exact (show Tryd.prog.wantsStandIn t = false by simpa using h1)⟩)
    (by kernel_rfl)
#print axioms latticeJoins_holds
end Go.Proofs.YtaclogfchlphlaaDoor
