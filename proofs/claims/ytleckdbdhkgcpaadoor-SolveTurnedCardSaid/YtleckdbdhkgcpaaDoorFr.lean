/- The step from a law's walk to its row, once for all laws: the law returns true and leaves whatever lay below as it lay; so the row holds. -/
import Derived.ProofKit
import Derived.Below
import Derived.ChangeSame
import Derived.OpenShut
import Derived.LaidMore
import Derived.Stop.Joined
import Derived.Test.YtleckdbdhkgcpaaDoorMw
namespace Go.Idl
open Go Go.RowKit Go.WideShapes Go.ChangeShapes Go.ChangeAt

variable {H : Type} {enc : TypeId × Value → H} {P : Program}

/-- Behind a call that leaves what lay below as it lay every argument reads as it read. -/
theorem trodAll_below (hl : laidOutB P = true) {W W' : World} (hb : Below W.heap.size W W') {sp' : Nat → Bool} : ∀ (ts : List TypeId) (vs : List Value) (ds : List (DataW H)) (ps : List MemPlace),
    (ts.all fun t => P.readableRec t && decide (t < P.types.size)) = true → DataW.TrodAll enc P W 0 (fun _ => true) true ts vs ds ps → (∀ x ∈ ps, x.block < W.heap.size) → (∀ x ∈ ps, sp' x.block = true) →
    DataW.TrodAll enc P W' 0 sp' true ts vs ds ps
  | [], vs, ds, ps, _, h, _, _ => by
    obtain ⟨rfl, rfl, rfl⟩ := trodAll_nil h
    exact trodAll_mk0
  | t :: ts, vs, ds, ps, hts, h, hlt, hsp => by
    obtain ⟨v, vs', d, ds', p, q, rfl, rfl, rfl, h0, hr⟩ := trodAll_cons h
    simp only [List.all_cons, Bool.and_eq_true, decide_eq_true_eq] at hts
    refine trodAll_cons_mk ?_ (trodAll_below hl hb ts vs' ds' q hts.2 hr (fun x hx => hlt x (by simp [hx])) (fun x hx => hsp x (by simp [hx])))
    exact WideElems.Trod_stays hl hts.1.1 hts.1.2 h0 (fun x hx => hb.same (hlt x (by simp [hx]))) (fun x hx => hsp x (by simp [hx]))

/-- (The how-to's 'post_of_below'.) -/
theorem post_of_below {f : Func} {s : ChangeSpec} {apart fresh handsOn again : Bool} {W W' : World} {args : Array Value} {v : Value} {ds gs : List (DataW H)} {before pa pv : List MemPlace}
    (hW : DataW.Whole enc P f.params.toList s.vars apart W args.toList ds gs before)
    (hres : ∀ (b : Nat) (sp : Nat → Bool) (hd : Bool), DataW.TrodAll enc P W' b sp hd f.resultTypes.toList (v.resultList f.resultTypes.size) (s.fn H (ds ++ gs)).results [])
    (hargs : ∀ sp : Nat → Bool, (∀ p ∈ before, sp p.block = true) → DataW.TrodAll enc P W' 0 sp true f.params.toList args.toList (s.fn H (ds ++ gs)).args pa)
    (hvars : ∀ sp : Nat → Bool, (∀ p ∈ before, sp p.block = true) → DataW.TrodVars enc P W' sp s.vars (s.fn H (ds ++ gs)).vars pv)
    (hps : before = pa ++ pv) (hb : Below W.heap.size W W')
    (hok : ∀ (j : Nat) (t : TypeId) (r : Value), f.resultTypes[j]? = some t → (v.resultList f.resultTypes.size)[j]? = some r → Value.okWide P W' .any 0 t r) :
    s.post enc P f apart fresh handsOn again W args v W' := by
  have hlt : ∀ p ∈ before, p.block < W.heap.size := fun p hp => hW.lt p hp
  have hold : ∀ p ∈ before, (fun b => decide (b < W.heap.size)) p.block = true := fun p hp => by simpa using hlt p hp
  refine ⟨ds, gs, before, [], pa, pv, hW, hres _ _ _, hargs _ hold, hvars _ hold, World.keptBut_mono (fun p hp => ⟨hp, ?_⟩) (hb.frame (· ∈ before)), fun _ => ?_⟩
  · rw [hps, List.mem_append] at hp
    exact Or.inr hp
  · obtain ⟨_, _, _, _, _, hz, hn⟩ := hW
    refine ⟨hok, _, _, ([] ++ pa) ++ pv, ⟨[] ++ pa, pv, trodAll_append (hargs _ (fun _ _ => rfl)) (hres _ _ _), hvars _ (fun _ _ => rfl), rfl, ?_, ?_⟩, ?_⟩
    · intro b off hp
      have hin : MemPlace.cell b off ∈ before := by rw [hps]; simpa using hp
      rw [hb.frozen (hlt _ hin)]
      exact hz b off hin
    · intro ha
      have := hn ha
      rw [hps] at this
      simpa using this
    · intro p hp _
      rw [hps]
      simpa using hp

theorem trodVars_nil {W : World} {gs : List (DataW H)} {q : List MemPlace} {sp : Nat → Bool} (h : DataW.TrodVars enc P W sp [] gs q) : gs = [] ∧ q = [] := by
  cases gs with
  | nil => exact ⟨rfl, h⟩
  | cons d r => exact h.elim

theorem law_post {f : Func} {s : ChangeSpec} {W W' : World} {args : Array Value} {ds gs : List (DataW H)} {before : List MemPlace} {tb : TypeId} (hl : laidOutB P = true)
    (hts : (f.params.toList.all fun t => P.readableRec t && decide (t < P.types.size)) = true) (hrt : f.resultTypes = #[tb]) (hbool : P.underlying tb = some .bool) (hv : s.vars = [])
    (hs : s.fn H ds = { results := [.lit (.bool true)], args := ds }) (hW : DataW.Whole enc P f.params.toList s.vars false W args.toList ds gs before) (hb : Below W.heap.size W W') :
    s.post enc P f false true false false W args (.bool true) W' := by
  have hW' := hW
  obtain ⟨p, q, hA, hV, rfl, hfz, hnd⟩ := hW
  rw [hv] at hV
  obtain ⟨rfl, rfl⟩ := trodVars_nil hV
  have hlt : ∀ x ∈ p ++ [], x.block < W.heap.size := fun x hx => hW'.lt x hx
  rw [List.append_nil] at hlt
  refine post_of_below (pa := p) (pv := []) hW' (fun b sp hd => ?_) (fun sp hsp => ?_) (fun sp _ => ?_) rfl hb (ok_one hrt rfl (okWide_bool_mk hbool _))
  · rw [List.append_nil, hs, hrt]
    exact trodAll_mk1 (shut_bool hbool _)
  · rw [List.append_nil, hs]
    exact trodAll_below hl hb _ _ _ _ hts hA hlt fun x hx => hsp x (by simpa using hx)
  · rw [List.append_nil, hs, hv]
    exact rfl

/-- THE PLAIN LAW's STEP. -/
theorem law_lifted {C : Checked} {os : Os} {f : FuncId} {fn : Func} {s : ChangeSpec} {tb : TypeId} (own : ownKnob C.prog.godebug = none) (started : os.Started) (noInit : C.prog.inits.idxOf? f = none) (hfn : C.prog.funcs[f]? = some fn)
    (witness : ∃ (w : World) (tape : Tape) (i : Input), w.os = os ∧ (w.forCall tape i).Shaped C.prog ∧ i.vars = [] ∧ Input.okWide C.prog (w.forCall tape i) .any w.heap.size f i ∧
      s.pre6 enc C.prog fn [] false (w.forCall tape i).memory i.args ∧ ({} : Assume).holds C.prog (lone (Frame.enter C.prog f i.args .normal) [] (w.forCall tape i)))
    (hl : laidOutB C.prog = true) (hts : (fn.params.toList.all fun t => C.prog.readableRec t && decide (t < C.prog.types.size)) = true) (hrt : fn.resultTypes = #[tb]) (hbool : C.prog.underlying tb = some .bool) (hv : s.vars = [])
    (hs : ∀ ds : List (DataW H), ds.length = fn.params.toList.length → s.fn H ds = { results := [.lit (.bool true)], args := ds })
    (walk : ∀ (W : World) (base : Nat) (args : Array Value) (ds : List (DataW H)) (ps : List MemPlace), (∀ (j : Nat) t v, fn.params[j]? = some t → args[j]? = some v → Value.okWide C.prog W .any base t v) →
      DataW.TrodAll enc C.prog W 0 (fun _ => true) true fn.params.toList args.toList ds ps → (∀ x ∈ ps, x.block < W.heap.size) →
      Calls C.prog f args W fun e W' => e = .returned (.bool true) ∧ Below W.heap.size W W') :
    ReturnsInHanded {} C os f .any (s.pre6 enc C.prog fn [] false) (s.post enc C.prog fn false true false false) := by
  refine returnsInHanded_of_change own started noInit hfn witness ?_
  intro W base args ds gs before hval hW _ _
  have hW' := hW
  obtain ⟨p, q, hA, hV, rfl, hfz, hnd⟩ := hW
  rw [hv] at hV
  obtain ⟨rfl, rfl⟩ := trodVars_nil hV
  have hlen : ds.length = fn.params.toList.length := by
    have : ∀ (ts : List TypeId) (vs : List Value) (ds : List (DataW H)) (ps : List MemPlace), DataW.TrodAll enc C.prog W 0 (fun _ => true) true ts vs ds ps → ds.length = ts.length := by
      intro ts
      induction ts with
      | nil => intro vs ds ps h; obtain ⟨_, rfl, _⟩ := trodAll_nil h; rfl
      | cons t ts ih => intro vs ds ps h; obtain ⟨v, vs', d, ds', p, q, _, rfl, _, _, hr⟩ := trodAll_cons h; simp [ih _ _ _ hr]
    exact this _ _ _ _ hA
  refine (walk W base args ds p hval hA (fun x hx => hW'.lt x (by simp [hx]))).mono fun e W' ⟨he, hb⟩ => ?_
  exact ⟨_, he, law_post hl hts hrt hbool hv (hs ds hlen) hW' hb⟩

/-- THE STEP OF A LAW WHOSE CARD LISTS VARIABLES. -/
theorem law_lifted_laid {C : Checked} {os : Os} {f : FuncId} {fn : Func} {s : ChangeSpec} {tb : TypeId} (X : World → Prop) (hX : ∀ w w' : World, w.heap = w'.heap → X w → X w')
    (own : ownKnob C.prog.godebug = none) (started : os.Started) (noInit : C.prog.inits.idxOf? f = none) (hfn : C.prog.funcs[f]? = some fn)
    (witness : ∃ (w : World) (tape : Tape) (i : Input), w.os = os ∧ (w.forCall tape i).Shaped C.prog ∧ i.vars = [] ∧ Input.okWide C.prog (w.forCall tape i) .any w.heap.size f i ∧
      ((s.pre enc C.prog fn [] false (w.forCall tape i).memory i.args ∧ X (w.forCall tape i).memory) ∧ sizedMet enc C.prog fn (OpenSpec.ofChange s) false (w.forCall tape i).memory i.args) ∧ ({} : Assume).holds C.prog (lone (Frame.enter C.prog f i.args .normal) [] (w.forCall tape i)))
    (hl : laidOutB C.prog = true) (hts : (fn.params.toList.all fun t => C.prog.readableRec t && decide (t < C.prog.types.size)) = true) (hrt : fn.resultTypes = #[tb]) (hbool : C.prog.underlying tb = some .bool) (hv : s.vars = [])
    (hs : ∀ ds : List (DataW H), ds.length = fn.params.toList.length → s.fn H ds = { results := [.lit (.bool true)], args := ds })
    (walk : ∀ (W : World) (base : Nat) (args : Array Value) (ds : List (DataW H)) (ps : List MemPlace), (∀ (j : Nat) t v, fn.params[j]? = some t → args[j]? = some v → Value.okWide C.prog W .any base t v) →
      DataW.TrodAll enc C.prog W 0 (fun _ => true) true fn.params.toList args.toList ds ps → (∀ x ∈ ps, x.block < W.heap.size) → (DataW.weightsEach C.prog fn.params.toList ds).all (· ≤ reachBytes) = true → X W →
      Calls C.prog f args W fun e W' => e = .returned (.bool true) ∧ Below W.heap.size W W') :
    ReturnsInHanded {} C os f .any (fun w args => (s.pre enc C.prog fn [] false w args ∧ X w) ∧ sizedMet enc C.prog fn (OpenSpec.ofChange s) false w args) (s.post enc C.prog fn false true false false) := by
  refine returnsInHanded_of_change_and (X := fun w _ => X w) (fun w w' _ hh hx => hX w w' hh hx) own started noInit hfn witness ?_
  intro W base args ds gs before hval hW _ hsz hx _
  have hW' := hW
  obtain ⟨p, q, hA, hV, rfl, hfz, hnd⟩ := hW
  have hvt : s.plain.varTypes C.prog = [] := by
    unfold DataSpec.varTypes ChangeSpec.plain
    rw [hv]; rfl
  rw [hv] at hV
  obtain ⟨rfl, rfl⟩ := trodVars_nil hV
  rw [hvt, List.append_nil, List.append_nil] at hsz
  have hlen : ds.length = fn.params.toList.length := by
    have : ∀ (ts : List TypeId) (vs : List Value) (ds : List (DataW H)) (ps : List MemPlace), DataW.TrodAll enc C.prog W 0 (fun _ => true) true ts vs ds ps → ds.length = ts.length := by
      intro ts
      induction ts with
      | nil => intro vs ds ps h; obtain ⟨_, rfl, _⟩ := trodAll_nil h; rfl
      | cons t ts ih => intro vs ds ps h; obtain ⟨v, vs', d, ds', p, q, _, rfl, _, _, hr⟩ := trodAll_cons h; simp [ih _ _ _ hr]
    exact this _ _ _ _ hA
  refine (walk W base args ds p hval hA (fun x hx => hW'.lt x (by simp [hx])) hsz hx).mono fun e W' ⟨he, hb⟩ => ?_
  exact ⟨_, he, law_post hl hts hrt hbool hv (hs ds hlen) hW' hb⟩

/-! ### arguments opened -/
theorem open_ints_reads {W : World} {r : Reach} {base b0 : Nat} {sp : Nat → Bool} {held : Bool} {t e : TypeId} {k : IntKind} {v : Value} {d : DataW H} {p : List MemPlace} (ht : P.underlying t = some (.slice e)) (he : P.underlying e = some (.int k)) (hc : P.cellsOf e = 1)
    (hv : Value.okWide P W r b0 t v) (h : DataW.Trod enc P W base sp held t v d p) :
    ∃ (A : Option Addr) (n c : Nat) (zs : List Int), v = .slice A n c ∧ zs.length = n ∧ Reads W W.heap.size 1 A n (zs.map (Value.int k)) ∧ n ≤ maxLen ∧ (∀ z ∈ zs, (Lit.int k z).wf = true) ∧
      ((d = .nil ∧ zs = []) ∨ ∃ rest : List Int, d = .slice (lits k zs) (lits k rest)) ∧ n ≤ c ∧ c ≤ maxLen := by
  obtain ⟨A, n, c, rfl⟩ := okWide_slice ht hv
  obtain ⟨fuel, hf⟩ := h
  rcases open_ints ht he hc hf with ⟨hcs, hx⟩ | ⟨a, len, cap, zs, hcs, _, hl, hm, hz, hx, hcell, hwz⟩
  · simp only [Value.cells, List.cons.injEq, Value.slice.injEq, and_true] at hcs
    obtain ⟨rfl, rfl, rfl⟩ := hcs
    exact ⟨none, 0, 0, [], rfl, rfl, Reads.none_, Nat.zero_le _, fun z hz => (by cases hz), .inl ⟨(Prod.mk.inj hx).1, rfl⟩, Nat.le_refl _, Nat.zero_le _⟩
  · simp only [Value.cells, List.cons.injEq, Value.slice.injEq, and_true] at hcs
    obtain ⟨rfl, rfl, rfl⟩ := hcs
    have hln : n ≤ zs.length := by rw [hz]; split <;> omega
    refine ⟨some a, n, c, zs.take n, rfl, by rw [List.length_take]; omega, ⟨by simp [List.length_map, List.length_take]; omega, fun hn => ⟨a, rfl, ?_, fun j u hu => ?_⟩⟩, Nat.le_trans hl hm, fun z hz' => hwz z (List.mem_of_mem_take hz'), .inr ⟨zs.drop n, (Prod.mk.inj hx).1⟩, hl, hm⟩
    · have := hcell 0 (by omega)
      have := World.block_lt_of_cell? _ _ this
      rwa [block_of_add] at this
    · have hj : j < n := by
        have := (List.getElem?_eq_some_iff.1 hu).1
        simp only [List.length_map, List.length_take] at this
        omega
      rw [hcell j (by omega), ← hu, List.getElem?_map, List.getElem?_take, if_pos hj, List.getElem?_eq_getElem (by omega)]
      simp [List.getD, show j < zs.length by omega]

end Go.Idl
