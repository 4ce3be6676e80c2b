/- Plain laws of calls: a call within a call; higher arguments. -/
import Derived.Test.YtfloonpchjbmnaaDoorSv
namespace Go.Idl

theorem stands_ms {args : List Lb} {pc : Lb} (hl : Lms args) (hp : pc.ms < 2 ^ 64) (b : Nat) : (stands args pc b).ms < 2 ^ 64 := by
  unfold stands
  split
  · exact hp
  · exact hl b
theorem putF_ms {up : List Nat} {l : Lb} {args : List Lb} {pc : Lb} (hl : Lms args) (hp : pc.ms < 2 ^ 64) : (putF up l args pc).ms < 2 ^ 64 :=
  fold_ms_lt _ _ (Nat.two_pow_pos 64) fun b _ => stands_ms hl hp b
theorem putL_ms {up : List Nat} {l : Lb} {args : List Lb} {pc : Lb} (hl : Lms args) (hp : pc.ms < 2 ^ 64) : (putL up l args pc).ms < 2 ^ 64 := by
  unfold putL
  split
  · exact putF_ms hl hp
  · exact Nat.two_pow_pos 64
theorem putL_ok {up : List Nat} {l : Lb} {args : List Lb} {pc : Lb} (h : putOk up l args pc = true) : putL up l args pc = putF up l args pc := by unfold putL; rw [if_pos h]
theorem stands_gd {up : List Nat} {l : Lb} {args : List Lb} {pc : Lb} (h : putOk up l args pc = true) {b : Nat} (hb : b ∈ bitsOf l.ms) : Gd up (stands args pc b) := by
  obtain ⟨_, _, _, h4, h5, h6⟩ := put_parts h
  unfold stands
  split
  · exact h4
  · rename_i h0
    rcases fitsB_iff.1 h5 b hb with h1 | h1
    · exact h6 b h1
    · exact absurd h1 h0
theorem put_gd {up : List Nat} {l : Lb} {args : List Lb} {pc : Lb} (hM : Masks up) (h : putOk up l args pc = true) : Gd up (putF up l args pc) := by
  obtain ⟨_, h2, h3, _⟩ := put_parts h
  have L := Lat.of hM h2
  exact (L.fold_le (f := stands args pc) (x := 0) L.n1 (bitsOf l.ms) ⟨l.lv, 0⟩ h3 fun b hb => stands_gd h hb).1
theorem put_le {up : List Nat} {l : Lb} {args : List Lb} {pc : Lb} (hM : Masks up) (h : putOk up l args pc = true) {x : Nat} (hx : x < up.length) :
    le up (putF up l args pc).lv.toNat x = true ↔ le up l.lv.toNat x = true ∧ ∀ b ∈ bitsOf l.ms, le up (stands args pc b).lv.toNat x = true := by
  obtain ⟨_, h2, h3, _⟩ := put_parts h
  exact ((Lat.of hM h2).fold_le (f := stands args pc) hx (bitsOf l.ms) ⟨l.lv, 0⟩ h3 fun b hb => stands_gd h hb).2
theorem put_bits {up : List Nat} {l : Lb} {args : List Lb} {pc : Lb} {c : Nat} : c ∈ bitsOf (putF up l args pc).ms ↔ ∃ b ∈ bitsOf l.ms, c ∈ bitsOf (stands args pc b).ms := by
  rw [mem_bitsOf]
  have := fold_ms (up := up) (f := stands args pc) c (bitsOf l.ms) ⟨l.lv, 0⟩
  unfold putF
  rw [this]
  simp only [Nat.zero_testBit, Bool.false_eq_true, false_or]
  constructor
  · rintro ⟨h0, b, hb, hc⟩
    exact ⟨b, hb, mem_bitsOf.2 ⟨h0, hc⟩⟩
  · rintro ⟨b, hb, hc⟩
    exact ⟨(mem_bitsOf.1 hc).1, b, hb, (mem_bitsOf.1 hc).2⟩
/-- Two levels that have the same above them are the same. -/
theorem lv_eq {up : List Nat} (L : Lat up) {a b : Lb} (ha : Gd up a) (hb : Gd up b) (h : ∀ x, x < up.length → (le up a.lv.toNat x = true ↔ le up b.lv.toNat x = true)) : a.lv = b.lv := by
  have h1 := (h b.lv.toNat hb.lt).2 (L.rf _ hb.lt)
  have h2 := (h a.lv.toNat ha.lt).1 (L.rf _ ha.lt)
  rw [ha.eq, hb.eq, L.an _ _ ha.lt hb.lt h1 h2]

/-- The level that a label becomes. -/
def lo (up : List Nat) (zs : List Int) (q : Int) (a : Lb) : Int := (putL up a (lows zs) ⟨q, 0⟩).lv
theorem stands_lows {up : List Nat} {zs : List Int} {q : Int} {As : List Lb} {Pc : Lb} {b : Nat} (hb : b < As.length ∨ b = 6) : (stands (lows (As.map (lo up zs q))) ⟨lo up zs q Pc, 0⟩ b).lv = lo up zs q (stands As Pc b) := by
  unfold stands
  by_cases h : b = 6
  · rw [if_pos h, if_pos h]
  · rw [if_neg h, if_neg h]
    have hb : b < As.length := hb.resolve_right h
    simp [lows, List.getD, hb]

/-- A call within a call may be looked at in either order. -/
theorem twice_law {up : List Nat} (hM : Masks up) {L : Lb} {As : List Lb} {Pc : Lb} {zs : List Int} {q : Int} (h : putOk up L As Pc = true)
    (hA : ∀ a ∈ As, putOk up a (lows zs) ⟨q, 0⟩ = true) (hP : putOk up Pc (lows zs) ⟨q, 0⟩ = true) :
    putOk up (putF up L As Pc) (lows zs) ⟨q, 0⟩ = true ∧ putOk up L (lows (As.map (lo up zs q))) ⟨lo up zs q Pc, 0⟩ = true ∧
      (putL up (putF up L As Pc) (lows zs) ⟨q, 0⟩).lv = (putL up L (lows (As.map (lo up zs q))) ⟨lo up zs q Pc, 0⟩).lv := by
  obtain ⟨k1, k2, k3, k4, k5, k6⟩ := putOk_iff.1 h
  obtain ⟨p1, p2, p3, p4, p5, p6⟩ := putOk_iff.1 hP
  have La := Lat.of hM k2
  have hS : ∀ b ∈ bitsOf L.ms, putOk up (stands As Pc b) (lows zs) ⟨q, 0⟩ = true := by
    intro b hb
    unfold stands
    split
    · exact hP
    · rename_i h0
      have hb' := (fitsB_iff.1 k5 b hb).resolve_right h0
      exact hA _ (by rw [List.getD_eq_getElem?_getD, List.getElem?_eq_getElem hb']; exact List.getElem_mem hb')
  have hlo : ∀ a, putOk up a (lows zs) ⟨q, 0⟩ = true → lo up zs q a = (putF up a (lows zs) ⟨q, 0⟩).lv := fun a ha => by unfold lo; rw [putL_ok ha]
  have o1 : putOk up (putF up L As Pc) (lows zs) ⟨q, 0⟩ = true := by
    refine putOk_iff.2 ⟨p1, p2, gd_iff.2 (put_gd hM h), p4, fitsB_iff.2 fun c hc => ?_, p6⟩
    obtain ⟨b, hb, hcb⟩ := put_bits.1 hc
    exact fitsB_iff.1 (putOk_iff.1 (hS b hb)).2.2.2.2.1 c hcb
  have o2 : putOk up L (lows (As.map (lo up zs q))) ⟨lo up zs q Pc, 0⟩ = true := by
    have hlen : (lows (As.map (lo up zs q))).length = As.length := by rw [lows_len, List.length_map]
    refine putOk_iff.2 ⟨by rw [hlen]; exact k1, k2, k3, ?_, by rw [hlen]; exact k5, ?_⟩
    · show goodB up (lo up zs q Pc) = true
      rw [hlo _ hP]
      exact gd_iff.2 (put_gd hM hP)
    · rw [List.all_eq_true]
      intro y hy
      unfold lows at hy
      rw [List.map_map] at hy
      obtain ⟨a, ha, rfl⟩ := List.mem_map.1 hy
      show goodB up (lo up zs q a) = true
      rw [hlo _ (hA a ha)]
      exact gd_iff.2 (put_gd hM (hA a ha))
  refine ⟨o1, o2, ?_⟩
  rw [putL_ok o1, putL_ok o2]
  refine lv_eq La (put_gd hM o1) (put_gd hM o2) fun x hx => ?_
  rw [put_le hM o1 hx, put_le hM h hx, put_le hM o2 hx]
  have key : ∀ b ∈ bitsOf L.ms, (le up (stands (lows (As.map (lo up zs q))) ⟨lo up zs q Pc, 0⟩ b).lv.toNat x = true ↔ le up (stands As Pc b).lv.toNat x = true ∧ ∀ c ∈ bitsOf (stands As Pc b).ms, le up (stands (lows zs) ⟨q, 0⟩ c).lv.toNat x = true) := by
    intro b hb
    rw [stands_lows (fitsB_iff.1 k5 b hb), hlo _ (hS b hb)]
    exact put_le hM (hS b hb) hx
  constructor
  · rintro ⟨⟨h1, h2⟩, h3⟩
    exact ⟨h1, fun b hb => (key b hb).2 ⟨h2 b hb, fun c hc => h3 c (put_bits.2 ⟨b, hb, hc⟩)⟩⟩
  · rintro ⟨h1, h2⟩
    refine ⟨⟨h1, fun b hb => ((key b hb).1 (h2 b hb)).1⟩, fun c hc => ?_⟩
    obtain ⟨b, hb, hcb⟩ := put_bits.1 hc
    exact ((key b hb).1 (h2 b hb)).2 c hcb

/-- With higher arguments, or a higher place, a label becomes no lower. -/
theorem grows_law {up : List Nat} (hM : Masks up) {L : Lb} {As Bs : List Lb} {Pc Qc : Lb} (h : putOk up L As Pc = true) (hl : Bs.length = As.length) (hQ : Gd up Qc) (hB : ∀ b ∈ Bs, Gd up b)
    (hq : leL up Pc Qc = true) (hb : ∀ k, k < As.length → leL up (As.getD k ⟨0, 0⟩) (Bs.getD k ⟨0, 0⟩) = true) :
    putOk up L Bs Qc = true ∧ bothL up (putF up L As Pc).lv (putF up L Bs Qc).lv = true ∧ leL up (putF up L As Pc) (putF up L Bs Qc) = true := by
  obtain ⟨k1, k2, k3, k4, k5, k6⟩ := putOk_iff.1 h
  have La := Lat.of hM k2
  have o : putOk up L Bs Qc = true := putOk_iff.2 ⟨by omega, k2, k3, gd_iff.2 hQ, by rw [hl]; exact k5, List.all_eq_true.2 fun b hb => gd_iff.2 (hB b hb)⟩
  have g1 := put_gd hM h
  have g2 := put_gd hM o
  have hst : ∀ b ∈ bitsOf L.ms, leL up (stands As Pc b) (stands Bs Qc b) = true := by
    intro b hb'
    unfold stands
    split
    · exact hq
    · rename_i h0
      exact hb b ((fitsB_iff.1 k5 b hb').resolve_right h0)
  refine ⟨o, bothL_iff.2 ⟨by rw [g1.eq]; omega, by rw [g2.eq]; omega, by have := g1.lt; rw [g1.eq]; omega, by have := g2.lt; rw [g2.eq]; omega, k2⟩, ?_⟩
  simp only [leL, Bool.and_eq_true, subB_iff]
  constructor
  · rw [put_le hM h g2.lt]
    have h2 := (put_le hM o g2.lt).1 (La.rf _ g2.lt)
    refine ⟨h2.1, fun b hb' => ?_⟩
    have h3 := hst b hb'
    simp only [leL, Bool.and_eq_true] at h3
    exact La.tr _ _ _ (stands_gd h hb').lt (stands_gd o hb').lt h3.1 (h2.2 b hb')
  · intro i hi
    have hi1 := (fold_ms (up := up) (f := stands As Pc) i (bitsOf L.ms) ⟨L.lv, 0⟩).1 hi
    refine (fold_ms (up := up) (f := stands Bs Qc) i (bitsOf L.ms) ⟨L.lv, 0⟩).2 ?_
    rcases hi1 with h1 | ⟨b, hb', h1⟩
    · exact .inl h1
    · have h3 := hst b hb'
      simp only [leL, Bool.and_eq_true, subB_iff] at h3
      exact .inr ⟨b, hb', h3.2 i h1⟩
end Go.Idl
