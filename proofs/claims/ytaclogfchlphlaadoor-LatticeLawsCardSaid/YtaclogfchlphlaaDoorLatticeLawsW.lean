/- The walk of LatticeLaws. -/
import Derived.Test.YtaclogfchlphlaaDoorTd
namespace Go.Proofs.YtaclogfchlphlaaDoor
open Go.RowKit Go.Shelf Go.Idl

set_option maxHeartbeats 4000000 in
set_option maxRecDepth 100000 in
theorem walkLatticeLaws (A : Option Addr) (n d : Nat) (up : List Nat) (a b c : Int) (w : World) (hT : Tab w) (hn : up.length = n) (hn63 : n ≤ maxLen) (hM : Masks up) (hr : Reads w w.heap.size 1 A n (u64s up)) :
    Calls Tryd.prog 10 #[.agg #[.slice A n d, .int .i64 a, .int .i64 b, .int .i64 c]] w fun e w' => e = .returned (.bool true) ∧ Below w.heap.size w w' := by
  have hb0 : Below w.heap.size w (w.alloc (.cells #[.slice A n d, .int .i64 a, .int .i64 b, .int .i64 c] 45)) := (Below.refl _ w).alloc (Nat.le_refl _) _
  have k0 := Blk.new w 45 #[.slice A n d, .int .i64 a, .int .i64 b, .int .i64 c]
  have p0 := k0.cell 0
  have p1 := k0.cell 1
  have p2 := k0.cell 2
  have p3 := k0.cell 3
  have hTa := Lib.hid (hT.later hb0)
  have hra := Lib.hid ((hr.below hb0).more hb0.size)
  replace hT := Lib.hid hT
  replace hr := Lib.hid hr
  replace hM := Lib.hid hM
  replace hn := Lib.hid hn
  replace hb0 := Lib.hid hb0
  replace k0 := Lib.hid k0
  go_enter Tryd.func10, Tryd.ntmps10
  go_wp2
  go_quiet (fail)
  obtain ⟨Wq, hWq⟩ : ∃ Wq, (w.alloc (.cells #[.slice A n d, .int .i64 a, .int .i64 b, .int .i64 c] 45)).drewN nq = Wq := ⟨_, rfl⟩
  have hbq : Below w.heap.size w Wq := by rw [← hWq]; exact below_drewN hb0.out nq
  rw [hWq]
  clear hWq p0 p1 p2 p3
  have hrq := Lib.hid ((hr.out.below hbq).more hbq.size)
  have hTq := Lib.hid (hT.out.later hbq)
  replace hbq := Lib.hid hbq
  go_wp2_with fail
  refine (right_lat A n d up Wq hTq.out hn.out hn63 hM.out hrq.out).mono ?_
  rintro e w0 ⟨rfl, hb⟩
  have hT0 := Lib.hid (hTq.out.later hb)
  have hr0 := Lib.hid ((hrq.out.below hb).more hb.size)
  have hB0 := Lib.hid (hbq.out.trans (hb.mono hbq.out.size))
  clear hb
  cases hq : latB up with
  | false =>
    replace hq := Lib.hid hq
    go_wp2_with fail
    refine (awake_any w0 hT0.out).mono ?_
    rintro e w9 ⟨rfl, hb⟩
    replace hb := Lib.hid hb
    go_wp2_with fail
    go_ret
    exact ⟨rfl, hB0.out.trans (hb.out.mono hB0.out.size)⟩
  | true =>
    have hO := (Lat.of hM.out hq).toOrd
    have h64 : n ≤ 64 := by rw [← hn.out]; exact hO.n64
    replace hq := Lib.hid hq
    replace hO := Lib.hid hO
    by_cases x0 : a < 0
    · go_wp2_with fail
      refine (awake_any w0 hT0.out).mono ?_
      rintro e w9 ⟨rfl, hb⟩
      replace hb := Lib.hid hb
      go_wp2_with fail
      go_ret
      exact ⟨rfl, hB0.out.trans (hb.out.mono hB0.out.size)⟩
    by_cases x1 : b < 0
    · go_wp2_with fail
      refine (awake_any w0 hT0.out).mono ?_
      rintro e w9 ⟨rfl, hb⟩
      replace hb := Lib.hid hb
      go_wp2_with fail
      go_ret
      exact ⟨rfl, hB0.out.trans (hb.out.mono hB0.out.size)⟩
    by_cases x2 : c < 0
    · go_wp2_with fail
      refine (awake_any w0 hT0.out).mono ?_
      rintro e w9 ⟨rfl, hb⟩
      replace hb := Lib.hid hb
      go_wp2_with fail
      go_ret
      exact ⟨rfl, hB0.out.trans (hb.out.mono hB0.out.size)⟩
    by_cases x3 : (n : Int) ≤ a
    · go_wp2_with fail
      refine (awake_any w0 hT0.out).mono ?_
      rintro e w9 ⟨rfl, hb⟩
      replace hb := Lib.hid hb
      go_wp2_with fail
      go_ret
      exact ⟨rfl, hB0.out.trans (hb.out.mono hB0.out.size)⟩
    by_cases x4 : (n : Int) ≤ b
    · go_wp2_with fail
      refine (awake_any w0 hT0.out).mono ?_
      rintro e w9 ⟨rfl, hb⟩
      replace hb := Lib.hid hb
      go_wp2_with fail
      go_ret
      exact ⟨rfl, hB0.out.trans (hb.out.mono hB0.out.size)⟩
    by_cases x5 : (n : Int) ≤ c
    · go_wp2_with fail
      refine (awake_any w0 hT0.out).mono ?_
      rintro e w9 ⟨rfl, hb⟩
      replace hb := Lib.hid hb
      go_wp2_with fail
      go_ret
      exact ⟨rfl, hB0.out.trans (hb.out.mono hB0.out.size)⟩
    obtain ⟨a, rfl⟩ : ∃ i : Nat, a = i := ⟨a.toNat, by omega⟩
    obtain ⟨b, rfl⟩ : ∃ i : Nat, b = i := ⟨b.toNat, by omega⟩
    obtain ⟨c, rfl⟩ : ∃ i : Nat, c = i := ⟨c.toNat, by omega⟩
    have ha : a < n := by omega
    have hb : b < n := by omega
    have hc : c < n := by omega
    have hJ := join_lat A n d up hn.out hn63 hM.out hq.out
    have hM' := meet_lat A n d up hn.out hn63 hM.out hq.out
    have hL := leq_lat A n d up hn.out hn63 hM.out hq.out
    have L := Lat.of hM.out hq.out
    have hnu := hn.out
    have ha' : a < up.length := by omega
    have hb' : b < up.length := by omega
    have hc' : c < up.length := by omega
    have i1 := L.jn_lt ha' hb'
    have i2 := L.mt_lt ha' hb'
    have i3 := L.jn_lt hb' hc'
    have i4 := L.mt_lt hb' hc'
    have h3 := L.jn_comm hb' ha'
    have h4 := L.mt_comm hb' ha'
    have h7 := (L.jn_assoc ha' hb' hc').symm
    have h10 := (L.mt_assoc ha' hb' hc').symm
    have h11 := L.mt_jn ha' hb'
    have h12 := L.jn_mt ha' hb'
    have h14 := (L.jn_is ha' hb').l
    have h15 := (L.mt_is ha' hb').r
    have h16 : (((jn up a b : Nat) : Int) == (b : Int)) = le up a b := by
      rw [← L.jn_eq ha' hb', Bool.eq_iff_iff, beq_iff_eq, decide_eq_true_eq]
      omega
    have h17 : (((mt up a b : Nat) : Int) == (a : Int)) = le up a b := by
      rw [← L.mt_eq ha' hb', Bool.eq_iff_iff, beq_iff_eq, decide_eq_true_eq]
      omega
    rw [hnu] at i1 i2 i3 i4
    generalize hje : jn up a b = j at *
    generalize hme : mt up a b = m at *
    generalize hJe : jn up j c = J at *
    generalize hMe : mt up m c = M at *
    generalize hpe : jn up b c = p at *
    generalize hqe : mt up b c = q at *
    generalize hte : le up a b = t at *
    replace hje := Lib.hid hje
    replace hme := Lib.hid hme
    replace hJe := Lib.hid hJe
    replace hMe := Lib.hid hMe
    replace hpe := Lib.hid hpe
    replace hqe := Lib.hid hqe
    replace hte := Lib.hid hte
    replace hJ := Lib.hid hJ
    replace hM' := Lib.hid hM'
    replace hL := Lib.hid hL
    replace h3 := Lib.hid h3
    replace h4 := Lib.hid h4
    replace h7 := Lib.hid h7
    replace h10 := Lib.hid h10
    replace h11 := Lib.hid h11
    replace h12 := Lib.hid h12
    replace h14 := Lib.hid h14
    replace h15 := Lib.hid h15
    clear ha' hb' hc' L hnu
    go_wp2_with fail
    refine (hJ.out a b j (by omega) (by omega) hje.out w0 hT0.out hr0.out).mono ?_
    rintro e w1 ⟨rfl, hb⟩
    have hT1 := Lib.hid (hT0.out.later hb)
    have hr1 := Lib.hid ((hr0.out.below hb).more hb.size)
    have hB1 := Lib.hid (hB0.out.trans (hb.mono hB0.out.size))
    clear hb
    go_wp2_with fail
    refine (told_yes j w1).mono ?_
    rintro e w' ⟨rfl, rfl⟩
    go_wp2_with fail
    refine (hM'.out a b m (by omega) (by omega) hme.out w1 hT1.out hr1.out).mono ?_
    rintro e w2 ⟨rfl, hb⟩
    have hT2 := Lib.hid (hT1.out.later hb)
    have hr2 := Lib.hid ((hr1.out.below hb).more hb.size)
    have hB2 := Lib.hid (hB1.out.trans (hb.mono hB1.out.size))
    clear hb
    go_wp2_with fail
    refine (told_yes m w2).mono ?_
    rintro e w' ⟨rfl, rfl⟩
    go_wp2_with fail
    refine (hJ.out b a j (by omega) (by omega) h3.out w2 hT2.out hr2.out).mono ?_
    rintro e w3 ⟨rfl, hb⟩
    have hT3 := Lib.hid (hT2.out.later hb)
    have hr3 := Lib.hid ((hr2.out.below hb).more hb.size)
    have hB3 := Lib.hid (hB2.out.trans (hb.mono hB2.out.size))
    clear hb
    go_wp2_with fail
    refine (told_yes j w3).mono ?_
    rintro e w' ⟨rfl, rfl⟩
    go_wp2_with fail
    refine (hM'.out b a m (by omega) (by omega) h4.out w3 hT3.out hr3.out).mono ?_
    rintro e w4 ⟨rfl, hb⟩
    have hT4 := Lib.hid (hT3.out.later hb)
    have hr4 := Lib.hid ((hr3.out.below hb).more hb.size)
    have hB4 := Lib.hid (hB3.out.trans (hb.mono hB3.out.size))
    clear hb
    go_wp2_with fail
    refine (told_yes m w4).mono ?_
    rintro e w' ⟨rfl, rfl⟩
    go_wp2_with fail
    refine (hJ.out j c J (by omega) (by omega) hJe.out w4 hT4.out hr4.out).mono ?_
    rintro e w5 ⟨rfl, hb⟩
    have hT5 := Lib.hid (hT4.out.later hb)
    have hr5 := Lib.hid ((hr4.out.below hb).more hb.size)
    have hB5 := Lib.hid (hB4.out.trans (hb.mono hB4.out.size))
    clear hb
    go_wp2_with fail
    refine (told_yes J w5).mono ?_
    rintro e w' ⟨rfl, rfl⟩
    go_wp2_with fail
    refine (hJ.out b c p (by omega) (by omega) hpe.out w5 hT5.out hr5.out).mono ?_
    rintro e w6 ⟨rfl, hb⟩
    have hT6 := Lib.hid (hT5.out.later hb)
    have hr6 := Lib.hid ((hr5.out.below hb).more hb.size)
    have hB6 := Lib.hid (hB5.out.trans (hb.mono hB5.out.size))
    clear hb
    go_wp2_with fail
    refine (told_yes p w6).mono ?_
    rintro e w' ⟨rfl, rfl⟩
    go_wp2_with fail
    refine (hJ.out a p J (by omega) (by omega) h7.out w6 hT6.out hr6.out).mono ?_
    rintro e w7 ⟨rfl, hb⟩
    have hT7 := Lib.hid (hT6.out.later hb)
    have hr7 := Lib.hid ((hr6.out.below hb).more hb.size)
    have hB7 := Lib.hid (hB6.out.trans (hb.mono hB6.out.size))
    clear hb
    go_wp2_with fail
    refine (told_yes J w7).mono ?_
    rintro e w' ⟨rfl, rfl⟩
    go_wp2_with fail
    refine (hM'.out m c M (by omega) (by omega) hMe.out w7 hT7.out hr7.out).mono ?_
    rintro e w8 ⟨rfl, hb⟩
    have hT8 := Lib.hid (hT7.out.later hb)
    have hr8 := Lib.hid ((hr7.out.below hb).more hb.size)
    have hB8 := Lib.hid (hB7.out.trans (hb.mono hB7.out.size))
    clear hb
    go_wp2_with fail
    refine (told_yes M w8).mono ?_
    rintro e w' ⟨rfl, rfl⟩
    go_wp2_with fail
    refine (hM'.out b c q (by omega) (by omega) hqe.out w8 hT8.out hr8.out).mono ?_
    rintro e w9 ⟨rfl, hb⟩
    have hT9 := Lib.hid (hT8.out.later hb)
    have hr9 := Lib.hid ((hr8.out.below hb).more hb.size)
    have hB9 := Lib.hid (hB8.out.trans (hb.mono hB8.out.size))
    clear hb
    go_wp2_with fail
    refine (told_yes q w9).mono ?_
    rintro e w' ⟨rfl, rfl⟩
    go_wp2_with fail
    refine (hM'.out a q M (by omega) (by omega) h10.out w9 hT9.out hr9.out).mono ?_
    rintro e w10 ⟨rfl, hb⟩
    have hT10 := Lib.hid (hT9.out.later hb)
    have hr10 := Lib.hid ((hr9.out.below hb).more hb.size)
    have hB10 := Lib.hid (hB9.out.trans (hb.mono hB9.out.size))
    clear hb
    go_wp2_with fail
    refine (told_yes M w10).mono ?_
    rintro e w' ⟨rfl, rfl⟩
    go_wp2_with fail
    refine (hM'.out a j a (by omega) (by omega) h11.out w10 hT10.out hr10.out).mono ?_
    rintro e w11 ⟨rfl, hb⟩
    have hT11 := Lib.hid (hT10.out.later hb)
    have hr11 := Lib.hid ((hr10.out.below hb).more hb.size)
    have hB11 := Lib.hid (hB10.out.trans (hb.mono hB10.out.size))
    clear hb
    go_wp2_with fail
    refine (told_yes a w11).mono ?_
    rintro e w' ⟨rfl, rfl⟩
    go_wp2_with fail
    refine (hJ.out a m a (by omega) (by omega) h12.out w11 hT11.out hr11.out).mono ?_
    rintro e w12 ⟨rfl, hb⟩
    have hT12 := Lib.hid (hT11.out.later hb)
    have hr12 := Lib.hid ((hr11.out.below hb).more hb.size)
    have hB12 := Lib.hid (hB11.out.trans (hb.mono hB11.out.size))
    clear hb
    go_wp2_with fail
    refine (told_yes a w12).mono ?_
    rintro e w' ⟨rfl, rfl⟩
    go_wp2_with fail
    refine (hL.out a b t (by omega) (by omega) hte.out w12 hT12.out hr12.out).mono ?_
    rintro e w13 ⟨rfl, hb⟩
    have hT13 := Lib.hid (hT12.out.later hb)
    have hr13 := Lib.hid ((hr12.out.below hb).more hb.size)
    have hB13 := Lib.hid (hB12.out.trans (hb.mono hB12.out.size))
    clear hb
    go_wp2_with fail
    refine (hL.out a j true (by omega) (by omega) h14.out w13 hT13.out hr13.out).mono ?_
    rintro e w14 ⟨rfl, hb⟩
    have hT14 := Lib.hid (hT13.out.later hb)
    have hr14 := Lib.hid ((hr13.out.below hb).more hb.size)
    have hB14 := Lib.hid (hB13.out.trans (hb.mono hB13.out.size))
    clear hb
    go_wp2_with fail
    refine (hL.out m b true (by omega) (by omega) h15.out w14 hT14.out hr14.out).mono ?_
    rintro e w15 ⟨rfl, hb⟩
    have hT15 := Lib.hid (hT14.out.later hb)
    have hr15 := Lib.hid ((hr14.out.below hb).more hb.size)
    have hB15 := Lib.hid (hB14.out.trans (hb.mono hB14.out.size))
    clear hb
    go_wp2_with fail
    refine (awake_any w15 hT15.out).mono ?_
    rintro e w16 ⟨rfl, hb⟩
    replace hb := Lib.hid hb
    go_wp2_with fail
    go_ret
    exact ⟨rfl, hB15.out.trans (hb.out.mono hB15.out.size)⟩

end Go.Proofs.YtaclogfchlphlaaDoor
