/- The walk of LatticeEnds. -/
import Derived.Test.YtaclogfchlphlaaDoorLatticeRightsW
import Derived.Test.YtaclogfchlphlaaDoorBt
import Derived.Test.YtaclogfchlphlaaDoorRg
namespace Go.Proofs.YtaclogfchlphlaaDoor
open Go.RowKit Go.Shelf Go.Idl

set_option maxHeartbeats 4000000 in
set_option maxRecDepth 100000 in
theorem walkLatticeEnds (A : Option Addr) (n c : Nat) (up : List Nat) (w : World) (hT : Tab w) (hn : up.length = n) (hn63 : n ≤ maxLen) (hby : n * 8 ≤ 140737488355328) (hM : Masks up) (hr : Reads w w.heap.size 1 A n (u64s up)) :
    Calls Tryd.prog 6 #[.slice A n c] w fun e w' => e = .returned (.bool true) ∧ Below w.heap.size w w' := by
  obtain ⟨i0, hi0, hz0, hz1, hz2⟩ := info_parts u64_info
  have h1 := Lib.hid (u64s_one up)
  have hBO := fun (A' : Option Addr) (c' : Nat) (w' : World) (hT' : Tab w') (hr' : Reads w' w'.heap.size 1 A' n (u64s up)) => bottom_any A' n c' up w' hT' hn hn63 hM hr'
  have hTO := fun (A' : Option Addr) (c' : Nat) (w' : World) (hT' : Tab w') (hr' : Reads w' w'.heap.size 1 A' n (u64s up)) => top_any A' n c' up w' hT' hn hn63 hM hr'
  have hHE := fun (A' : Option Addr) (c' : Nat) (w' : World) (hT' : Tab w') (hr' : Reads w' w'.heap.size 1 A' n (u64s up)) => height_any A' n c' up w' hT' hn hn63 hM hr'
  have hRR := fun (w' : World) (hr' : Reads w' w'.heap.size 1 A n (u64s up)) => rright_any A n c up w' hn hn63 hM hr'
  generalize hq : latB up = q at *
  generalize hxj : (if q = true then endI up else 0) = xj at hBO
  generalize hxm : (if q = true then farI up else 0) = xm at hTO
  generalize hxl : (if q = true then heightN up else 0) = xl at hHE
  replace hxj := Lib.hid hxj
  replace hxm := Lib.hid hxm
  replace hxl := Lib.hid hxl
  replace hBO := Lib.hid hBO
  replace hTO := Lib.hid hTO
  replace hHE := Lib.hid hHE
  replace hRR := Lib.hid hRR
  replace hT := Lib.hid hT
  replace hr := Lib.hid hr
  replace hM := Lib.hid hM
  replace hn := Lib.hid hn
  replace hq := Lib.hid hq
  have hb0 := Lib.hid (Below.refl w.heap.size w)
  go_enter Tryd.func6, Tryd.ntmps6
  go_wp2_with (at_builtin; refine wpList_append_copy w rfl _ _ 23 rfl 39 i0 (.int .u64 0) 1 8 Tryd.underlying23 hi0 hz0 hz1 hz2 rfl (by decide) rfl w.heap.size _ n _ (u64s up) rfl hr.out (Nat.le_refl _) h1.out hn63 hby ?_; intro A' c' w1 _ hrc hbc)
  have hTw1 := Lib.hid (hT.out.later hbc)
  have hrw1 := Lib.hid ((hr.out.below hbc).more hbc.size)
  replace hrc := Lib.hid hrc
  have hbw1 := Lib.hid (hb0.out.trans (hbc.mono hb0.out.size))
  clear hbc
  go_wp2_with fail
  refine (hBO.out A' c' w1 hTw1.out hrc.out).mono ?_
  rintro e w2 ⟨rfl, hbd⟩
  have hrw2 := Lib.hid ((hrw1.out.below hbd).more hbd.size)
  have hTw2 := Lib.hid (hTw1.out.later hbd)
  have hbw2 := Lib.hid (hbw1.out.trans (hbd.mono hbw1.out.size))
  clear hbd hrc
  go_wp2_with (at_builtin; refine wpList_append_copy w2 rfl _ _ 23 rfl 39 i0 (.int .u64 0) 1 8 Tryd.underlying23 hi0 hz0 hz1 hz2 rfl (by decide) rfl w2.heap.size _ n _ (u64s up) rfl hrw2.out (Nat.le_refl _) h1.out hn63 hby ?_; intro A' c' w3 _ hrc hbc)
  have hTw3 := Lib.hid (hTw2.out.later hbc)
  have hrw3 := Lib.hid ((hrw2.out.below hbc).more hbc.size)
  replace hrc := Lib.hid hrc
  have hbw3 := Lib.hid (hbw2.out.trans (hbc.mono hbw2.out.size))
  clear hbc
  go_wp2_with fail
  refine (hTO.out A' c' w3 hTw3.out hrc.out).mono ?_
  rintro e w4 ⟨rfl, hbd⟩
  have hrw4 := Lib.hid ((hrw3.out.below hbd).more hbd.size)
  have hTw4 := Lib.hid (hTw3.out.later hbd)
  have hbw4 := Lib.hid (hbw3.out.trans (hbd.mono hbw3.out.size))
  clear hbd hrc
  go_wp2_with (at_builtin; refine wpList_append_copy w4 rfl _ _ 23 rfl 39 i0 (.int .u64 0) 1 8 Tryd.underlying23 hi0 hz0 hz1 hz2 rfl (by decide) rfl w4.heap.size _ n _ (u64s up) rfl hrw4.out (Nat.le_refl _) h1.out hn63 hby ?_; intro A' c' w5 _ hrc hbc)
  have hTw5 := Lib.hid (hTw4.out.later hbc)
  have hrw5 := Lib.hid ((hrw4.out.below hbc).more hbc.size)
  replace hrc := Lib.hid hrc
  have hbw5 := Lib.hid (hbw4.out.trans (hbc.mono hbw4.out.size))
  clear hbc
  go_wp2_with fail
  refine (hHE.out A' c' w5 hTw5.out hrc.out).mono ?_
  rintro e w6 ⟨rfl, hbd⟩
  have hrw6 := Lib.hid ((hrw5.out.below hbd).more hbd.size)
  have hTw6 := Lib.hid (hTw5.out.later hbd)
  have hbw6 := Lib.hid (hbw5.out.trans (hbd.mono hbw5.out.size))
  clear hbd hrc
  go_wp2_with fail
  refine (hRR.out w6 hrw6.out).mono ?_
  rintro e w7 ⟨rfl, hbd⟩
  have hr7 := Lib.hid ((hrw6.out.below hbd).more hbd.size)
  have hT7 := Lib.hid (hTw6.out.later hbd)
  have hb7 := Lib.hid (hbw6.out.trans (hbd.mono hbw6.out.size))
  clear hbd
  cases q with
  | false =>
    obtain rfl : xj = 0 := by have h := hxj.out; simpa using h.symm
    obtain rfl : xm = 0 := by have h := hxm.out; simpa using h.symm
    obtain rfl : xl = 0 := by have h := hxl.out; simpa using h.symm
    go_wp2_with fail
    refine (awake_any w7 hT7.out).mono ?_
    rintro e w9 ⟨rfl, hb9⟩
    replace hb9 := Lib.hid hb9
    go_wp2_with fail
    go_ret
    exact ⟨rfl, hb7.out.trans (hb9.out.mono hb7.out.size)⟩
  | true =>
    have hO := (Lat.of hM.out hq.out).toOrd
    have h64 : n ≤ 64 := by rw [← hn.out]; exact hO.n64
    obtain rfl : xj = endI up := by have h := hxj.out; simpa using h.symm
    obtain rfl : xm = farI up := by have h := hxm.out; simpa using h.symm
    obtain rfl : xl = heightN up := by have h := hxl.out; simpa using h.symm
    have RE := rend_any A n c up w7 hn.out h64 hM.out hr7.out
    have RF := rfar_any A n c up w7 hn.out h64 hM.out hr7.out
    have RH := rheight_any A n c up w7 hn.out hM.out hO hr7.out
    generalize endI up = x at *
    generalize farI up = y at *
    generalize heightN up = z at *
    replace RE := Lib.hid RE
    replace RF := Lib.hid RF
    replace RH := Lib.hid RH
    replace hO := Lib.hid hO
    go_wp2_with fail
    refine RE.out.mono ?_
    rintro e w8 ⟨rfl, rfl⟩
    have ex : (x == x) = true := by simp
    go_wp2_with fail
    refine RF.out.mono ?_
    rintro e w8 ⟨rfl, rfl⟩
    have ey : (y == y) = true := by simp
    go_wp2_with fail
    refine RH.out.mono ?_
    rintro e w8 ⟨rfl, hb8⟩
    have ez : ((z : Int) == (z : Int)) = true := by simp
    have hT8 := Lib.hid (hT7.out.later hb8)
    replace hb8 := Lib.hid (hb7.out.trans (hb8.mono hb7.out.size))
    go_wp2_with fail
    refine (awake_any w8 hT8.out).mono ?_
    rintro e w9 ⟨rfl, hb9⟩
    replace hb9 := Lib.hid hb9
    go_wp2_with fail
    go_ret
    exact ⟨rfl, hb8.out.trans (hb9.out.mono hb8.out.size)⟩

end Go.Proofs.YtaclogfchlphlaaDoor
