/- The walk of ShakeOver. -/
import Derived.Test.YtjfmgpelkhgodaaLawH
import Derived.Test.YtjfmgpelkhgodaaSmall
namespace Go.Proofs.Ytjfmgpelkhgodaa
open Go.RowKit
attribute [local go_sem ↓ high] run_min_whole run_max_whole

set_option maxRecDepth 100000 in
set_option maxHeartbeats 2000000 in
theorem over_big (w : World) (A B : Int) (nA nB : Nat) (ao : Option Addr) (cap : Nat) (D : List Dx) (HD : Hid (DosAt w (.slice ao D.length cap) D)) (HSM : Hid (smallAll D = false)) :
    Calls Try.prog 10 #[.agg #[.int .i64 A, .int .i64 B, .int .u64 nA, .int .u64 nB], .slice ao D.length cap] w fun e w' => e = .returned (.bool true) ∧ Fr [] w w' := by
  go_enter Try.func10, Try.ntmps10
  have HS0 := Lib.hid (St.start w)
  go_wp2_with fail
  obtain ⟨gt, hgt⟩ : ∃ g, g = w.heap.size := ⟨_, rfl⟩
  obtain ⟨w1, hw⟩ : ∃ w1, w.alloc (.cells #[.int .i64 A, .int .i64 B, .int .u64 nA, .int .u64 nB] 42) = w1 := ⟨_, rfl⟩
  rw [hw, ← hgt]
  have hs := HS0.out.lay 42 [.int .i64 A, .int .i64 B, .int .u64 nA, .int .u64 nB]
  rw [hw, ← hgt] at hs
  have HS1 := Lib.hid hs
  clear hw hgt hs 
  go_wp2_with fail
  have hq := lw_awake w1
  have HQ := Lib.hid hq
  clear hq
  refine HQ.out.mono ?_
  clear HQ
  rintro e w2 ⟨rfl, hf⟩
  have HS2 := Lib.hid (HS1.out.grow hf)
  clear hf
  go_wp2_with fail
  have hq := lw_small w2 _ D (HD.out.fr HS2.out.fr)
  rw [HSM.out] at hq
  have HQ := Lib.hid hq
  clear hq
  refine HQ.out.mono ?_
  clear HQ
  rintro e w3 ⟨rfl, hf⟩
  have HS3 := Lib.hid (HS2.out.grow hf)
  clear hf
  go_wp2_with fail
  go_ret
  exact ⟨rfl, HS3.out.fr⟩

set_option maxRecDepth 100000 in
set_option maxHeartbeats 2000000 in
theorem over_no (w : World) (A B : Int) (nA nB : Nat) (ao : Option Addr) (cap : Nat) (D : List Dx) (HD : Hid (DosAt w (.slice ao D.length cap) D)) (HSM : Hid (smallAll D = true)) (H1 : Hid (skMay A B nA = false)) :
    Calls Try.prog 10 #[.agg #[.int .i64 A, .int .i64 B, .int .u64 nA, .int .u64 nB], .slice ao D.length cap] w fun e w' => e = .returned (.bool true) ∧ Fr [] w w' := by
  go_enter Try.func10, Try.ntmps10
  have HS0 := Lib.hid (St.start w)
  go_wp2_with fail
  obtain ⟨gt, hgt⟩ : ∃ g, g = w.heap.size := ⟨_, rfl⟩
  obtain ⟨w1, hw⟩ : ∃ w1, w.alloc (.cells #[.int .i64 A, .int .i64 B, .int .u64 nA, .int .u64 nB] 42) = w1 := ⟨_, rfl⟩
  rw [hw, ← hgt]
  have hs := HS0.out.lay 42 [.int .i64 A, .int .i64 B, .int .u64 nA, .int .u64 nB]
  rw [hw, ← hgt] at hs
  have HS1 := Lib.hid hs
  clear hw hgt hs 
  go_wp2_with fail
  have hq := lw_awake w1
  have HQ := Lib.hid hq
  clear hq
  refine HQ.out.mono ?_
  clear HQ
  rintro e w2 ⟨rfl, hf⟩
  have HS2 := Lib.hid (HS1.out.grow hf)
  clear hf
  go_wp2_with fail
  have hq := lw_small w2 _ D (HD.out.fr HS2.out.fr)
  rw [HSM.out] at hq
  have HQ := Lib.hid hq
  clear hq
  refine HQ.out.mono ?_
  clear HQ
  rintro e w3 ⟨rfl, hf⟩
  have HS3 := Lib.hid (HS2.out.grow hf)
  clear hf
  have qgt0 := ((HS3.out.cells 0 rfl)).cell 0
  have qgt1 := ((HS3.out.cells 0 rfl)).cell 1
  have qgt2 := ((HS3.out.cells 0 rfl)).cell 2
  have qgt3 := ((HS3.out.cells 0 rfl)).cell 3
  simp only [List.getElem?_cons_zero, List.getElem?_cons_succ] at qgt0 qgt1 qgt2 qgt3
  go_wp2_with fail
  have hq := sk_new w3 A B nA
  rw [skNew_no H1.out] at hq
  have HQ := Lib.hid hq
  clear hq
  refine HQ.out.mono ?_
  clear HQ
  rintro e w4 ⟨rfl, hf⟩
  have HS4 := Lib.hid (HS3.out.grow hf)
  clear hf
  clear qgt0 qgt1 qgt2 qgt3
  go_wp2_with fail
  go_ret
  exact ⟨rfl, HS4.out.fr.trans (Fr.alloc _ _ _)⟩

set_option maxRecDepth 100000 in
set_option maxHeartbeats 2000000 in
theorem over_main (w : World) (a b : Nat) (nA nB : Nat) (ao : Option Addr) (cap : Nat) (D : List Dx) (HD : Hid (DosAt w (.slice ao D.length cap) D)) (PA : Hid (peer a)) (PB : Hid (peer b)) (NA : Hid (nonce nA)) (HSM : Hid (smallAll D = true)) (H1 : Hid (skMay a b nA = true)) (o : Sk) (ec : Int) (HO : Hid (skNew b a nB = .tuple #[skV o, .int .i64 ec])) (HW : Hid o.Wf) (L1 L2 : List En) (x y : List UInt8) (o' : Sk) (EL : Hid (L1.length ≤ 10 ∧ L2.length ≤ 10)) (EA0 : Hid (again [] ⟨0, a, b, nA, 0⟩ = ([], []))) (E1 : Hid (called [] ⟨0, a, b, nA, 0⟩ = (⟨1, a, b, nA, 0⟩, (L1, x)))) (E2 : Hid (called L1 o = (o', (L2, y)))) (E3 : Hid (∀ l, heard L2 ⟨4, a, b, nA, 0⟩ l = (⟨4, a, b, nA, 0⟩, (L2, [])))) (E4 : Hid (called L2 ⟨4, a, b, nA, 0⟩ = (⟨4, a, b, nA, 0⟩, (L2, [])))) (E5 : Hid (again L2 ⟨4, a, b, nA, 0⟩ = (L2, []))) :
    Calls Try.prog 10 #[.agg #[.int .i64 a, .int .i64 b, .int .u64 nA, .int .u64 nB], .slice ao D.length cap] w fun e w' => e = .returned (.bool true) ∧ Fr [] w w' := by
  go_enter Try.func10, Try.ntmps10
  have HS0 := Lib.hid (St.start w)
  go_wp2_with fail
  obtain ⟨gt, hgt⟩ : ∃ g, g = w.heap.size := ⟨_, rfl⟩
  obtain ⟨w1, hw⟩ : ∃ w1, w.alloc (.cells #[.int .i64 a, .int .i64 b, .int .u64 nA, .int .u64 nB] 42) = w1 := ⟨_, rfl⟩
  rw [hw, ← hgt]
  have hs := HS0.out.lay 42 [.int .i64 a, .int .i64 b, .int .u64 nA, .int .u64 nB]
  rw [hw, ← hgt] at hs
  have HS1 := Lib.hid hs
  clear hw hgt hs 
  go_wp2_with fail
  have hq := lw_awake w1
  have HQ := Lib.hid hq
  clear hq
  refine HQ.out.mono ?_
  clear HQ
  rintro e w2 ⟨rfl, hf⟩
  have HS2 := Lib.hid (HS1.out.grow hf)
  clear hf
  go_wp2_with fail
  have hq := lw_small w2 _ D (HD.out.fr HS2.out.fr)
  rw [HSM.out] at hq
  have HQ := Lib.hid hq
  clear hq
  refine HQ.out.mono ?_
  clear HQ
  rintro e w3 ⟨rfl, hf⟩
  have HS3 := Lib.hid (HS2.out.grow hf)
  clear hf
  have qgt0 := ((HS3.out.cells 0 rfl)).cell 0
  have qgt1 := ((HS3.out.cells 0 rfl)).cell 1
  have qgt2 := ((HS3.out.cells 0 rfl)).cell 2
  have qgt3 := ((HS3.out.cells 0 rfl)).cell 3
  simp only [List.getElem?_cons_zero, List.getElem?_cons_succ] at qgt0 qgt1 qgt2 qgt3
  go_wp2_with fail
  have hq := sk_new w3 a b nA
  rw [skNew_ok H1.out] at hq
  have HQ := Lib.hid hq
  clear hq
  refine HQ.out.mono ?_
  clear HQ
  rintro e w4 ⟨rfl, hf⟩
  have HS4 := Lib.hid (HS3.out.grow hf)
  clear hf
  clear qgt0 qgt1 qgt2 qgt3
  go_wp2_with fail
  obtain ⟨ga, hga⟩ : ∃ g, g = w4.heap.size := ⟨_, rfl⟩
  obtain ⟨w5, hw⟩ : ∃ w1, w4.alloc (.cells #[.int .i64 0, .int .i64 a, .int .i64 b, .int .u64 nA, .int .u64 0] 46) = w1 := ⟨_, rfl⟩
  rw [hw, ← hga]
  have hs := HS4.out.lay 46 [.int .i64 0, .int .i64 a, .int .i64 b, .int .u64 nA, .int .u64 0]
  rw [hw, ← hga] at hs
  have HS5 := Lib.hid hs
  clear hw hga hs 
  go_wp2_with fail
  refine (not_new w5).mono ?_
  rintro e w6 ⟨rfl, hn, hf⟩
  have HN6 := Lib.hid hn
  have HS6 := Lib.hid (HS5.out.notary hn hf (by omega) (by omega))
  clear hn hf
  have qga0 := ((HS6.out.cells 0 rfl)).cell 0
  have qga1 := ((HS6.out.cells 0 rfl)).cell 1
  have qga2 := ((HS6.out.cells 0 rfl)).cell 2
  have qga3 := ((HS6.out.cells 0 rfl)).cell 3
  have qga4 := ((HS6.out.cells 0 rfl)).cell 4
  simp only [List.getElem?_cons_zero, List.getElem?_cons_succ] at qga0 qga1 qga2 qga3 qga4
  go_wp2_with fail
  clear qga0 qga1 qga2 qga3 qga4
  have hq := sk_again w6 (w5.heap.size + 1) w5.heap.size (.slice none 0 0) [] ⟨0, a, b, nA, 0⟩ ⟨by have := PA.out; have := PB.out; have := NA.out; unfold peer nonce at *; dsimp only; omega, by have := PA.out; have := PB.out; have := NA.out; unfold peer nonce at *; dsimp only; omega, by have := PA.out; have := PB.out; have := NA.out; unfold peer nonce at *; dsimp only; omega, by have := PA.out; have := PB.out; have := NA.out; unfold peer nonce at *; dsimp only; omega⟩ HN6.out (by simp)
  rw [EA0.out] at hq
  have HQ := Lib.hid hq
  clear hq
  refine HQ.out.mono ?_
  clear HQ
  rintro e w7 ⟨v7, rfl, hs⟩
  obtain rfl : v7 = .slice none 0 0 := hs.2.1.2 rfl
  obtain ⟨lv7, hn, hs⟩ := HS6.out.sent hs
  have HN7 := Lib.hid hn
  have HS7 := Lib.hid hs.dropB
  clear hn hs
  have qga0 := ((HS7.out.cells 0 rfl)).cell 0
  have qga1 := ((HS7.out.cells 0 rfl)).cell 1
  have qga2 := ((HS7.out.cells 0 rfl)).cell 2
  have qga3 := ((HS7.out.cells 0 rfl)).cell 3
  have qga4 := ((HS7.out.cells 0 rfl)).cell 4
  simp only [List.getElem?_cons_zero, List.getElem?_cons_succ] at qga0 qga1 qga2 qga3 qga4
  go_wp2_with fail
  clear qga0 qga1 qga2 qga3 qga4
  have hq := sk_call w7 (w5.heap.size + 1) w5.heap.size lv7 [] ⟨0, a, b, nA, 0⟩ ⟨by have := PA.out; have := PB.out; have := NA.out; unfold peer nonce at *; dsimp only; omega, by have := PA.out; have := PB.out; have := NA.out; unfold peer nonce at *; dsimp only; omega, by have := PA.out; have := PB.out; have := NA.out; unfold peer nonce at *; dsimp only; omega, by have := PA.out; have := PB.out; have := NA.out; unfold peer nonce at *; dsimp only; omega⟩ HN7.out (by simp)
  rw [E1.out] at hq
  have HQ := Lib.hid hq
  clear hq
  refine HQ.out.mono ?_
  clear HQ
  rintro e w8 ⟨v8, rfl, hs⟩
  obtain ⟨lv8, hn, hs⟩ := HS7.out.sent hs
  obtain ⟨ao8, c8, hv⟩ := sl_shape (hs.slice 0 rfl)
  rw [u8s_length] at hv
  subst hv
  have HN8 := Lib.hid hn
  have HS8 := Lib.hid hs
  clear hn hs
  unfold skV
  dsimp only
  go_wp2_with (refine wpList_store_whole rfl 46 (.tmp 5) (.tmp 47) rfl ga [.int .i64 1, .int .i64 a, .int .i64 b, .int .u64 nA, .int .u64 0] rfl rfl _ _ (HS8.out.cells 0 rfl) (by kernel_rfl) rfl (by simp [Value.oneCell']) ?_; intro w9 hc hf _; have hs := HS8.out.put 0 rfl hf hc; simp only [List.set_cons_zero] at hs; have HS9 := Lib.hid hs; have HN9 := Lib.hid (HN8.out.fr hf (by have := (HS8.out.own _ (List.mem_of_getElem? (i := 0) rfl)).2.2; intro g hg; simp only [List.mem_singleton] at hg; subst hg; exact this)); clear hc hf hs; have qga0 := ((HS9.out.cells 0 rfl)).cell 0; have qga1 := ((HS9.out.cells 0 rfl)).cell 1; have qga2 := ((HS9.out.cells 0 rfl)).cell 2; have qga3 := ((HS9.out.cells 0 rfl)).cell 3; have qga4 := ((HS9.out.cells 0 rfl)).cell 4; simp only [List.getElem?_cons_zero, List.getElem?_cons_succ] at qga0 qga1 qga2 qga3 qga4)
  clear qga0 qga1 qga2 qga3 qga4
  go_wp2_with fail
  have hq := sk_close w9 ⟨1, a, b, nA, 0⟩
  unfold skV at hq
  dsimp only at hq
  have HQ := Lib.hid hq
  clear hq
  refine HQ.out.mono ?_
  clear HQ
  rintro e w10 ⟨rfl, hf⟩
  have HS10 := Lib.hid (HS9.out.grow hf)
  have HN10 := Lib.hid (HN9.out.fr hf (by simp))
  clear hf
  have qgt0 := fun o => ((HS10.out.cells 1 rfl).alloc o).cell 0
  have qgt1 := fun o => ((HS10.out.cells 1 rfl).alloc o).cell 1
  have qgt2 := fun o => ((HS10.out.cells 1 rfl).alloc o).cell 2
  have qgt3 := fun o => ((HS10.out.cells 1 rfl).alloc o).cell 3
  simp only [List.getElem?_cons_zero, List.getElem?_cons_succ] at qgt0 qgt1 qgt2 qgt3
  go_wp2_with fail
  obtain ⟨gc, hgc⟩ : ∃ g, g = w10.heap.size := ⟨_, rfl⟩
  obtain ⟨w11, hw⟩ : ∃ w1, w10.alloc (.cells #[.int .i64 4, .int .i64 a, .int .i64 b, .int .u64 nA, .int .u64 0] 46) = w1 := ⟨_, rfl⟩
  rw [hw, ← hgc]
  have hs := HS10.out.lay 46 [.int .i64 4, .int .i64 a, .int .i64 b, .int .u64 nA, .int .u64 0]
  rw [hw, ← hgc] at hs
  have HS11 := Lib.hid hs
  have hn := HN10.out.fr (Fr.alloc w10 (.cells #[.int .i64 4, .int .i64 a, .int .i64 b, .int .u64 nA, .int .u64 0] 46) []) (by simp)
  rw [hw] at hn
  have HN11 := Lib.hid hn
  clear hn
  clear hw hgc hs qgt0 qgt1 qgt2 qgt3
  have qgt0 := ((HS11.out.cells 2 rfl)).cell 0
  have qgt1 := ((HS11.out.cells 2 rfl)).cell 1
  have qgt2 := ((HS11.out.cells 2 rfl)).cell 2
  have qgt3 := ((HS11.out.cells 2 rfl)).cell 3
  simp only [List.getElem?_cons_zero, List.getElem?_cons_succ] at qgt0 qgt1 qgt2 qgt3
  go_wp2_with fail
  have hq := sk_new w11 b a nB
  rw [HO.out] at hq
  unfold skV at hq
  have HQ := Lib.hid hq
  clear hq
  refine HQ.out.mono ?_
  clear HQ
  rintro e w12 ⟨rfl, hf⟩
  have HS12 := Lib.hid (HS11.out.grow hf)
  have HN12 := Lib.hid (HN11.out.fr hf (by simp))
  clear hf
  clear qgt0 qgt1 qgt2 qgt3
  go_wp2_with fail
  obtain ⟨go, hgo⟩ : ∃ g, g = w12.heap.size := ⟨_, rfl⟩
  obtain ⟨w13, hw⟩ : ∃ w1, w12.alloc (.cells #[.int .i64 o.state, .int .i64 o.own, .int .i64 o.other, .int .u64 o.nonce, .int .u64 o.echo] 46) = w1 := ⟨_, rfl⟩
  rw [hw, ← hgo]
  have hs := HS12.out.lay 46 [.int .i64 o.state, .int .i64 o.own, .int .i64 o.other, .int .u64 o.nonce, .int .u64 o.echo]
  rw [hw, ← hgo] at hs
  have HS13 := Lib.hid hs
  have hn := HN12.out.fr (Fr.alloc w12 (.cells #[.int .i64 o.state, .int .i64 o.own, .int .i64 o.other, .int .u64 o.nonce, .int .u64 o.echo] 46) []) (by simp)
  rw [hw] at hn
  have HN13 := Lib.hid hn
  clear hn
  clear hw hgo hs 
  have qgo0 := ((HS13.out.cells 0 rfl)).cell 0
  have qgo1 := ((HS13.out.cells 0 rfl)).cell 1
  have qgo2 := ((HS13.out.cells 0 rfl)).cell 2
  have qgo3 := ((HS13.out.cells 0 rfl)).cell 3
  have qgo4 := ((HS13.out.cells 0 rfl)).cell 4
  simp only [List.getElem?_cons_zero, List.getElem?_cons_succ] at qgo0 qgo1 qgo2 qgo3 qgo4
  go_wp2_with fail
  clear qgo0 qgo1 qgo2 qgo3 qgo4
  have hq := sk_call w13 (w5.heap.size + 1) w5.heap.size lv8 L1 o HW.out HN13.out (by have := EL.out; omega)
  rw [E2.out] at hq
  have HQ := Lib.hid hq
  clear hq
  refine HQ.out.mono ?_
  clear HQ
  rintro e w14 ⟨v14, rfl, hs⟩
  obtain ⟨lv14, hn, hs⟩ := HS13.out.sent hs
  obtain ⟨ao14, c14, hv⟩ := sl_shape (hs.slice 0 rfl)
  rw [u8s_length] at hv
  subst hv
  have HN14 := Lib.hid hn
  have HS14 := Lib.hid hs
  clear hn hs
  unfold skV
  dsimp only
  have qgc0 := fun o => ((HS14.out.cells 1 rfl).alloc o).cell 0
  have qgc1 := fun o => ((HS14.out.cells 1 rfl).alloc o).cell 1
  have qgc2 := fun o => ((HS14.out.cells 1 rfl).alloc o).cell 2
  have qgc3 := fun o => ((HS14.out.cells 1 rfl).alloc o).cell 3
  have qgc4 := fun o => ((HS14.out.cells 1 rfl).alloc o).cell 4
  simp only [List.getElem?_cons_zero, List.getElem?_cons_succ] at qgc0 qgc1 qgc2 qgc3 qgc4
  go_wp2_with fail
  obtain ⟨gh, hgh⟩ : ∃ g, g = w14.heap.size := ⟨_, rfl⟩
  obtain ⟨w15, hw⟩ : ∃ w1, w14.alloc (.cells #[.int .i64 o'.state, .int .i64 o'.own, .int .i64 o'.other, .int .u64 o'.nonce, .int .u64 o'.echo] 46) = w1 := ⟨_, rfl⟩
  rw [hw, ← hgh]
  have hs := HS14.out.lay 46 [.int .i64 o'.state, .int .i64 o'.own, .int .i64 o'.other, .int .u64 o'.nonce, .int .u64 o'.echo]
  rw [hw, ← hgh] at hs
  have HS15 := Lib.hid hs
  have hn := HN14.out.fr (Fr.alloc w14 (.cells #[.int .i64 o'.state, .int .i64 o'.own, .int .i64 o'.other, .int .u64 o'.nonce, .int .u64 o'.echo] 46) []) (by simp)
  rw [hw] at hn
  have HN15 := Lib.hid hn
  clear hn
  clear hw hgh hs qgc0 qgc1 qgc2 qgc3 qgc4
  have qgc0 := ((HS15.out.cells 2 rfl)).cell 0
  have qgc1 := ((HS15.out.cells 2 rfl)).cell 1
  have qgc2 := ((HS15.out.cells 2 rfl)).cell 2
  have qgc3 := ((HS15.out.cells 2 rfl)).cell 3
  have qgc4 := ((HS15.out.cells 2 rfl)).cell 4
  simp only [List.getElem?_cons_zero, List.getElem?_cons_succ] at qgc0 qgc1 qgc2 qgc3 qgc4
  go_wp2_with fail
  clear qgc0 qgc1 qgc2 qgc3 qgc4
  have hq := sk_hear w15 (w5.heap.size + 1) w5.heap.size lv14 L2 ⟨4, a, b, nA, 0⟩ (.slice ao14 (y).length c14) y ⟨by have := PA.out; have := PB.out; have := NA.out; unfold peer nonce at *; dsimp only; omega, by have := PA.out; have := PB.out; have := NA.out; unfold peer nonce at *; dsimp only; omega, by have := PA.out; have := PB.out; have := NA.out; unfold peer nonce at *; dsimp only; omega, by have := PA.out; have := PB.out; have := NA.out; unfold peer nonce at *; dsimp only; omega⟩ HN15.out (HS15.out.slice 0 rfl).ex (by have := EL.out; omega)
  rw [(E3.out y)] at hq
  have HQ := Lib.hid hq
  clear hq
  refine HQ.out.mono ?_
  clear HQ
  rintro e w16 ⟨v16, rfl, hs⟩
  obtain rfl : v16 = .slice none 0 0 := hs.2.1.2 rfl
  obtain ⟨lv16, hn, hs⟩ := HS15.out.sent hs
  have HN16 := Lib.hid hn
  have HS16 := Lib.hid hs.dropB
  clear hn hs
  unfold skV
  dsimp only
  have qgc0 := fun o => ((HS16.out.cells 2 rfl).alloc o).cell 0
  have qgc1 := fun o => ((HS16.out.cells 2 rfl).alloc o).cell 1
  have qgc2 := fun o => ((HS16.out.cells 2 rfl).alloc o).cell 2
  have qgc3 := fun o => ((HS16.out.cells 2 rfl).alloc o).cell 3
  have qgc4 := fun o => ((HS16.out.cells 2 rfl).alloc o).cell 4
  simp only [List.getElem?_cons_zero, List.getElem?_cons_succ] at qgc0 qgc1 qgc2 qgc3 qgc4
  go_wp2_with fail
  obtain ⟨gx, hgx⟩ : ∃ g, g = w16.heap.size := ⟨_, rfl⟩
  obtain ⟨w17, hw⟩ : ∃ w1, w16.alloc (.cells #[.int .i64 4, .int .i64 a, .int .i64 b, .int .u64 nA, .int .u64 0] 46) = w1 := ⟨_, rfl⟩
  rw [hw, ← hgx]
  have hs := HS16.out.lay 46 [.int .i64 4, .int .i64 a, .int .i64 b, .int .u64 nA, .int .u64 0]
  rw [hw, ← hgx] at hs
  have HS17 := Lib.hid hs
  have hn := HN16.out.fr (Fr.alloc w16 (.cells #[.int .i64 4, .int .i64 a, .int .i64 b, .int .u64 nA, .int .u64 0] 46) []) (by simp)
  rw [hw] at hn
  have HN17 := Lib.hid hn
  clear hn
  clear hw hgx hs qgc0 qgc1 qgc2 qgc3 qgc4
  have qgc0 := ((HS17.out.cells 3 rfl)).cell 0
  have qgc1 := ((HS17.out.cells 3 rfl)).cell 1
  have qgc2 := ((HS17.out.cells 3 rfl)).cell 2
  have qgc3 := ((HS17.out.cells 3 rfl)).cell 3
  have qgc4 := ((HS17.out.cells 3 rfl)).cell 4
  simp only [List.getElem?_cons_zero, List.getElem?_cons_succ] at qgc0 qgc1 qgc2 qgc3 qgc4
  go_wp2_with fail
  clear qgc0 qgc1 qgc2 qgc3 qgc4
  have hq := sk_call w17 (w5.heap.size + 1) w5.heap.size lv16 L2 ⟨4, a, b, nA, 0⟩ ⟨by have := PA.out; have := PB.out; have := NA.out; unfold peer nonce at *; dsimp only; omega, by have := PA.out; have := PB.out; have := NA.out; unfold peer nonce at *; dsimp only; omega, by have := PA.out; have := PB.out; have := NA.out; unfold peer nonce at *; dsimp only; omega, by have := PA.out; have := PB.out; have := NA.out; unfold peer nonce at *; dsimp only; omega⟩ HN17.out (by have := EL.out; omega)
  rw [E4.out] at hq
  have HQ := Lib.hid hq
  clear hq
  refine HQ.out.mono ?_
  clear HQ
  rintro e w18 ⟨v18, rfl, hs⟩
  obtain rfl : v18 = .slice none 0 0 := hs.2.1.2 rfl
  obtain ⟨lv18, hn, hs⟩ := HS17.out.sent hs
  have HN18 := Lib.hid hn
  have HS18 := Lib.hid hs.dropB
  clear hn hs
  unfold skV
  dsimp only
  go_wp2_with fail
  obtain ⟨gy, hgy⟩ : ∃ g, g = w18.heap.size := ⟨_, rfl⟩
  obtain ⟨w19, hw⟩ : ∃ w1, w18.alloc (.cells #[.int .i64 4, .int .i64 a, .int .i64 b, .int .u64 nA, .int .u64 0] 46) = w1 := ⟨_, rfl⟩
  rw [hw, ← hgy]
  have hs := HS18.out.lay 46 [.int .i64 4, .int .i64 a, .int .i64 b, .int .u64 nA, .int .u64 0]
  rw [hw, ← hgy] at hs
  have HS19 := Lib.hid hs
  have hn := HN18.out.fr (Fr.alloc w18 (.cells #[.int .i64 4, .int .i64 a, .int .i64 b, .int .u64 nA, .int .u64 0] 46) []) (by simp)
  rw [hw] at hn
  have HN19 := Lib.hid hn
  clear hn
  clear hw hgy hs 
  obtain ⟨nb, hnb⟩ : ∃ nb, nb = (w5.heap.size + 1) := ⟨_, rfl⟩
  obtain ⟨mb, hmb⟩ : ∃ mb, mb = w5.heap.size := ⟨_, rfl⟩
  rw [← hnb, ← hmb] at HS19 HN19
  rw [← hnb]
  clear hnb hmb
  have hDl : D.length ≤ 9223372036854775807 := by
    obtain ⟨_, _, _, h⟩ := HD.out.shape
    unfold maxLen at h
    omega
  go_loopw [17] (fun v wr => ∃ (i : Nat) (lv : Value), i ≤ D.length ∧ i ≤ 60 ∧ v = .int .i64 i ∧ NotIn wr nb mb lv L2 ∧ St w wr (NBlocks nb mb lv) [(gy, 46, [.int .i64 4, .int .i64 a, .int .i64 b, .int .u64 nA, .int .u64 0]), (gx, 46, [.int .i64 4, .int .i64 a, .int .i64 b, .int .u64 nA, .int .u64 0]), (gh, 46, [.int .i64 o'.state, .int .i64 o'.own, .int .i64 o'.other, .int .u64 o'.nonce, .int .u64 o'.echo]), (go, 46, [.int .i64 o.state, .int .i64 o.own, .int .i64 o.other, .int .u64 o.nonce, .int .u64 o.echo]), (gc, 46, [.int .i64 4, .int .i64 a, .int .i64 b, .int .u64 nA, .int .u64 0]), (ga, 46, [.int .i64 1, .int .i64 a, .int .i64 b, .int .u64 nA, .int .u64 0]), (gt, 42, [.int .i64 a, .int .i64 b, .int .u64 nA, .int .u64 nB])] [((.slice ao14 (y).length c14), u8s y), ((.slice ao8 (x).length c8), u8s x)]) (fun v _ => 60 - (intOf v).toNat)
  case atStart => exact ⟨0, lv18, Nat.zero_le _, Nat.zero_le _, rfl, HN19.out, HS19.out⟩
  case round =>
    obtain ⟨i, lv, hi, hi60, rfl, hn, hs⟩ := hrel
    have HNr := Lib.hid hn
    have HSr := Lib.hid hs
    clear hn hs
    by_cases hlt : i < D.length ∧ i < 60
    · obtain ⟨hlt, h60⟩ := hlt
      have h60' : (i : Int) < 60 := by omega
      have hi0 : (0 : Int) ≤ (i : Int) := by omega
      obtain ⟨d, hd⟩ : ∃ d, D[i]? = some d := ⟨_, List.getElem?_eq_getElem hlt⟩
      obtain ⟨g, off, rfl, hg, hok, hc⟩ := HD.out.get hd
      obtain ⟨ba, bc, hbv⟩ := hok.bytes.shape
      rw [u8s_length] at hbv
      have HBS : Hid (SlEx w (.slice ba d.bs.length bc) (u8s d.bs)) := hbv ▸ hok.bytes
      have HC3 : Hid (w.cell? ⟨g, off + i * 8 + 3, none⟩ = some (.slice ba d.bs.length bc)) := by
        show _ = _
        rw [Nat.add_assoc, hc 3 (by omega), ← hbv]
        rfl
      clear hd hok hc hbv
      go_wp2_with fail
      have EH : Hid (∀ args w, (callFunc 24 args).run Try.prog w = .ok (.enter 24 args) w) := enters_of Try.func24 (by kernel_rfl) rfl
      refine wp_region_ops (fun w' => ∃ lv, NotIn w' nb mb lv L2 ∧ St w w' (NBlocks nb mb lv) [(gy, 46, [.int .i64 4, .int .i64 a, .int .i64 b, .int .u64 nA, .int .u64 0]), (gx, 46, [.int .i64 4, .int .i64 a, .int .i64 b, .int .u64 nA, .int .u64 0]), (gh, 46, [.int .i64 o'.state, .int .i64 o'.own, .int .i64 o'.other, .int .u64 o'.nonce, .int .u64 o'.echo]), (go, 46, [.int .i64 o.state, .int .i64 o.own, .int .i64 o.other, .int .u64 o.nonce, .int .u64 o.echo]), (gc, 46, [.int .i64 4, .int .i64 a, .int .i64 b, .int .u64 nA, .int .u64 0]), (ga, 46, [.int .i64 1, .int .i64 a, .int .i64 b, .int .u64 nA, .int .u64 0]), (gt, 42, [.int .i64 a, .int .i64 b, .int .u64 nA, .int .u64 nB])] [((.slice ao14 (y).length c14), u8s y), ((.slice ao8 (x).length c8), u8s x)] ∧ wr.heap.size ≤ w'.heap.size) (Rel [.int .i64 4, .int .i64 a, .int .i64 b, .int .u64 nA, .int .u64 0]) (fun iop v w' => match iop with
        | 0 => v = .agg #[.int .i64 4, .int .i64 a, .int .i64 b, .int .u64 nA, .int .u64 0]
        | 1 => v = (.pointer (some ⟨nb, 0, none⟩))
        | 2 => v = .slice (some ⟨g, off, none⟩) D.length cap
        | 3 => v = .int .i64 i
        | 4 => v = .pointer (some ⟨g, off + i * 8, none⟩)
        | 5 => v = .pointer (some ⟨g, off + i * 8 + 3, none⟩)
        | 6 => v = .slice ba d.bs.length bc
        | 7 => v = .tuple #[.agg #[.int .i64 4, .int .i64 a, .int .i64 b, .int .u64 nA, .int .u64 0], .slice none 0 0]
        | 8 => v = .tuple #[.agg #[.int .i64 4, .int .i64 a, .int .i64 b, .int .u64 nA, .int .u64 0], .slice none 0 0]
        | 9 => v = .agg #[.int .i64 4, .int .i64 a, .int .i64 b, .int .u64 nA, .int .u64 0]
        | 10 => v = .slice none 0 0
        | 11 => ∃ (r : Nat) (cur : Array Value), v = .pointer (some ⟨r, 0, none⟩) ∧ w'.heap[r]? = some (Obj.cells cur 46 (0, 0)) ∧ cur.size = 5 ∧ wr.heap.size ≤ r
        | 12 => ∃ r : Nat, v = .pointer (some ⟨r, 0, none⟩) ∧ w'.heap[r]? = some (Obj.cells ([.int .i64 4, .int .i64 a, .int .i64 b, .int .u64 nA, .int .u64 0] : List Value).toArray 46 (0, 0))
        | 13 => v = .slice none 0 0
        | _ => True) (by kernel_rfl) (by kernel_rfl) (by kernel_rfl) ⟨lv, HNr.out.fr (Fr.drew _ []) (by simp), HSr.out.drew, Nat.le_refl _⟩ ?_ ?_ ?_
      · intro i v w1 w2 _ hR hF
        split at hF
        all_goals first
          | exact hF
          | (obtain ⟨r, cur, h1, h2, h3, h4⟩ := hF
             obtain ⟨cur', k1, k2⟩ := hR.shake r cur h2
             exact ⟨r, cur', h1, k1, k2.trans h3, h4⟩)
          | (obtain ⟨r, h1, h2⟩ := hF
             exact ⟨r, h1, (hR.kept r h2).trans h2⟩)
      · refine ⟨?_, ?_, ?_, ?_, ?_, ?_, ?_, ?_, ?_, ?_, ?_, ?_, ?_, ?_, trivial⟩
        · intro a' w' hJ hd hk hf
          obtain ⟨lv', hn', hs', hz'⟩ := hJ
          have q0 := (hs'.cells 4 rfl).cell 0
          have q1 := (hs'.cells 4 rfl).cell 1
          have q2 := (hs'.cells 4 rfl).cell 2
          have q3 := (hs'.cells 4 rfl).cell 3
          have q4 := (hs'.cells 4 rfl).cell 4
          simp only [List.getElem?_cons_zero, List.getElem?_cons_succ] at q0 q1 q2 q3 q4
          have e8 : a'.tmps[8]?.getD undef = .pointer (some ⟨gc, 0, none⟩) := hk 8 rfl
          rw [if_pos (show Region.wanted _ _ = true from rfl)]
          unfold Oper.wp
          simp [go_sem, e8, q0, q1, q2, q3, q4]
          exact ⟨_, rfl, ⟨lv', hn', hs', hz'⟩, Rel.refl _ _, rfl⟩
        · intro a' w' hJ hd hk hf
          obtain ⟨lv', hn', hs', hz'⟩ := hJ
          have e7 : a'.tmps[7]?.getD undef = (.pointer (some ⟨nb, 0, none⟩)) := hk 7 rfl
          rw [if_pos (show Region.wanted _ _ = true from rfl)]
          unfold Oper.wp
          simp [go_sem, e7]
          exact ⟨_, rfl, ⟨lv', hn', hs', hz'⟩, Rel.refl _ _, rfl⟩
        · intro a' w' hJ hd hk hf
          obtain ⟨lv', hn', hs', hz'⟩ := hJ
          have e1 : a'.tmps[1]?.getD undef = .slice (some ⟨g, off, none⟩) D.length cap := hk 1 rfl
          rw [if_pos (show Region.wanted _ _ = true from rfl)]
          unfold Oper.wp
          simp [go_sem, e1]
          exact ⟨_, rfl, ⟨lv', hn', hs', hz'⟩, Rel.refl _ _, rfl⟩
        · intro a' w' hJ hd hk hf
          obtain ⟨lv', hn', hs', hz'⟩ := hJ
          have e17 : a'.tmps[17]?.getD undef = .int .i64 i := hk 17 rfl
          rw [if_pos (show Region.wanted _ _ = true from rfl)]
          unfold Oper.wp
          simp [go_sem, e17]
          exact ⟨_, rfl, ⟨lv', hn', hs', hz'⟩, Rel.refl _ _, rfl⟩
        · intro a' w' hJ hd hk hf
          obtain ⟨lv', hn', hs', hz'⟩ := hJ
          have f2 : a'.tmps[93]?.getD undef = .slice (some ⟨g, off, none⟩) D.length cap := hf 2 _ rfl rfl
          have f3 : a'.tmps[94]?.getD undef = .int .i64 i := hf 3 _ rfl rfl
          rw [if_pos (show Region.wanted _ _ = true from rfl)]
          unfold Oper.wp
          simp [go_sem, f2, f3, hlt]
          exact ⟨_, rfl, ⟨lv', hn', hs', hz'⟩, Rel.refl _ _, rfl⟩
        · intro a' w' hJ hd hk hf
          obtain ⟨lv', hn', hs', hz'⟩ := hJ
          have f4 : a'.tmps[95]?.getD undef = .pointer (some ⟨g, off + i * 8, none⟩) := hf 4 _ rfl rfl
          rw [if_pos (show Region.wanted _ _ = true from rfl)]
          unfold Oper.wp
          simp [go_sem, f4]
          exact ⟨_, rfl, ⟨lv', hn', hs', hz'⟩, Rel.refl _ _, rfl⟩
        · intro a' w' hJ hd hk hf
          obtain ⟨lv', hn', hs', hz'⟩ := hJ
          have q3 := (World.cell?_of_block (w := w) (hs'.fr.block g hg (by simp))).trans HC3.out
          have f5 : a'.tmps[96]?.getD undef = .pointer (some ⟨g, off + i * 8 + 3, none⟩) := hf 5 _ rfl rfl
          rw [if_pos (show Region.wanted _ _ = true from rfl)]
          unfold Oper.wp
          simp [go_sem, f5, q3]
          exact ⟨_, rfl, ⟨lv', hn', hs', hz'⟩, Rel.refl _ _, rfl⟩
        · intro a' w' hJ hd hk hf
          obtain ⟨lv', hn', hs', hz'⟩ := hJ
          have f0 : a'.tmps[91]?.getD undef = .agg #[.int .i64 4, .int .i64 a, .int .i64 b, .int .u64 nA, .int .u64 0] := hf 0 _ rfl rfl
          have f1 : a'.tmps[92]?.getD undef = (.pointer (some ⟨nb, 0, none⟩)) := hf 1 _ rfl rfl
          have f6 : a'.tmps[97]?.getD undef = .slice ba d.bs.length bc := hf 6 _ rfl rfl
          rw [if_pos (show Region.wanted _ _ = true from rfl)]
          refine call_step 24 #[.tmp 91, .tmp 92, .tmp 97] _ rfl EH.out #[skV ⟨4, a, b, nA, 0⟩, (.pointer (some ⟨nb, 0, none⟩)), .slice ba d.bs.length bc] (by simp only [List.map_cons, List.map_nil, Act.eval, Array.getD_eq_getD_getElem?]; rw [f0, f1, f6]; rfl) (sk_hear w' nb mb lv' L2 ⟨4, a, b, nA, 0⟩ _ d.bs ⟨by have := PA.out; have := PB.out; have := NA.out; unfold peer nonce at *; dsimp only; omega, by have := PA.out; have := PB.out; have := NA.out; unfold peer nonce at *; dsimp only; omega, by have := PA.out; have := PB.out; have := NA.out; unfold peer nonce at *; dsimp only; omega, by have := PA.out; have := PB.out; have := NA.out; unfold peer nonce at *; dsimp only; omega⟩ hn' (HBS.out.fr hs'.fr (by simp)) (by have := EL.out; omega)) ?_
          rw [E3.out d.bs]
          rintro e w2 ⟨v2, rfl, hs2⟩
          obtain rfl : v2 = .slice none 0 0 := hs2.2.1.2 rfl
          obtain ⟨lv2, hn2, hs3⟩ := hs'.sent hs2
          exact ⟨_, rfl, _, rfl, ⟨lv2, hn2, hs3.dropB, Nat.le_trans hz' hs2.2.2.1.size⟩, Rel.of_sent hs2 hn', rfl⟩
        · intro a' w' hJ hd hk hf
          obtain ⟨lv', hn', hs', hz'⟩ := hJ
          have f7 : a'.tmps[98]?.getD undef = .tuple #[.agg #[.int .i64 4, .int .i64 a, .int .i64 b, .int .u64 nA, .int .u64 0], .slice none 0 0] := hf 7 _ rfl rfl
          rw [if_pos (show Region.wanted _ _ = true from rfl)]
          unfold Oper.wp
          simp [go_sem, f7]
          exact ⟨_, rfl, ⟨lv', hn', hs', hz'⟩, Rel.refl _ _, rfl⟩
        · intro a' w' hJ hd hk hf
          obtain ⟨lv', hn', hs', hz'⟩ := hJ
          have f8 : a'.tmps[90]?.getD undef = .tuple #[.agg #[.int .i64 4, .int .i64 a, .int .i64 b, .int .u64 nA, .int .u64 0], .slice none 0 0] := hf 8 _ rfl rfl
          rw [if_pos (show Region.wanted _ _ = true from rfl)]
          unfold Oper.wp
          simp [go_sem, f8]
          exact ⟨_, rfl, ⟨lv', hn', hs', hz'⟩, Rel.refl _ _, rfl⟩
        · intro a' w' hJ hd hk hf
          obtain ⟨lv', hn', hs', hz'⟩ := hJ
          have f8 : a'.tmps[90]?.getD undef = .tuple #[.agg #[.int .i64 4, .int .i64 a, .int .i64 b, .int .u64 nA, .int .u64 0], .slice none 0 0] := hf 8 _ rfl rfl
          rw [if_pos (show Region.wanted _ _ = true from rfl)]
          unfold Oper.wp
          simp [go_sem, f8]
          exact ⟨_, rfl, ⟨lv', hn', hs', hz'⟩, Rel.refl _ _, rfl⟩
        · intro a' w' hJ hd hk hf
          obtain ⟨lv', hn', hs', hz'⟩ := hJ
          rw [if_pos (show Region.wanted _ _ = true from rfl)]
          unfold Oper.wp
          simp [go_sem]
          have hf2 := Fr.alloc w' (.cells #[.int .i64 0, .int .i64 0, .int .i64 0, .int .u64 0, .int .u64 0] 46) []
          exact ⟨_, rfl, ⟨lv', hn'.fr hf2 (by simp), hs'.grow hf2, Nat.le_succ_of_le hz'⟩, Rel.of_new hf2, _, rfl, _, heap_alloc_new w' _, rfl, hz'⟩
        · intro a' w' hJ hd hk hf
          obtain ⟨lv', hn', hs', hz'⟩ := hJ
          have f6 : a'.tmps[99]?.getD undef = .agg #[.int .i64 4, .int .i64 a, .int .i64 b, .int .u64 nA, .int .u64 0] := hf 9 _ rfl rfl
          obtain ⟨r, cur, f8, h1, h2, h3⟩ : ∃ (r : Nat) (cur : Array Value), a'.tmps[18]?.getD undef = .pointer (some ⟨r, 0, none⟩) ∧ w'.heap[r]? = some (Obj.cells cur 46 (0, 0)) ∧ cur.size = 5 ∧ wr.heap.size ≤ r := hf 11 _ rfl rfl
          rw [if_pos (show Region.wanted _ _ = true from rfl)]
          refine wp_store_row 46 (.tmp 18) (.tmp 99) rfl r #[.int .i64 4, .int .i64 a, .int .i64 b, .int .u64 nA, .int .u64 0] (by simp only [Act.eval, Array.getD_eq_getD_getElem?]; rw [f8]) (by simp only [Act.eval, Array.getD_eq_getD_getElem?]; rw [f6]) 46 cur h1 (by kernel_rfl) (by simp [h2]) (by simp [Value.oneCell']) ?_
          have hc : Cells (w'.setRow r #[.int .i64 4, .int .i64 a, .int .i64 b, .int .u64 nA, .int .u64 0]) r 46 [.int .i64 4, .int .i64 a, .int .i64 b, .int .u64 nA, .int .u64 0] := setRow_heap w' r cur _ _ (0, 0) h1
          have hfr : Fr [r] w' (w'.setRow r #[.int .i64 4, .int .i64 a, .int .i64 b, .int .u64 nA, .int .u64 0]) := (Fr.refl _ _).crow _ _ (by left; simp)
          have hrN : r ∉ NBlocks nb mb lv' := hn'.not_sk h1
          refine ⟨undef, rfl, ⟨lv', hn'.fr hfr (by simpa using hrN), hs'.touch hfr (Nat.le_trans HSr.out.fr.size h3) hrN ?_ ?_, Nat.le_trans hz' hfr.size⟩, Rel.of_store h1 h2 hfr hc, r, f8, hc⟩
          · intro hm
            obtain ⟨p, hp, hpr⟩ := List.mem_map.1 hm
            have := (HSr.out.own p hp).1.lt
            omega
          · intro p hp hpr
            have := sl_lt (HSr.out.sl p hp).1 hpr
            omega
        · intro a' w' hJ hd hk hf
          obtain ⟨lv', hn', hs', hz'⟩ := hJ
          have f10 : a'.tmps[100]?.getD undef = .slice none 0 0 := hf 10 _ rfl rfl
          rw [if_pos (show Region.wanted _ _ = true from rfl)]
          unfold Oper.wp
          simp [go_sem, f10]
          exact ⟨_, rfl, ⟨lv', hn', hs', hz'⟩, Rel.refl _ _, rfl⟩
      · intro a' w' hJ hF
        obtain ⟨lv', hn', hs', hz'⟩ := hJ
        have HN44 := Lib.hid hn'
        have HS44 := Lib.hid hs'
        obtain ⟨g0, g1, g2, g3, g4, g5, g6, g7, g8, g9, g10, g11, g12, g13, -⟩ := hF
        obtain ⟨r, f18, hx⟩ : ∃ r : Nat, a'.tmps[18]?.getD undef = .pointer (some ⟨r, 0, none⟩) ∧ w'.heap[r]? = some (Obj.cells ([.int .i64 4, .int .i64 a, .int .i64 b, .int .u64 nA, .int .u64 0] : List Value).toArray 46 (0, 0)) := g12
        have HX44 : Hid (Cells w' r 46 [.int .i64 4, .int .i64 a, .int .i64 b, .int .u64 nA, .int .u64 0]) := hx
        have f19 : a'.tmps[19]?.getD undef = .slice none 0 0 := g13
        clear hn' hs' hz' hx g0 g1 g2 g3 g4 g5 g6 g7 g8 g9 g10 g11 g13
        simp only [putTmps, List.setIfInBounds_toArray, List.set_cons_succ, List.set_cons_zero]
        rw [f18, f19]
        clear f18 f19
        generalize a'.tmps[90]?.getD undef = x90
        generalize a'.tmps[91]?.getD undef = x91
        generalize a'.tmps[92]?.getD undef = x92
        generalize a'.tmps[93]?.getD undef = x93
        generalize a'.tmps[94]?.getD undef = x94
        generalize a'.tmps[95]?.getD undef = x95
        generalize a'.tmps[96]?.getD undef = x96
        generalize a'.tmps[97]?.getD undef = x97
        generalize a'.tmps[98]?.getD undef = x98
        generalize a'.tmps[99]?.getD undef = x99
        generalize a'.tmps[100]?.getD undef = x100
        clear a'
        have hne : ∀ W, (Op.equalIn 10000 46 (.agg #[.int .i64 4, .int .i64 a, .int .i64 b, .int .u64 nA, .int .u64 0]) (.agg #[.int .i64 4, .int .i64 a, .int .i64 b, .int .u64 nA, .int .u64 0])).run Try.prog W = .ok true W := fun W => by
          have := run_eq_sk' 9998 ⟨4, a, b, nA, 0⟩ ⟨4, a, b, nA, 0⟩ W
          simpa using this
        have hgd : Try.prog.eqGuardType Try.prog.depth 46 = false := by kernel_rfl
        have q0 := (HS44.out.cells 4 rfl).cell 0
        have q1 := (HS44.out.cells 4 rfl).cell 1
        have q2 := (HS44.out.cells 4 rfl).cell 2
        have q3 := (HS44.out.cells 4 rfl).cell 3
        have q4 := (HS44.out.cells 4 rfl).cell 4
        have p0 := HX44.out.cell 0
        have p1 := HX44.out.cell 1
        have p2 := HX44.out.cell 2
        have p3 := HX44.out.cell 3
        have p4 := HX44.out.cell 4
        simp only [List.getElem?_cons_zero, List.getElem?_cons_succ] at q0 q1 q2 q3 q4 p0 p1 p2 p3 p4
        go_wp2_with fail
        go_roundw
        case rel =>
          exact ⟨i + 1, lv', hlt, h60, by go_num, HN44.out, HS44.out⟩
        case measure =>
          simp [intOf]
          omega
    · by_cases hlt1 : i < D.length
      · have h60' : ¬ (i : Int) < 60 := by omega
        have hi0 : (0 : Int) ≤ (i : Int) := by omega
        have heq : ∀ W, (Op.equalIn 10000 46 (.agg #[.int .i64 4, .int .i64 a, .int .i64 b, .int .u64 nA, .int .u64 0]) (.agg #[.int .i64 4, .int .i64 a, .int .i64 b, .int .u64 nA, .int .u64 0])).run Try.prog W = .ok true W := fun W => by
          have := run_eq_sk' 9998 ⟨4, a, b, nA, 0⟩ ⟨4, a, b, nA, 0⟩ W
          simpa using this
        have hgd : Try.prog.eqGuardType Try.prog.depth 46 = false := by kernel_rfl
        have qgc0 := ((HSr.out.cells 4 rfl)).cell 0
        have qgc1 := ((HSr.out.cells 4 rfl)).cell 1
        have qgc2 := ((HSr.out.cells 4 rfl)).cell 2
        have qgc3 := ((HSr.out.cells 4 rfl)).cell 3
        have qgc4 := ((HSr.out.cells 4 rfl)).cell 4
        have qgx0 := ((HSr.out.cells 1 rfl)).cell 0
        have qgx1 := ((HSr.out.cells 1 rfl)).cell 1
        have qgx2 := ((HSr.out.cells 1 rfl)).cell 2
        have qgx3 := ((HSr.out.cells 1 rfl)).cell 3
        have qgx4 := ((HSr.out.cells 1 rfl)).cell 4
        have qgy0 := ((HSr.out.cells 0 rfl)).cell 0
        have qgy1 := ((HSr.out.cells 0 rfl)).cell 1
        have qgy2 := ((HSr.out.cells 0 rfl)).cell 2
        have qgy3 := ((HSr.out.cells 0 rfl)).cell 3
        have qgy4 := ((HSr.out.cells 0 rfl)).cell 4
        simp only [List.getElem?_cons_zero, List.getElem?_cons_succ] at qgc0 qgc1 qgc2 qgc3 qgc4 qgx0 qgx1 qgx2 qgx3 qgx4 qgy0 qgy1 qgy2 qgy3 qgy4
        go_wp2_with fail
        clear qgc0 qgc1 qgc2 qgc3 qgc4 qgx0 qgx1 qgx2 qgx3 qgx4 qgy0 qgy1 qgy2 qgy3 qgy4
        have hq := sk_again wr nb mb lv L2 ⟨4, a, b, nA, 0⟩ ⟨by have := PA.out; have := PB.out; have := NA.out; unfold peer nonce at *; dsimp only; omega, by have := PA.out; have := PB.out; have := NA.out; unfold peer nonce at *; dsimp only; omega, by have := PA.out; have := PB.out; have := NA.out; unfold peer nonce at *; dsimp only; omega, by have := PA.out; have := PB.out; have := NA.out; unfold peer nonce at *; dsimp only; omega⟩ HNr.out (by have := EL.out; omega)
        rw [E5.out] at hq
        have HQ := Lib.hid hq
        clear hq
        refine HQ.out.mono ?_
        clear HQ
        rintro e w20 ⟨v20, rfl, hs⟩
        obtain rfl : v20 = .slice none 0 0 := hs.2.1.2 rfl
        obtain ⟨lv20, hn, hs⟩ := HSr.out.sent hs
        have HN20 := Lib.hid hn
        have HS20 := Lib.hid hs.dropB
        clear hn hs
        go_wp2_with fail
        go_ret
        exact ⟨rfl, HS20.out.fr⟩
      · clear hlt
        have heq : ∀ W, (Op.equalIn 10000 46 (.agg #[.int .i64 4, .int .i64 a, .int .i64 b, .int .u64 nA, .int .u64 0]) (.agg #[.int .i64 4, .int .i64 a, .int .i64 b, .int .u64 nA, .int .u64 0])).run Try.prog W = .ok true W := fun W => by
          have := run_eq_sk' 9998 ⟨4, a, b, nA, 0⟩ ⟨4, a, b, nA, 0⟩ W
          simpa using this
        have hgd : Try.prog.eqGuardType Try.prog.depth 46 = false := by kernel_rfl
        have qgc0 := ((HSr.out.cells 4 rfl)).cell 0
        have qgc1 := ((HSr.out.cells 4 rfl)).cell 1
        have qgc2 := ((HSr.out.cells 4 rfl)).cell 2
        have qgc3 := ((HSr.out.cells 4 rfl)).cell 3
        have qgc4 := ((HSr.out.cells 4 rfl)).cell 4
        have qgx0 := ((HSr.out.cells 1 rfl)).cell 0
        have qgx1 := ((HSr.out.cells 1 rfl)).cell 1
        have qgx2 := ((HSr.out.cells 1 rfl)).cell 2
        have qgx3 := ((HSr.out.cells 1 rfl)).cell 3
        have qgx4 := ((HSr.out.cells 1 rfl)).cell 4
        have qgy0 := ((HSr.out.cells 0 rfl)).cell 0
        have qgy1 := ((HSr.out.cells 0 rfl)).cell 1
        have qgy2 := ((HSr.out.cells 0 rfl)).cell 2
        have qgy3 := ((HSr.out.cells 0 rfl)).cell 3
        have qgy4 := ((HSr.out.cells 0 rfl)).cell 4
        simp only [List.getElem?_cons_zero, List.getElem?_cons_succ] at qgc0 qgc1 qgc2 qgc3 qgc4 qgx0 qgx1 qgx2 qgx3 qgx4 qgy0 qgy1 qgy2 qgy3 qgy4
        go_wp2_with fail
        clear qgc0 qgc1 qgc2 qgc3 qgc4 qgx0 qgx1 qgx2 qgx3 qgx4 qgy0 qgy1 qgy2 qgy3 qgy4
        have hq := sk_again wr nb mb lv L2 ⟨4, a, b, nA, 0⟩ ⟨by have := PA.out; have := PB.out; have := NA.out; unfold peer nonce at *; dsimp only; omega, by have := PA.out; have := PB.out; have := NA.out; unfold peer nonce at *; dsimp only; omega, by have := PA.out; have := PB.out; have := NA.out; unfold peer nonce at *; dsimp only; omega, by have := PA.out; have := PB.out; have := NA.out; unfold peer nonce at *; dsimp only; omega⟩ HNr.out (by have := EL.out; omega)
        rw [E5.out] at hq
        have HQ := Lib.hid hq
        clear hq
        refine HQ.out.mono ?_
        clear HQ
        rintro e w20 ⟨v20, rfl, hs⟩
        obtain rfl : v20 = .slice none 0 0 := hs.2.1.2 rfl
        obtain ⟨lv20, hn, hs⟩ := HSr.out.sent hs
        have HN20 := Lib.hid hn
        have HS20 := Lib.hid hs.dropB
        clear hn hs
        go_wp2_with fail
        go_ret
        exact ⟨rfl, HS20.out.fr⟩
end Go.Proofs.Ytjfmgpelkhgodaa
