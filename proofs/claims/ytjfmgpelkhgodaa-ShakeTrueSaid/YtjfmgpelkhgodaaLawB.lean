/- The walk of the Shake laws' first look (awake). -/
import Derived.Test.YtjfmgpelkhgodaaLawA
namespace Go.Proofs.Ytjfmgpelkhgodaa
open Go.RowKit
attribute [local go_sem ↓ high] run_min_whole run_max_whole

theorem skNew_ok {own other : Int} {nonce : Nat} (h : skMay own other nonce = true) : skNew own other nonce = .tuple #[.agg #[.int .i64 0, .int .i64 own, .int .i64 other, .int .u64 nonce, .int .u64 0], .int .i64 0] := by
  unfold skNew
  rw [if_pos h]
theorem skNew_no {own other : Int} {nonce : Nat} (h : skMay own other nonce = false) : skNew own other nonce = .tuple #[.agg #[.int .i64 0, .int .i64 0, .int .i64 0, .int .u64 0, .int .u64 0], .int .i64 1] := by
  unfold skNew
  rw [if_neg (by simp [h])]
def aw1 : Sk × (List En × List UInt8) := called [] ⟨0, 1, 2, 5, 0⟩
def aw2 : Sk × (List En × List UInt8) := heard aw1.2.1 ⟨0, 2, 1, 6, 0⟩ aw1.2.2
def aw3 : Sk × (List En × List UInt8) := heard aw2.2.1 ⟨1, 1, 2, 5, 0⟩ aw2.2.2
def aw4 : Sk × (List En × List UInt8) := heard aw3.2.1 ⟨2, 2, 1, 6, 5⟩ aw3.2.2
theorem aw_ok : aw1.1 = ⟨1, 1, 2, 5, 0⟩ ∧ aw2.1 = ⟨2, 2, 1, 6, 5⟩ ∧ aw3.1 = ⟨3, 1, 2, 5, 6⟩ ∧ aw4.1 = ⟨3, 2, 1, 6, 5⟩ ∧ aw4.2.2 = [] ∧ (0 < aw1.2.2.length ∧ 0 < aw2.2.2.length ∧ 0 < aw3.2.2.length) ∧ aw1.2.1.length ≤ 10 ∧ aw2.2.1.length ≤ 10 ∧ aw3.2.1.length ≤ 10 := by decide +kernel
/-- What happens where two meet, by the plain functions. -/
theorem awake_facts : ∃ L1 x L2 y L3 z L4, called [] ⟨0, 1, 2, 5, 0⟩ = (⟨1, 1, 2, 5, 0⟩, (L1, x)) ∧ heard L1 ⟨0, 2, 1, 6, 0⟩ x = (⟨2, 2, 1, 6, 5⟩, (L2, y)) ∧ heard L2 ⟨1, 1, 2, 5, 0⟩ y = (⟨3, 1, 2, 5, 6⟩, (L3, z)) ∧ heard L3 ⟨2, 2, 1, 6, 5⟩ z = (⟨3, 2, 1, 6, 5⟩, (L4, [])) ∧
    (0 < x.length ∧ 0 < y.length ∧ 0 < z.length) ∧ L1.length ≤ 10 ∧ L2.length ≤ 10 ∧ L3.length ≤ 10 := by
  obtain ⟨h1, h2, h3, h4, h5, h6, h7⟩ := aw_ok
  exact ⟨aw1.2.1, aw1.2.2, aw2.2.1, aw2.2.2, aw3.2.1, aw3.2.2, aw4.2.1, Prod.ext h1 rfl, Prod.ext h2 rfl, Prod.ext h3 rfl, Prod.ext h4 (Prod.ext rfl h5), h6, h7⟩

set_option maxRecDepth 100000 in
set_option maxHeartbeats 1600000 in
theorem lw_awake (w : World) : Calls Try.prog 19 #[] w fun e w' => e = .returned (.bool true) ∧ Fr [] w w' := by
  obtain ⟨L1, x, L2, y, L3, z, L4, e1, e2, e3, e4, ⟨hx, hy, hz⟩, el⟩ := awake_facts
  have E1 := Lib.hid e1
  have E2 := Lib.hid e2
  have E3 := Lib.hid e3
  have E4 := Lib.hid e4
  have EL := Lib.hid el
  clear e1 e2 e3 e4 el
  go_enter Try.func19, Try.ntmps19
  have HS0 := Lib.hid (St.start w)
  go_wp2_with fail
  refine (not_new w).mono ?_
  rintro e w1 ⟨rfl, hn, hf⟩
  have HN1 := Lib.hid hn
  have HS1 := Lib.hid (HS0.out.notary hn hf (by omega) (by omega))
  clear hn hf
  go_wp2_with fail
  have hq := sk_new w1 1 2 5
  rw [skNew_ok (by decide)] at hq
  have HQ := Lib.hid hq
  clear hq
  refine HQ.out.mono ?_
  clear HQ
  rintro e w2 ⟨rfl, hf⟩
  have HS2 := Lib.hid (HS1.out.grow hf)
  have HN2 := Lib.hid (HN1.out.fr hf (by simp))
  clear hf
  go_wp2_with fail
  obtain ⟨ga, hga⟩ : ∃ g, g = w2.heap.size := ⟨_, rfl⟩
  obtain ⟨w3, hw⟩ : ∃ w1, w2.alloc (.cells #[.int .i64 0, .int .i64 1, .int .i64 2, .int .u64 5, .int .u64 0] 46) = w1 := ⟨_, rfl⟩
  rw [hw, ← hga]
  have hs := HS2.out.lay 46 [.int .i64 0, .int .i64 1, .int .i64 2, .int .u64 5, .int .u64 0]
  rw [hw, ← hga] at hs
  have HS3 := Lib.hid hs
  have hn := HN2.out.fr (Fr.alloc w2 (.cells #[.int .i64 0, .int .i64 1, .int .i64 2, .int .u64 5, .int .u64 0] 46) []) (by simp)
  rw [hw] at hn
  have HN3 := Lib.hid hn
  clear hn
  clear hw hga hs 
  go_wp2_with fail
  have hq := sk_new w3 2 1 6
  rw [skNew_ok (by decide)] at hq
  have HQ := Lib.hid hq
  clear hq
  refine HQ.out.mono ?_
  clear HQ
  rintro e w4 ⟨rfl, hf⟩
  have HS4 := Lib.hid (HS3.out.grow hf)
  have HN4 := Lib.hid (HN3.out.fr hf (by simp))
  clear hf
  go_wp2_with fail
  obtain ⟨gb, hgb⟩ : ∃ g, g = w4.heap.size := ⟨_, rfl⟩
  obtain ⟨w5, hw⟩ : ∃ w1, w4.alloc (.cells #[.int .i64 0, .int .i64 2, .int .i64 1, .int .u64 6, .int .u64 0] 46) = w1 := ⟨_, rfl⟩
  rw [hw, ← hgb]
  have hs := HS4.out.lay 46 [.int .i64 0, .int .i64 2, .int .i64 1, .int .u64 6, .int .u64 0]
  rw [hw, ← hgb] at hs
  have HS5 := Lib.hid hs
  have hn := HN4.out.fr (Fr.alloc w4 (.cells #[.int .i64 0, .int .i64 2, .int .i64 1, .int .u64 6, .int .u64 0] 46) []) (by simp)
  rw [hw] at hn
  have HN5 := Lib.hid hn
  clear hn
  clear hw hgb hs 
  go_wp2_with fail
  have hq := sk_new w5 1 1 5
  rw [skNew_no (by decide)] at hq
  have HQ := Lib.hid hq
  clear hq
  refine HQ.out.mono ?_
  clear HQ
  rintro e w6 ⟨rfl, hf⟩
  have HS6 := Lib.hid (HS5.out.grow hf)
  have HN6 := Lib.hid (HN5.out.fr hf (by simp))
  clear hf
  have qga0 := fun o => ((HS6.out.cells 1 rfl).alloc o).cell 0
  have qga1 := fun o => ((HS6.out.cells 1 rfl).alloc o).cell 1
  have qga2 := fun o => ((HS6.out.cells 1 rfl).alloc o).cell 2
  have qga3 := fun o => ((HS6.out.cells 1 rfl).alloc o).cell 3
  have qga4 := fun o => ((HS6.out.cells 1 rfl).alloc o).cell 4
  simp only [List.getElem?_cons_zero, List.getElem?_cons_succ] at qga0 qga1 qga2 qga3 qga4
  go_wp2_with fail
  obtain ⟨gc, hgc⟩ : ∃ g, g = w6.heap.size := ⟨_, rfl⟩
  obtain ⟨w7, hw⟩ : ∃ w1, w6.alloc (.cells #[.int .i64 0, .int .i64 0, .int .i64 0, .int .u64 0, .int .u64 0] 46) = w1 := ⟨_, rfl⟩
  rw [hw, ← hgc]
  have hs := HS6.out.lay 46 [.int .i64 0, .int .i64 0, .int .i64 0, .int .u64 0, .int .u64 0]
  rw [hw, ← hgc] at hs
  have HS7 := Lib.hid hs
  have hn := HN6.out.fr (Fr.alloc w6 (.cells #[.int .i64 0, .int .i64 0, .int .i64 0, .int .u64 0, .int .u64 0] 46) []) (by simp)
  rw [hw] at hn
  have HN7 := Lib.hid hn
  clear hn
  clear hw hgc hs qga0 qga1 qga2 qga3 qga4
  skip
  have hq := sk_call w7 (w.heap.size + 1) w.heap.size (.slice none 0 0) [] ⟨0, 1, 2, 5, 0⟩ ⟨by decide, by decide, by decide, by decide⟩ HN7.out (by simp)
  rw [E1.out] at hq
  have HQ := Lib.hid hq
  clear hq
  refine HQ.out.mono ?_
  clear HQ
  rintro e w8 ⟨v8, rfl, hs⟩
  obtain ⟨lv8, hn, hs⟩ := HS7.out.sent hs
  obtain ⟨ao8, c8, hv⟩ := sl_shape (hs.slice 0 rfl)
  rw [u8s_length] at hv
  subst hv
  have HN8 := Lib.hid hn
  have HS8 := Lib.hid hs
  clear hn hs
  go_wp2_with (refine wpList_store_whole rfl 46 (.tmp 2) (.tmp 43) rfl ga [.int .i64 1, .int .i64 1, .int .i64 2, .int .u64 5, .int .u64 0] rfl rfl _ _ (HS8.out.cells 2 rfl) (by kernel_rfl) rfl (by simp [Value.oneCell']) ?_; intro w9 hc hf _; have hs := HS8.out.put 2 rfl hf hc; simp only [List.set_cons_zero, List.set_cons_succ] at hs; have HS9 := Lib.hid hs; have HN9 := Lib.hid (HN8.out.fr hf (by have := (HS8.out.own _ (List.mem_of_getElem? (i := 2) rfl)).2.2; intro g hg; simp only [List.mem_singleton] at hg; subst hg; exact this)); clear hc hf hs; have qgb0 := ((HS9.out.cells 1 rfl)).cell 0; have qgb1 := ((HS9.out.cells 1 rfl)).cell 1; have qgb2 := ((HS9.out.cells 1 rfl)).cell 2; have qgb3 := ((HS9.out.cells 1 rfl)).cell 3; have qgb4 := ((HS9.out.cells 1 rfl)).cell 4; simp only [List.getElem?_cons_zero, List.getElem?_cons_succ] at qgb0 qgb1 qgb2 qgb3 qgb4)
  clear qgb0 qgb1 qgb2 qgb3 qgb4
  have hq := sk_hear w9 (w.heap.size + 1) w.heap.size lv8 L1 ⟨0, 2, 1, 6, 0⟩ (.slice ao8 (x).length c8) x ⟨by decide, by decide, by decide, by decide⟩ HN9.out (HS9.out.slice 0 rfl).ex (by have := EL.out; omega)
  rw [E2.out] at hq
  have HQ := Lib.hid hq
  clear hq
  refine HQ.out.mono ?_
  clear HQ
  rintro e w10 ⟨v10, rfl, hs⟩
  obtain ⟨lv10, hn, hs⟩ := HS9.out.sent hs
  obtain ⟨ao10, c10, hv⟩ := sl_shape (hs.slice 0 rfl)
  rw [u8s_length] at hv
  subst hv
  have HN10 := Lib.hid hn
  have HS10 := Lib.hid hs
  clear hn hs
  go_wp2_with (refine wpList_store_whole rfl 46 (.tmp 4) (.tmp 50) rfl gb [.int .i64 2, .int .i64 2, .int .i64 1, .int .u64 6, .int .u64 5] rfl rfl _ _ (HS10.out.cells 1 rfl) (by kernel_rfl) rfl (by simp [Value.oneCell']) ?_; intro w11 hc hf _; have hs := HS10.out.put 1 rfl hf hc; simp only [List.set_cons_zero, List.set_cons_succ] at hs; have HS11 := Lib.hid hs; have HN11 := Lib.hid (HN10.out.fr hf (by have := (HS10.out.own _ (List.mem_of_getElem? (i := 1) rfl)).2.2; intro g hg; simp only [List.mem_singleton] at hg; subst hg; exact this)); clear hc hf hs; have qga0 := ((HS11.out.cells 2 rfl)).cell 0; have qga1 := ((HS11.out.cells 2 rfl)).cell 1; have qga2 := ((HS11.out.cells 2 rfl)).cell 2; have qga3 := ((HS11.out.cells 2 rfl)).cell 3; have qga4 := ((HS11.out.cells 2 rfl)).cell 4; simp only [List.getElem?_cons_zero, List.getElem?_cons_succ] at qga0 qga1 qga2 qga3 qga4)
  clear qga0 qga1 qga2 qga3 qga4
  have hq := sk_hear w11 (w.heap.size + 1) w.heap.size lv10 L2 ⟨1, 1, 2, 5, 0⟩ (.slice ao10 (y).length c10) y ⟨by decide, by decide, by decide, by decide⟩ HN11.out (HS11.out.slice 0 rfl).ex (by have := EL.out; omega)
  rw [E3.out] at hq
  have HQ := Lib.hid hq
  clear hq
  refine HQ.out.mono ?_
  clear HQ
  rintro e w12 ⟨v12, rfl, hs⟩
  obtain ⟨lv12, hn, hs⟩ := HS11.out.sent hs
  obtain ⟨ao12, c12, hv⟩ := sl_shape (hs.slice 0 rfl)
  rw [u8s_length] at hv
  subst hv
  have HN12 := Lib.hid hn
  have HS12 := Lib.hid hs
  clear hn hs
  go_wp2_with (refine wpList_store_whole rfl 46 (.tmp 2) (.tmp 57) rfl ga [.int .i64 3, .int .i64 1, .int .i64 2, .int .u64 5, .int .u64 6] rfl rfl _ _ (HS12.out.cells 2 rfl) (by kernel_rfl) rfl (by simp [Value.oneCell']) ?_; intro w13 hc hf _; have hs := HS12.out.put 2 rfl hf hc; simp only [List.set_cons_zero, List.set_cons_succ] at hs; have HS13 := Lib.hid hs; have HN13 := Lib.hid (HN12.out.fr hf (by have := (HS12.out.own _ (List.mem_of_getElem? (i := 2) rfl)).2.2; intro g hg; simp only [List.mem_singleton] at hg; subst hg; exact this)); clear hc hf hs; have qgb0 := ((HS13.out.cells 1 rfl)).cell 0; have qgb1 := ((HS13.out.cells 1 rfl)).cell 1; have qgb2 := ((HS13.out.cells 1 rfl)).cell 2; have qgb3 := ((HS13.out.cells 1 rfl)).cell 3; have qgb4 := ((HS13.out.cells 1 rfl)).cell 4; simp only [List.getElem?_cons_zero, List.getElem?_cons_succ] at qgb0 qgb1 qgb2 qgb3 qgb4)
  clear qgb0 qgb1 qgb2 qgb3 qgb4
  have hq := sk_hear w13 (w.heap.size + 1) w.heap.size lv12 L3 ⟨2, 2, 1, 6, 5⟩ (.slice ao12 (z).length c12) z ⟨by decide, by decide, by decide, by decide⟩ HN13.out (HS13.out.slice 0 rfl).ex (by have := EL.out; omega)
  rw [E4.out] at hq
  have HQ := Lib.hid hq
  clear hq
  refine HQ.out.mono ?_
  clear HQ
  rintro e w14 ⟨v14, rfl, hs⟩
  obtain ⟨lv14, hn, hs⟩ := HS13.out.sent hs
  obtain ⟨ao14, c14, hv⟩ := sl_shape (hs.slice 0 rfl)
  rw [u8s_length] at hv
  subst hv
  have HN14 := Lib.hid hn
  have HS14 := Lib.hid hs
  clear hn hs
  go_wp2_with (refine wpList_store_whole rfl 46 (.tmp 4) (.tmp 64) rfl gb [.int .i64 3, .int .i64 2, .int .i64 1, .int .u64 6, .int .u64 5] rfl rfl _ _ (HS14.out.cells 1 rfl) (by kernel_rfl) rfl (by simp [Value.oneCell']) ?_; intro w15 hc hf _; have hs := HS14.out.put 1 rfl hf hc; simp only [List.set_cons_zero, List.set_cons_succ] at hs; have HS15 := Lib.hid hs; have HN15 := Lib.hid (HN14.out.fr hf (by have := (HS14.out.own _ (List.mem_of_getElem? (i := 1) rfl)).2.2; intro g hg; simp only [List.mem_singleton] at hg; subst hg; exact this)); clear hc hf hs; have qga0 := ((HS15.out.cells 2 rfl)).cell 0; have qga1 := ((HS15.out.cells 2 rfl)).cell 1; have qga2 := ((HS15.out.cells 2 rfl)).cell 2; have qga3 := ((HS15.out.cells 2 rfl)).cell 3; have qga4 := ((HS15.out.cells 2 rfl)).cell 4; have qgb0 := ((HS15.out.cells 1 rfl)).cell 0; have qgb1 := ((HS15.out.cells 1 rfl)).cell 1; have qgb2 := ((HS15.out.cells 1 rfl)).cell 2; have qgb3 := ((HS15.out.cells 1 rfl)).cell 3; have qgb4 := ((HS15.out.cells 1 rfl)).cell 4; simp only [List.getElem?_cons_zero, List.getElem?_cons_succ] at qga0 qga1 qga2 qga3 qga4 qgb0 qgb1 qgb2 qgb3 qgb4)
  go_ret
  exact ⟨rfl, HS15.out.fr⟩
end Go.Proofs.Ytjfmgpelkhgodaa
