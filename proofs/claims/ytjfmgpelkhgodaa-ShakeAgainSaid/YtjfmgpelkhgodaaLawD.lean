/- The walk of ShakeAgain. -/
import Derived.Test.YtjfmgpelkhgodaaLawC
import Derived.Test.YtjfmgpelkhgodaaRegRun
namespace Go.Proofs.Ytjfmgpelkhgodaa
open Go.RowKit
attribute [local go_sem ↓ high] run_min_whole run_max_whole

/-- Rows of bytes are left alone. -/
def BytesKept (w w' : World) : Prop := w.heap.size ≤ w'.heap.size ∧ ∀ (g : Nat) (cur : Array Value), w.heap[g]? = some (Obj.cells cur 5 (0, 0)) → w'.heap[g]? = w.heap[g]?
theorem BytesKept.refl (w : World) : BytesKept w w := ⟨Nat.le_refl _, fun _ _ _ => rfl⟩
/-- An own row of bytes. -/
def ByteRow (w : World) (v : Value) (l : List UInt8) : Prop := w.ownsRow 0 5 1 v l.length (u8s l)
theorem ByteRow.kept {w w' : World} {v : Value} {l : List UInt8} (h : ByteRow w v l) (k : BytesKept w w') : ByteRow w' v l := by
  refine ⟨h.1, ?_⟩
  rcases h.2 with h2 | ⟨g, cap, cur, rfl, hb, hh, r⟩
  · exact .inl h2
  · exact .inr ⟨g, cap, cur, rfl, hb, (k.2 g cur hh).trans hh, r⟩
theorem ByteRow.sl {w : World} {v : Value} {l : List UInt8} (h : ByteRow w v l) : SlAt w v (u8s l) := sl_of_own h
theorem ByteRow.of_own {w : World} {base : Nat} {v : Value} {l : List UInt8} (h : w.ownsRow base 5 1 v l.length (u8s l)) : ByteRow w v l := own_base h (Nat.zero_le _)
theorem SentAt.kept {w w' : World} {nb mb : Nat} {lv : Value} {L L' : List En} {bs : List UInt8} {v : Value} (h : SentAt w w' nb mb lv L' bs v) (hN : NotIn w nb mb lv L) : BytesKept w w' := by
  refine ⟨h.2.2.1.size, fun g cur hg => h.2.2.1.block g (Array.getElem?_eq_some_iff.1 hg).1 fun hm => ?_⟩
  simp only [NBlocks, List.mem_cons, Option.mem_toList] at hm
  rcases hm with rfl | rfl | hm
  · have := hN.cells
    unfold Cells at this
    rw [this] at hg
    cases hg
  · rw [hN.map] at hg
    cases hg
  · obtain ⟨cur', hc⟩ := own_type hN.list hm
    rw [hc] at hg
    cases hg
/-- A call of a Go function as an operation. -/
theorem call_step {P : Program} {o : Oper} {a : Act} {w : World} {K : Act → World → Prop} {Q : Exit → Act → World → Prop} (f : FuncId) (args : Array Operand) (ts : Array TypeId)
    (ho : o.op = .call { callee := .value (.func f), args := args, argTypes := ts }) (he : ∀ args w, (callFunc f args).run P w = .ok (.enter f args) w) (vs : Array Value) (hv : args.toList.map a.eval = vs.toList)
    {R : Ending → World → Prop} (hc : Calls P f vs w R) (h : ∀ e w', R e w' → ∃ u, e = .returned u ∧ K (a.put o.dst u) w') : o.wp P a w K Q := by
  obtain ⟨dst, op, type, pos, after, guard⟩ := o
  simp only at ho h
  subst ho
  have hv : args.map a.eval = vs := by
    apply Array.toList_inj.1
    simpa using hv
  subst hv
  unfold Oper.wp
  simp [go_sem, he]
  refine hc.mono ?_
  intro e w' hR
  obtain ⟨u, rfl, hK⟩ := h e w' hR
  exact hK

set_option maxRecDepth 100000 in
set_option maxHeartbeats 2000000 in
theorem ag_ff (w : World) (A B : Int) (nA nB k : Nat) (h1 : skMay A B nA = false) (h2 : skMay B A nB = false) :
    Calls Try.prog 9 #[.agg #[.int .i64 A, .int .i64 B, .int .u64 nA, .int .u64 nB], .int .u8 k] w fun e w' => e = .returned (.bool true) ∧ Fr [] w w' := by
  have H1 := Lib.hid h1
  have H2 := Lib.hid h2
  clear h1 h2
  go_enter Try.func9, Try.ntmps9
  have HS0 := Lib.hid (St.start w)
  go_wp2_with fail
  obtain ⟨gt, hgt⟩ : ∃ g, g = w.heap.size := ⟨_, rfl⟩
  obtain ⟨w1, hw⟩ : ∃ w1, w.alloc (.cells #[.int .i64 A, .int .i64 B, .int .u64 nA, .int .u64 nB] 42) = w1 := ⟨_, rfl⟩
  rw [hw, ← hgt]
  have hs := HS0.out.lay 42 [.int .i64 A, .int .i64 B, .int .u64 nA, .int .u64 nB]
  rw [hw, ← hgt] at hs
  have HS1 := Lib.hid hs
  clear hw hgt hs 
  go_wp2_with fail
  have hq := lw_awake w1
  have HQ := Lib.hid hq
  clear hq
  refine HQ.out.mono ?_
  clear HQ
  rintro e w2 ⟨rfl, hf⟩
  have HS2 := Lib.hid (HS1.out.grow hf)
  clear hf
  have qgt0 := ((HS2.out.cells 0 rfl)).cell 0
  have qgt1 := ((HS2.out.cells 0 rfl)).cell 1
  have qgt2 := ((HS2.out.cells 0 rfl)).cell 2
  have qgt3 := ((HS2.out.cells 0 rfl)).cell 3
  simp only [List.getElem?_cons_zero, List.getElem?_cons_succ] at qgt0 qgt1 qgt2 qgt3
  go_wp2_with fail
  have hq := sk_new w2 A B nA
  rw [skNew_no H1.out] at hq
  have HQ := Lib.hid hq
  clear hq
  refine HQ.out.mono ?_
  clear HQ
  rintro e w3 ⟨rfl, hf⟩
  have HS3 := Lib.hid (HS2.out.grow hf)
  clear hf
  clear qgt0 qgt1 qgt2 qgt3
  have qgt0 := fun o => ((HS3.out.cells 0 rfl).alloc o).cell 0
  have qgt1 := fun o => ((HS3.out.cells 0 rfl).alloc o).cell 1
  have qgt2 := fun o => ((HS3.out.cells 0 rfl).alloc o).cell 2
  have qgt3 := fun o => ((HS3.out.cells 0 rfl).alloc o).cell 3
  simp only [List.getElem?_cons_zero, List.getElem?_cons_succ] at qgt0 qgt1 qgt2 qgt3
  go_wp2_with fail
  obtain ⟨ga, hga⟩ : ∃ g, g = w3.heap.size := ⟨_, rfl⟩
  obtain ⟨w4, hw⟩ : ∃ w1, w3.alloc (.cells #[.int .i64 0, .int .i64 0, .int .i64 0, .int .u64 0, .int .u64 0] 46) = w1 := ⟨_, rfl⟩
  rw [hw, ← hga]
  have hs := HS3.out.lay 46 [.int .i64 0, .int .i64 0, .int .i64 0, .int .u64 0, .int .u64 0]
  rw [hw, ← hga] at hs
  have HS4 := Lib.hid hs
  clear hw hga hs qgt0 qgt1 qgt2 qgt3
  go_wp2_with fail
  have hq := sk_new w4 B A nB
  rw [skNew_no H2.out] at hq
  have HQ := Lib.hid hq
  clear hq
  refine HQ.out.mono ?_
  clear HQ
  rintro e w5 ⟨rfl, hf⟩
  have HS5 := Lib.hid (HS4.out.grow hf)
  clear hf
  go_wp2_with fail
  go_ret
  exact ⟨rfl, HS5.out.fr.trans (Fr.alloc _ _ _)⟩

set_option maxRecDepth 100000 in
set_option maxHeartbeats 2000000 in
theorem ag_ft (w : World) (A B : Int) (nA nB k : Nat) (h1 : skMay A B nA = false) (h2 : skMay B A nB = true) :
    Calls Try.prog 9 #[.agg #[.int .i64 A, .int .i64 B, .int .u64 nA, .int .u64 nB], .int .u8 k] w fun e w' => e = .returned (.bool true) ∧ Fr [] w w' := by
  have H1 := Lib.hid h1
  have H2 := Lib.hid h2
  clear h1 h2
  go_enter Try.func9, Try.ntmps9
  have HS0 := Lib.hid (St.start w)
  go_wp2_with fail
  obtain ⟨gt, hgt⟩ : ∃ g, g = w.heap.size := ⟨_, rfl⟩
  obtain ⟨w1, hw⟩ : ∃ w1, w.alloc (.cells #[.int .i64 A, .int .i64 B, .int .u64 nA, .int .u64 nB] 42) = w1 := ⟨_, rfl⟩
  rw [hw, ← hgt]
  have hs := HS0.out.lay 42 [.int .i64 A, .int .i64 B, .int .u64 nA, .int .u64 nB]
  rw [hw, ← hgt] at hs
  have HS1 := Lib.hid hs
  clear hw hgt hs 
  go_wp2_with fail
  have hq := lw_awake w1
  have HQ := Lib.hid hq
  clear hq
  refine HQ.out.mono ?_
  clear HQ
  rintro e w2 ⟨rfl, hf⟩
  have HS2 := Lib.hid (HS1.out.grow hf)
  clear hf
  have qgt0 := ((HS2.out.cells 0 rfl)).cell 0
  have qgt1 := ((HS2.out.cells 0 rfl)).cell 1
  have qgt2 := ((HS2.out.cells 0 rfl)).cell 2
  have qgt3 := ((HS2.out.cells 0 rfl)).cell 3
  simp only [List.getElem?_cons_zero, List.getElem?_cons_succ] at qgt0 qgt1 qgt2 qgt3
  go_wp2_with fail
  have hq := sk_new w2 A B nA
  rw [skNew_no H1.out] at hq
  have HQ := Lib.hid hq
  clear hq
  refine HQ.out.mono ?_
  clear HQ
  rintro e w3 ⟨rfl, hf⟩
  have HS3 := Lib.hid (HS2.out.grow hf)
  clear hf
  clear qgt0 qgt1 qgt2 qgt3
  have qgt0 := fun o => ((HS3.out.cells 0 rfl).alloc o).cell 0
  have qgt1 := fun o => ((HS3.out.cells 0 rfl).alloc o).cell 1
  have qgt2 := fun o => ((HS3.out.cells 0 rfl).alloc o).cell 2
  have qgt3 := fun o => ((HS3.out.cells 0 rfl).alloc o).cell 3
  simp only [List.getElem?_cons_zero, List.getElem?_cons_succ] at qgt0 qgt1 qgt2 qgt3
  go_wp2_with fail
  obtain ⟨ga, hga⟩ : ∃ g, g = w3.heap.size := ⟨_, rfl⟩
  obtain ⟨w4, hw⟩ : ∃ w1, w3.alloc (.cells #[.int .i64 0, .int .i64 0, .int .i64 0, .int .u64 0, .int .u64 0] 46) = w1 := ⟨_, rfl⟩
  rw [hw, ← hga]
  have hs := HS3.out.lay 46 [.int .i64 0, .int .i64 0, .int .i64 0, .int .u64 0, .int .u64 0]
  rw [hw, ← hga] at hs
  have HS4 := Lib.hid hs
  clear hw hga hs qgt0 qgt1 qgt2 qgt3
  go_wp2_with fail
  have hq := sk_new w4 B A nB
  rw [skNew_ok H2.out] at hq
  have HQ := Lib.hid hq
  clear hq
  refine HQ.out.mono ?_
  clear HQ
  rintro e w5 ⟨rfl, hf⟩
  have HS5 := Lib.hid (HS4.out.grow hf)
  clear hf
  go_wp2_with fail
  go_ret
  exact ⟨rfl, HS5.out.fr.trans (Fr.alloc _ _ _)⟩

set_option maxRecDepth 100000 in
set_option maxHeartbeats 2000000 in
theorem ag_tf (w : World) (A B : Int) (nA nB k : Nat) (h1 : skMay A B nA = true) (h2 : skMay B A nB = false) :
    Calls Try.prog 9 #[.agg #[.int .i64 A, .int .i64 B, .int .u64 nA, .int .u64 nB], .int .u8 k] w fun e w' => e = .returned (.bool true) ∧ Fr [] w w' := by
  have H1 := Lib.hid h1
  have H2 := Lib.hid h2
  clear h1 h2
  go_enter Try.func9, Try.ntmps9
  have HS0 := Lib.hid (St.start w)
  go_wp2_with fail
  obtain ⟨gt, hgt⟩ : ∃ g, g = w.heap.size := ⟨_, rfl⟩
  obtain ⟨w1, hw⟩ : ∃ w1, w.alloc (.cells #[.int .i64 A, .int .i64 B, .int .u64 nA, .int .u64 nB] 42) = w1 := ⟨_, rfl⟩
  rw [hw, ← hgt]
  have hs := HS0.out.lay 42 [.int .i64 A, .int .i64 B, .int .u64 nA, .int .u64 nB]
  rw [hw, ← hgt] at hs
  have HS1 := Lib.hid hs
  clear hw hgt hs 
  go_wp2_with fail
  have hq := lw_awake w1
  have HQ := Lib.hid hq
  clear hq
  refine HQ.out.mono ?_
  clear HQ
  rintro e w2 ⟨rfl, hf⟩
  have HS2 := Lib.hid (HS1.out.grow hf)
  clear hf
  have qgt0 := ((HS2.out.cells 0 rfl)).cell 0
  have qgt1 := ((HS2.out.cells 0 rfl)).cell 1
  have qgt2 := ((HS2.out.cells 0 rfl)).cell 2
  have qgt3 := ((HS2.out.cells 0 rfl)).cell 3
  simp only [List.getElem?_cons_zero, List.getElem?_cons_succ] at qgt0 qgt1 qgt2 qgt3
  go_wp2_with fail
  have hq := sk_new w2 A B nA
  rw [skNew_ok H1.out] at hq
  have HQ := Lib.hid hq
  clear hq
  refine HQ.out.mono ?_
  clear HQ
  rintro e w3 ⟨rfl, hf⟩
  have HS3 := Lib.hid (HS2.out.grow hf)
  clear hf
  clear qgt0 qgt1 qgt2 qgt3
  have qgt0 := fun o => ((HS3.out.cells 0 rfl).alloc o).cell 0
  have qgt1 := fun o => ((HS3.out.cells 0 rfl).alloc o).cell 1
  have qgt2 := fun o => ((HS3.out.cells 0 rfl).alloc o).cell 2
  have qgt3 := fun o => ((HS3.out.cells 0 rfl).alloc o).cell 3
  simp only [List.getElem?_cons_zero, List.getElem?_cons_succ] at qgt0 qgt1 qgt2 qgt3
  go_wp2_with fail
  obtain ⟨ga, hga⟩ : ∃ g, g = w3.heap.size := ⟨_, rfl⟩
  obtain ⟨w4, hw⟩ : ∃ w1, w3.alloc (.cells #[.int .i64 0, .int .i64 A, .int .i64 B, .int .u64 nA, .int .u64 0] 46) = w1 := ⟨_, rfl⟩
  rw [hw, ← hga]
  have hs := HS3.out.lay 46 [.int .i64 0, .int .i64 A, .int .i64 B, .int .u64 nA, .int .u64 0]
  rw [hw, ← hga] at hs
  have HS4 := Lib.hid hs
  clear hw hga hs qgt0 qgt1 qgt2 qgt3
  go_wp2_with fail
  have hq := sk_new w4 B A nB
  rw [skNew_no H2.out] at hq
  have HQ := Lib.hid hq
  clear hq
  refine HQ.out.mono ?_
  clear HQ
  rintro e w5 ⟨rfl, hf⟩
  have HS5 := Lib.hid (HS4.out.grow hf)
  clear hf
  go_wp2_with fail
  go_ret
  exact ⟨rfl, HS5.out.fr.trans (Fr.alloc _ _ _)⟩

set_option maxRecDepth 100000 in
set_option maxHeartbeats 4000000 in
theorem ag_tt (w : World) (a b nA nB k : Nat) (PA : Hid (peer a)) (PB : Hid (peer b)) (NA : Hid (nonce nA)) (NB : Hid (nonce nB)) (H1 : Hid (skMay a b nA = true)) (H2 : Hid (skMay b a nB = true)) (L1 L2 : List En) (x y : List UInt8) (hk : k < 256)
    (E1 : Hid (called [] ⟨0, a, b, nA, 0⟩ = (⟨1, a, b, nA, 0⟩, (L1, x)))) (E2 : Hid (heard L1 ⟨0, b, a, nB, 0⟩ x = (⟨2, b, a, nB, nA⟩, (L2, y)))) (E3 : Hid (heard L2 ⟨2, b, a, nB, nA⟩ x = (⟨2, b, a, nB, nA⟩, (L2, y)))) (E4 : Hid (again L2 ⟨2, b, a, nB, nA⟩ = (L2, y))) (E5 : Hid (again L2 ⟨1, a, b, nA, 0⟩ = (L2, x)))
    (hy : 0 < y.length) (EL : Hid (L1.length ≤ 10 ∧ L2.length ≤ 10)) (EN : Hid (L2.length = 2)) :
    Calls Try.prog 9 #[.agg #[.int .i64 a, .int .i64 b, .int .u64 nA, .int .u64 nB], .int .u8 k] w fun e w' => e = .returned (.bool true) ∧ Fr [] w w' := by
  go_enter Try.func9, Try.ntmps9
  have HS0 := Lib.hid (St.start w)
  go_wp2_with fail
  obtain ⟨gt, hgt⟩ : ∃ g, g = w.heap.size := ⟨_, rfl⟩
  obtain ⟨w1, hw⟩ : ∃ w1, w.alloc (.cells #[.int .i64 a, .int .i64 b, .int .u64 nA, .int .u64 nB] 42) = w1 := ⟨_, rfl⟩
  rw [hw, ← hgt]
  have hs := HS0.out.lay 42 [.int .i64 a, .int .i64 b, .int .u64 nA, .int .u64 nB]
  rw [hw, ← hgt] at hs
  have HS1 := Lib.hid hs
  clear hw hgt hs 
  go_wp2_with fail
  have hq := lw_awake w1
  have HQ := Lib.hid hq
  clear hq
  refine HQ.out.mono ?_
  clear HQ
  rintro e w2 ⟨rfl, hf⟩
  have HS2 := Lib.hid (HS1.out.grow hf)
  clear hf
  have qgt0 := ((HS2.out.cells 0 rfl)).cell 0
  have qgt1 := ((HS2.out.cells 0 rfl)).cell 1
  have qgt2 := ((HS2.out.cells 0 rfl)).cell 2
  have qgt3 := ((HS2.out.cells 0 rfl)).cell 3
  simp only [List.getElem?_cons_zero, List.getElem?_cons_succ] at qgt0 qgt1 qgt2 qgt3
  go_wp2_with fail
  have hq := sk_new w2 a b nA
  rw [skNew_ok H1.out] at hq
  have HQ := Lib.hid hq
  clear hq
  refine HQ.out.mono ?_
  clear HQ
  rintro e w3 ⟨rfl, hf⟩
  have HS3 := Lib.hid (HS2.out.grow hf)
  clear hf
  clear qgt0 qgt1 qgt2 qgt3
  have qgt0 := fun o => ((HS3.out.cells 0 rfl).alloc o).cell 0
  have qgt1 := fun o => ((HS3.out.cells 0 rfl).alloc o).cell 1
  have qgt2 := fun o => ((HS3.out.cells 0 rfl).alloc o).cell 2
  have qgt3 := fun o => ((HS3.out.cells 0 rfl).alloc o).cell 3
  simp only [List.getElem?_cons_zero, List.getElem?_cons_succ] at qgt0 qgt1 qgt2 qgt3
  go_wp2_with fail
  obtain ⟨ga, hga⟩ : ∃ g, g = w3.heap.size := ⟨_, rfl⟩
  obtain ⟨w4, hw⟩ : ∃ w1, w3.alloc (.cells #[.int .i64 0, .int .i64 a, .int .i64 b, .int .u64 nA, .int .u64 0] 46) = w1 := ⟨_, rfl⟩
  rw [hw, ← hga]
  have hs := HS3.out.lay 46 [.int .i64 0, .int .i64 a, .int .i64 b, .int .u64 nA, .int .u64 0]
  rw [hw, ← hga] at hs
  have HS4 := Lib.hid hs
  clear hw hga hs qgt0 qgt1 qgt2 qgt3
  go_wp2_with fail
  have hq := sk_new w4 b a nB
  rw [skNew_ok H2.out] at hq
  have HQ := Lib.hid hq
  clear hq
  refine HQ.out.mono ?_
  clear HQ
  rintro e w5 ⟨rfl, hf⟩
  have HS5 := Lib.hid (HS4.out.grow hf)
  clear hf
  go_wp2_with fail
  obtain ⟨gb, hgb⟩ : ∃ g, g = w5.heap.size := ⟨_, rfl⟩
  obtain ⟨w6, hw⟩ : ∃ w1, w5.alloc (.cells #[.int .i64 0, .int .i64 b, .int .i64 a, .int .u64 nB, .int .u64 0] 46) = w1 := ⟨_, rfl⟩
  rw [hw, ← hgb]
  have hs := HS5.out.lay 46 [.int .i64 0, .int .i64 b, .int .i64 a, .int .u64 nB, .int .u64 0]
  rw [hw, ← hgb] at hs
  have HS6 := Lib.hid hs
  clear hw hgb hs 
  go_wp2_with fail
  refine (not_new w6).mono ?_
  rintro e w7 ⟨rfl, hn, hf⟩
  have HN7 := Lib.hid hn
  have HS7 := Lib.hid (HS6.out.notary hn hf (by omega) (by omega))
  clear hn hf
  have hqa := HS7
  clear hqa
  have qga0 := ((HS7.out.cells 1 rfl)).cell 0
  have qga1 := ((HS7.out.cells 1 rfl)).cell 1
  have qga2 := ((HS7.out.cells 1 rfl)).cell 2
  have qga3 := ((HS7.out.cells 1 rfl)).cell 3
  have qga4 := ((HS7.out.cells 1 rfl)).cell 4
  simp only [List.getElem?_cons_zero, List.getElem?_cons_succ] at qga0 qga1 qga2 qga3 qga4
  go_wp2_with fail
  clear qga0 qga1 qga2 qga3 qga4
  have hq := sk_call w7 (w6.heap.size + 1) w6.heap.size (.slice none 0 0) [] ⟨0, a, b, nA, 0⟩ ⟨by have := PA.out; have := PB.out; have := NA.out; have := NB.out; unfold peer nonce at *; dsimp only; omega, by have := PA.out; have := PB.out; have := NA.out; have := NB.out; unfold peer nonce at *; dsimp only; omega, by have := PA.out; have := PB.out; have := NA.out; have := NB.out; unfold peer nonce at *; dsimp only; omega, by have := PA.out; have := PB.out; have := NA.out; have := NB.out; unfold peer nonce at *; dsimp only; omega⟩ HN7.out (by simp)
  rw [E1.out] at hq
  have HQ := Lib.hid hq
  clear hq
  refine HQ.out.mono ?_
  clear HQ
  rintro e w8 ⟨v8, rfl, hs⟩
  obtain ⟨lv8, hn, hs⟩ := HS7.out.sent hs
  obtain ⟨ao8, c8, hv⟩ := sl_shape (hs.slice 0 rfl)
  rw [u8s_length] at hv
  subst hv
  have HN8 := Lib.hid hn
  have HS8 := Lib.hid hs
  clear hn hs
  unfold skV
  dsimp only
  go_wp2_with (refine wpList_store_whole rfl 46 (.tmp 5) (.tmp 48) rfl ga [.int .i64 1, .int .i64 a, .int .i64 b, .int .u64 nA, .int .u64 0] rfl rfl _ _ (HS8.out.cells 1 rfl) (by kernel_rfl) rfl (by simp [Value.oneCell']) ?_; intro w9 hc hf _; have hs := HS8.out.put 1 rfl hf hc; simp only [List.set_cons_zero, List.set_cons_succ] at hs; have HS9 := Lib.hid hs; have HN9 := Lib.hid (HN8.out.fr hf (by have := (HS8.out.own _ (List.mem_of_getElem? (i := 1) rfl)).2.2; intro g hg; simp only [List.mem_singleton] at hg; subst hg; exact this)); clear hc hf hs; have qgb0 := ((HS9.out.cells 0 rfl)).cell 0; have qgb1 := ((HS9.out.cells 0 rfl)).cell 1; have qgb2 := ((HS9.out.cells 0 rfl)).cell 2; have qgb3 := ((HS9.out.cells 0 rfl)).cell 3; have qgb4 := ((HS9.out.cells 0 rfl)).cell 4; simp only [List.getElem?_cons_zero, List.getElem?_cons_succ] at qgb0 qgb1 qgb2 qgb3 qgb4)
  clear qgb0 qgb1 qgb2 qgb3 qgb4
  have hq := sk_hear w9 (w6.heap.size + 1) w6.heap.size lv8 L1 ⟨0, b, a, nB, 0⟩ (.slice ao8 (x).length c8) x ⟨by have := PA.out; have := PB.out; have := NA.out; have := NB.out; unfold peer nonce at *; dsimp only; omega, by have := PA.out; have := PB.out; have := NA.out; have := NB.out; unfold peer nonce at *; dsimp only; omega, by have := PA.out; have := PB.out; have := NA.out; have := NB.out; unfold peer nonce at *; dsimp only; omega, by have := PA.out; have := PB.out; have := NA.out; have := NB.out; unfold peer nonce at *; dsimp only; omega⟩ HN9.out (HS9.out.slice 0 rfl).ex (by have := EL.out; omega)
  rw [E2.out] at hq
  have HQ := Lib.hid hq
  clear hq
  refine HQ.out.mono ?_
  clear HQ
  rintro e w10 ⟨v10, rfl, hs⟩
  obtain ⟨lv10, hn, hs⟩ := HS9.out.sent hs
  obtain ⟨ao10, c10, hv⟩ := sl_shape (hs.slice 0 rfl)
  rw [u8s_length] at hv
  subst hv
  have HN10 := Lib.hid hn
  have HS10 := Lib.hid hs
  clear hn hs
  unfold skV
  dsimp only
  go_wp2_with (refine wpList_store_whole rfl 46 (.tmp 7) (.tmp 55) rfl gb [.int .i64 2, .int .i64 b, .int .i64 a, .int .u64 nB, .int .u64 nA] rfl rfl _ _ (HS10.out.cells 0 rfl) (by kernel_rfl) rfl (by simp [Value.oneCell']) ?_; intro w11 hc hf _; have hs := HS10.out.put 0 rfl hf hc; simp only [List.set_cons_zero] at hs; have HS11 := Lib.hid hs; have HN11 := Lib.hid (HN10.out.fr hf (by have := (HS10.out.own _ (List.mem_of_getElem? (i := 0) rfl)).2.2; intro g hg; simp only [List.mem_singleton] at hg; subst hg; exact this)); clear hc hf hs; have qgb0 := ((HS11.out.cells 0 rfl)).cell 0; have qgb1 := ((HS11.out.cells 0 rfl)).cell 1; have qgb2 := ((HS11.out.cells 0 rfl)).cell 2; have qgb3 := ((HS11.out.cells 0 rfl)).cell 3; have qgb4 := ((HS11.out.cells 0 rfl)).cell 4; simp only [List.getElem?_cons_zero, List.getElem?_cons_succ] at qgb0 qgb1 qgb2 qgb3 qgb4)
  clear qgb0 qgb1 qgb2 qgb3 qgb4
  obtain ⟨nb, hnb⟩ : ∃ nb, nb = (w6.heap.size + 1) := ⟨_, rfl⟩
  obtain ⟨mb, hmb⟩ : ∃ mb, mb = w6.heap.size := ⟨_, rfl⟩
  rw [← hnb, ← hmb] at HS11 HN11
  rw [← hnb]
  clear hnb hmb
  go_loopw [12] (fun v wr => ∃ (i : Nat) (lv : Value), i ≤ k % 20 ∧ v = .int .i64 i ∧ NotIn wr nb mb lv L2 ∧ St w wr (NBlocks nb mb lv) [(gb, 46, [.int .i64 2, .int .i64 b, .int .i64 a, .int .u64 nB, .int .u64 nA]), (ga, 46, [.int .i64 1, .int .i64 a, .int .i64 b, .int .u64 nA, .int .u64 0]), (gt, 42, [.int .i64 a, .int .i64 b, .int .u64 nA, .int .u64 nB])] [((.slice ao10 (y).length c10), u8s y), ((.slice ao8 (x).length c8), u8s x)]) (fun v _ => k % 20 - (intOf v).toNat)
  case atStart => exact ⟨0, lv10, Nat.zero_le _, rfl, HN11.out, HS11.out⟩
  case round =>
    obtain ⟨i, lv, hi, rfl, hn, hs⟩ := hrel
    have HNr := Lib.hid hn
    have HSr := Lib.hid hs
    clear hn hs
    have hi20 : (i : Int) ≤ 20 := by omega
    by_cases hlt : i < k % 20
    · have hlt' : (i : Int) < (k : Int) % 20 := by omega
      have qgb0 := ((HSr.out.cells 0 rfl)).cell 0
      have qgb1 := ((HSr.out.cells 0 rfl)).cell 1
      have qgb2 := ((HSr.out.cells 0 rfl)).cell 2
      have qgb3 := ((HSr.out.cells 0 rfl)).cell 3
      have qgb4 := ((HSr.out.cells 0 rfl)).cell 4
      simp only [List.getElem?_cons_zero, List.getElem?_cons_succ] at qgb0 qgb1 qgb2 qgb3 qgb4
      go_wp2_with fail
      clear qgb0 qgb1 qgb2 qgb3 qgb4
      have hq := sk_hear wr nb mb lv L2 ⟨2, b, a, nB, nA⟩ (.slice ao8 (x).length c8) x ⟨by have := PA.out; have := PB.out; have := NA.out; have := NB.out; unfold peer nonce at *; dsimp only; omega, by have := PA.out; have := PB.out; have := NA.out; have := NB.out; unfold peer nonce at *; dsimp only; omega, by have := PA.out; have := PB.out; have := NA.out; have := NB.out; unfold peer nonce at *; dsimp only; omega, by have := PA.out; have := PB.out; have := NA.out; have := NB.out; unfold peer nonce at *; dsimp only; omega⟩ HNr.out (HSr.out.slice 1 rfl).ex (by have := EL.out; omega)
      rw [E3.out] at hq
      have HQ := Lib.hid hq
      clear hq
      refine HQ.out.mono ?_
      clear HQ
      rintro e w12 ⟨v12, rfl, hs⟩
      obtain ⟨lv12, hn, hs⟩ := HSr.out.sent hs
      obtain ⟨ao12, c12, hv⟩ := sl_shape (hs.slice 0 rfl)
      rw [u8s_length] at hv
      subst hv
      have HN12 := Lib.hid hn
      have HS12 := Lib.hid hs
      clear hn hs
      unfold skV
      dsimp only
      go_wp2_with fail
      obtain ⟨gc, hgc⟩ : ∃ g, g = w12.heap.size := ⟨_, rfl⟩
      obtain ⟨w13, hw⟩ : ∃ w1, w12.alloc (.cells #[.int .i64 2, .int .i64 b, .int .i64 a, .int .u64 nB, .int .u64 nA] 46) = w1 := ⟨_, rfl⟩
      rw [hw, ← hgc]
      have hs := HS12.out.lay 46 [.int .i64 2, .int .i64 b, .int .i64 a, .int .u64 nB, .int .u64 nA]
      rw [hw, ← hgc] at hs
      have HS13 := Lib.hid hs
      have hn := HN12.out.fr (Fr.alloc w12 (.cells #[.int .i64 2, .int .i64 b, .int .i64 a, .int .u64 nB, .int .u64 nA] 46) []) (by simp)
      rw [hw] at hn
      have HN13 := Lib.hid hn
      clear hn
      clear hw hgc hs 
      have qga0 := ((HS13.out.cells 2 rfl)).cell 0
      have qga1 := ((HS13.out.cells 2 rfl)).cell 1
      have qga2 := ((HS13.out.cells 2 rfl)).cell 2
      have qga3 := ((HS13.out.cells 2 rfl)).cell 3
      have qga4 := ((HS13.out.cells 2 rfl)).cell 4
      have qgb0 := ((HS13.out.cells 1 rfl)).cell 0
      have qgb1 := ((HS13.out.cells 1 rfl)).cell 1
      have qgb2 := ((HS13.out.cells 1 rfl)).cell 2
      have qgb3 := ((HS13.out.cells 1 rfl)).cell 3
      have qgb4 := ((HS13.out.cells 1 rfl)).cell 4
      have qgc0 := ((HS13.out.cells 0 rfl)).cell 0
      have qgc1 := ((HS13.out.cells 0 rfl)).cell 1
      have qgc2 := ((HS13.out.cells 0 rfl)).cell 2
      have qgc3 := ((HS13.out.cells 0 rfl)).cell 3
      have qgc4 := ((HS13.out.cells 0 rfl)).cell 4
      simp only [List.getElem?_cons_zero, List.getElem?_cons_succ] at qga0 qga1 qga2 qga3 qga4 qgb0 qgb1 qgb2 qgb3 qgb4 qgc0 qgc1 qgc2 qgc3 qgc4
      have heq : ∀ W, (Op.equalIn 10000 46 (.agg #[.int .i64 2, .int .i64 b, .int .i64 a, .int .u64 nB, .int .u64 nA]) (.agg #[.int .i64 2, .int .i64 b, .int .i64 a, .int .u64 nB, .int .u64 nA])).run Try.prog W = .ok true W := fun W => by
        have := run_eq_sk' 9998 ⟨2, b, a, nB, nA⟩ ⟨2, b, a, nB, nA⟩ W
        simpa using this
      have hgd : Try.prog.eqGuardType Try.prog.depth 46 = false := by kernel_rfl
      have EG : Hid (∀ args w, (callFunc 29 args).run Try.prog w = .ok (.enter 29 args) w) := enters_of Try.func29 (by kernel_rfl) rfl
      refine wp_region_ops (fun w' => ∃ lv, NotIn w' nb mb lv L2 ∧ St w w' (NBlocks nb mb lv) [(gc, 46, [.int .i64 2, .int .i64 b, .int .i64 a, .int .u64 nB, .int .u64 nA]), (gb, 46, [.int .i64 2, .int .i64 b, .int .i64 a, .int .u64 nB, .int .u64 nA]), (ga, 46, [.int .i64 1, .int .i64 a, .int .i64 b, .int .u64 nA, .int .u64 0]), (gt, 42, [.int .i64 a, .int .i64 b, .int .u64 nA, .int .u64 nB])] [((.slice ao12 (y).length c12), u8s y), ((.slice ao10 (y).length c10), u8s y), ((.slice ao8 (x).length c8), u8s x)]) BytesKept (fun i v w' => match i with
        | 0 => v = .agg #[.int .i64 2, .int .i64 b, .int .i64 a, .int .u64 nB, .int .u64 nA]
        | 1 => v = .agg #[.int .i64 2, .int .i64 b, .int .i64 a, .int .u64 nB, .int .u64 nA]
        | 2 => v = .bool false
        | 3 => v = .bool false
        | 4 => v = (.slice ao12 (y).length c12)
        | 5 => v = .string ⟨y.toArray⟩
        | 6 => v = (.slice ao10 (y).length c10)
        | 7 => v = .string ⟨y.toArray⟩
        | 8 => v = .bool false
        | 9 => v = .bool false
        | 10 => v = .bool false
        | 11 => v = .agg #[.int .i64 2, .int .i64 b, .int .i64 a, .int .u64 nB, .int .u64 nA]
        | 12 => v = (.pointer (some ⟨nb, 0, none⟩))
        | 13 => ByteRow w' v y
        | 14 => v = .string ⟨y.toArray⟩
        | 15 => v = (.slice ao10 (y).length c10)
        | 16 => v = .string ⟨y.toArray⟩
        | 17 => v = .bool false
        | 18 => v = .bool false
        | 19 => v = .bool false
        | 20 => v = .agg #[.int .i64 1, .int .i64 a, .int .i64 b, .int .u64 nA, .int .u64 0]
        | 21 => v = (.pointer (some ⟨nb, 0, none⟩))
        | 22 => ByteRow w' v x
        | 23 => v = .string ⟨x.toArray⟩
        | 24 => v = (.slice ao8 (x).length c8)
        | 25 => v = .string ⟨x.toArray⟩
        | 26 => v = .bool false
        | 27 => v = .bool false
        | _ => True) (by kernel_rfl) (by kernel_rfl) ⟨lv12, HN13.out.fr (Fr.drew _ []) (by simp), HS13.out.drew⟩ ?_ ?_ ?_
      · intro i v w1 w2 _ hR hF
        split at hF
        all_goals first
          | exact hF
          | exact hF.kept hR
      · refine ⟨?_, ?_, ?_, ?_, ?_, ?_, ?_, ?_, ?_, ?_, ?_, ?_, ?_, ?_, ?_, ?_, ?_, ?_, ?_, ?_, ?_, ?_, ?_, ?_, ?_, ?_, ?_, ?_, trivial⟩
        · intro a' w' hJ hd hk hf
          obtain ⟨lv', hn', hs'⟩ := hJ
          have e13 : a'.tmps[13]?.getD undef = (.pointer (some ⟨gc, 0, none⟩)) := hk 13 rfl
          rw [if_pos (show Region.wanted _ _ = true from rfl)]
          have q0 := (hs'.cells 0 rfl).cell 0
          have q1 := (hs'.cells 0 rfl).cell 1
          have q2 := (hs'.cells 0 rfl).cell 2
          have q3 := (hs'.cells 0 rfl).cell 3
          have q4 := (hs'.cells 0 rfl).cell 4
          simp only [List.getElem?_cons_zero, List.getElem?_cons_succ] at q0 q1 q2 q3 q4
          unfold Oper.wp
          simp [go_sem, e13, q0, q1, q2, q3, q4]
          exact ⟨_, rfl, ⟨lv', hn', hs'⟩, BytesKept.refl _, rfl⟩
        · intro a' w' hJ hd hk hf
          obtain ⟨lv', hn', hs'⟩ := hJ
          have e7 : a'.tmps[7]?.getD undef = (.pointer (some ⟨gb, 0, none⟩)) := hk 7 rfl
          rw [if_pos (show Region.wanted _ _ = true from rfl)]
          have q0 := (hs'.cells 1 rfl).cell 0
          have q1 := (hs'.cells 1 rfl).cell 1
          have q2 := (hs'.cells 1 rfl).cell 2
          have q3 := (hs'.cells 1 rfl).cell 3
          have q4 := (hs'.cells 1 rfl).cell 4
          simp only [List.getElem?_cons_zero, List.getElem?_cons_succ] at q0 q1 q2 q3 q4
          unfold Oper.wp
          simp [go_sem, e7, q0, q1, q2, q3, q4]
          exact ⟨_, rfl, ⟨lv', hn', hs'⟩, BytesKept.refl _, rfl⟩
        · intro a' w' hJ hd hk hf
          obtain ⟨lv', hn', hs'⟩ := hJ
          have f0 : a'.tmps[79]?.getD undef = .agg #[.int .i64 2, .int .i64 b, .int .i64 a, .int .u64 nB, .int .u64 nA] := hf 0 _ rfl rfl
          have f1 : a'.tmps[80]?.getD undef = .agg #[.int .i64 2, .int .i64 b, .int .i64 a, .int .u64 nB, .int .u64 nA] := hf 1 _ rfl rfl
          rw [if_pos (show Region.wanted _ _ = true from rfl)]
          unfold Oper.wp
          simp [go_sem, f0, f1, heq, hgd]
          exact ⟨_, rfl, ⟨lv', hn', hs'⟩, BytesKept.refl _, rfl⟩
        · intro a' w' hJ hd hk hf
          obtain ⟨lv', hn', hs'⟩ := hJ
          have f2 : a'.tmps[81]?.getD undef = .bool false := hf 2 _ rfl rfl
          rw [if_pos (show Region.wanted _ _ = true from rfl)]
          unfold Oper.wp
          simp [go_sem, f2]
          exact ⟨_, rfl, ⟨lv', hn', hs'⟩, BytesKept.refl _, rfl⟩
        · intro a' w' hJ hd hk hf
          obtain ⟨lv', hn', hs'⟩ := hJ
          have f3 : a'.tmps[82]?.getD undef = .bool false := hf 3 _ rfl rfl
          have e14 : a'.tmps[14]?.getD undef = (.slice ao12 (y).length c12) := hk 14 rfl
          rw [if_pos (wanted_of rfl rfl rfl f3)]
          unfold Oper.wp
          simp [go_sem, e14]
          exact ⟨_, rfl, ⟨lv', hn', hs'⟩, BytesKept.refl _, rfl⟩
        · intro a' w' hJ hd hk hf
          obtain ⟨lv', hn', hs'⟩ := hJ
          have f4 : a'.tmps[83]?.getD undef = (.slice ao12 (y).length c12) := hf 4 _ rfl rfl
          have f3 : a'.tmps[82]?.getD undef = .bool false := hf 3 _ rfl rfl
          rw [if_pos (wanted_of rfl rfl rfl f3)]
          have hc := run_conv (hs'.slice 0 rfl).ex
          unfold bstr at hc
          unfold Oper.wp
          simp [go_sem, f4, hc]
          exact ⟨_, rfl, ⟨lv', hn', hs'⟩, BytesKept.refl _, rfl⟩
        · intro a' w' hJ hd hk hf
          obtain ⟨lv', hn', hs'⟩ := hJ
          have f3 : a'.tmps[82]?.getD undef = .bool false := hf 3 _ rfl rfl
          have e11 : a'.tmps[11]?.getD undef = (.slice ao10 (y).length c10) := hk 11 rfl
          rw [if_pos (wanted_of rfl rfl rfl f3)]
          unfold Oper.wp
          simp [go_sem, e11]
          exact ⟨_, rfl, ⟨lv', hn', hs'⟩, BytesKept.refl _, rfl⟩
        · intro a' w' hJ hd hk hf
          obtain ⟨lv', hn', hs'⟩ := hJ
          have f6 : a'.tmps[85]?.getD undef = (.slice ao10 (y).length c10) := hf 6 _ rfl rfl
          have f3 : a'.tmps[82]?.getD undef = .bool false := hf 3 _ rfl rfl
          rw [if_pos (wanted_of rfl rfl rfl f3)]
          have hc := run_conv (hs'.slice 1 rfl).ex
          unfold bstr at hc
          unfold Oper.wp
          simp [go_sem, f6, hc]
          exact ⟨_, rfl, ⟨lv', hn', hs'⟩, BytesKept.refl _, rfl⟩
        · intro a' w' hJ hd hk hf
          obtain ⟨lv', hn', hs'⟩ := hJ
          have f5 : a'.tmps[84]?.getD undef = .string ⟨y.toArray⟩ := hf 5 _ rfl rfl
          have f7 : a'.tmps[86]?.getD undef = .string ⟨y.toArray⟩ := hf 7 _ rfl rfl
          have f3 : a'.tmps[82]?.getD undef = .bool false := hf 3 _ rfl rfl
          rw [if_pos (wanted_of rfl rfl rfl f3)]
          unfold Oper.wp
          simp [go_sem, f5, f7]
          exact ⟨_, rfl, ⟨lv', hn', hs'⟩, BytesKept.refl _, rfl⟩
        · intro a' w' hJ hd hk hf
          obtain ⟨lv', hn', hs'⟩ := hJ
          have f3 : a'.tmps[82]?.getD undef = .bool false := hf 3 _ rfl rfl
          have f8 : a'.tmps[87]?.getD undef = .bool false := hf 8 _ rfl rfl
          rw [if_pos (show Region.wanted _ _ = true from rfl)]
          unfold Oper.wp
          simp [go_sem, f3, f8]
          exact ⟨_, rfl, ⟨lv', hn', hs'⟩, BytesKept.refl _, rfl⟩
        · intro a' w' hJ hd hk hf
          obtain ⟨lv', hn', hs'⟩ := hJ
          have f9 : a'.tmps[88]?.getD undef = .bool false := hf 9 _ rfl rfl
          rw [if_pos (show Region.wanted _ _ = true from rfl)]
          unfold Oper.wp
          simp [go_sem, f9]
          exact ⟨_, rfl, ⟨lv', hn', hs'⟩, BytesKept.refl _, rfl⟩
        · intro a' w' hJ hd hk hf
          obtain ⟨lv', hn', hs'⟩ := hJ
          have f10 : a'.tmps[89]?.getD undef = .bool false := hf 10 _ rfl rfl
          have e7 : a'.tmps[7]?.getD undef = (.pointer (some ⟨gb, 0, none⟩)) := hk 7 rfl
          rw [if_pos (wanted_of rfl rfl rfl f10)]
          have q0 := (hs'.cells 1 rfl).cell 0
          have q1 := (hs'.cells 1 rfl).cell 1
          have q2 := (hs'.cells 1 rfl).cell 2
          have q3 := (hs'.cells 1 rfl).cell 3
          have q4 := (hs'.cells 1 rfl).cell 4
          simp only [List.getElem?_cons_zero, List.getElem?_cons_succ] at q0 q1 q2 q3 q4
          unfold Oper.wp
          simp [go_sem, e7, q0, q1, q2, q3, q4]
          exact ⟨_, rfl, ⟨lv', hn', hs'⟩, BytesKept.refl _, rfl⟩
        · intro a' w' hJ hd hk hf
          obtain ⟨lv', hn', hs'⟩ := hJ
          have f10 : a'.tmps[89]?.getD undef = .bool false := hf 10 _ rfl rfl
          have e9 : a'.tmps[9]?.getD undef = (.pointer (some ⟨nb, 0, none⟩)) := hk 9 rfl
          rw [if_pos (wanted_of rfl rfl rfl f10)]
          unfold Oper.wp
          simp [go_sem, e9]
          exact ⟨_, rfl, ⟨lv', hn', hs'⟩, BytesKept.refl _, rfl⟩
        · intro a' w' hJ hd hk hf
          obtain ⟨lv', hn', hs'⟩ := hJ
          have f11 : a'.tmps[90]?.getD undef = .agg #[.int .i64 2, .int .i64 b, .int .i64 a, .int .u64 nB, .int .u64 nA] := hf 11 _ rfl rfl
          have f12 : a'.tmps[91]?.getD undef = (.pointer (some ⟨nb, 0, none⟩)) := hf 12 _ rfl rfl
          have f10 : a'.tmps[89]?.getD undef = .bool false := hf 10 _ rfl rfl
          rw [if_pos (wanted_of rfl rfl rfl f10)]
          refine call_step 29 #[.tmp 90, .tmp 91] _ rfl EG.out #[skV ⟨2, b, a, nB, nA⟩, .pointer (some ⟨nb, 0, none⟩)] (by simp only [List.map_cons, List.map_nil, Act.eval, Array.getD_eq_getD_getElem?]; rw [f11, f12]; rfl) (sk_again w' nb mb lv' L2 ⟨2, b, a, nB, nA⟩ ⟨by have := PA.out; have := PB.out; have := NA.out; have := NB.out; unfold peer nonce at *; dsimp only; omega, by have := PA.out; have := PB.out; have := NA.out; have := NB.out; unfold peer nonce at *; dsimp only; omega, by have := PA.out; have := PB.out; have := NA.out; have := NB.out; unfold peer nonce at *; dsimp only; omega, by have := PA.out; have := PB.out; have := NA.out; have := NB.out; unfold peer nonce at *; dsimp only; omega⟩ hn' (by have := EL.out; omega)) ?_
          rw [E4.out]
          rintro e w2 ⟨v2, rfl, hs2⟩
          refine ⟨v2, rfl, v2, rfl, ?_, hs2.kept hn', ByteRow.of_own hs2.1⟩
          obtain ⟨lv2, hn2, hs3⟩ := hs'.sent hs2
          exact ⟨lv2, hn2, hs3.dropB⟩
        · intro a' w' hJ hd hk hf
          obtain ⟨lv', hn', hs'⟩ := hJ
          have f13 : ByteRow w' (a'.tmps[92]?.getD undef) y := hf 13 _ rfl rfl
          have f10 : a'.tmps[89]?.getD undef = .bool false := hf 10 _ rfl rfl
          rw [if_pos (wanted_of rfl rfl rfl f10)]
          have hc := run_conv f13.sl.ex
          unfold bstr at hc
          unfold Oper.wp
          simp [go_sem,  hc]
          exact ⟨_, rfl, ⟨lv', hn', hs'⟩, BytesKept.refl _, rfl⟩
        · intro a' w' hJ hd hk hf
          obtain ⟨lv', hn', hs'⟩ := hJ
          have f10 : a'.tmps[89]?.getD undef = .bool false := hf 10 _ rfl rfl
          have e11 : a'.tmps[11]?.getD undef = (.slice ao10 (y).length c10) := hk 11 rfl
          rw [if_pos (wanted_of rfl rfl rfl f10)]
          unfold Oper.wp
          simp [go_sem, e11]
          exact ⟨_, rfl, ⟨lv', hn', hs'⟩, BytesKept.refl _, rfl⟩
        · intro a' w' hJ hd hk hf
          obtain ⟨lv', hn', hs'⟩ := hJ
          have f15 : a'.tmps[94]?.getD undef = (.slice ao10 (y).length c10) := hf 15 _ rfl rfl
          have f10 : a'.tmps[89]?.getD undef = .bool false := hf 10 _ rfl rfl
          rw [if_pos (wanted_of rfl rfl rfl f10)]
          have hc := run_conv (hs'.slice 1 rfl).ex
          unfold bstr at hc
          unfold Oper.wp
          simp [go_sem, f15, hc]
          exact ⟨_, rfl, ⟨lv', hn', hs'⟩, BytesKept.refl _, rfl⟩
        · intro a' w' hJ hd hk hf
          obtain ⟨lv', hn', hs'⟩ := hJ
          have f14 : a'.tmps[93]?.getD undef = .string ⟨y.toArray⟩ := hf 14 _ rfl rfl
          have f16 : a'.tmps[95]?.getD undef = .string ⟨y.toArray⟩ := hf 16 _ rfl rfl
          have f10 : a'.tmps[89]?.getD undef = .bool false := hf 10 _ rfl rfl
          rw [if_pos (wanted_of rfl rfl rfl f10)]
          unfold Oper.wp
          simp [go_sem, f14, f16]
          exact ⟨_, rfl, ⟨lv', hn', hs'⟩, BytesKept.refl _, rfl⟩
        · intro a' w' hJ hd hk hf
          obtain ⟨lv', hn', hs'⟩ := hJ
          have f10 : a'.tmps[89]?.getD undef = .bool false := hf 10 _ rfl rfl
          have f17 : a'.tmps[96]?.getD undef = .bool false := hf 17 _ rfl rfl
          rw [if_pos (show Region.wanted _ _ = true from rfl)]
          unfold Oper.wp
          simp [go_sem, f10, f17]
          exact ⟨_, rfl, ⟨lv', hn', hs'⟩, BytesKept.refl _, rfl⟩
        · intro a' w' hJ hd hk hf
          obtain ⟨lv', hn', hs'⟩ := hJ
          have f18 : a'.tmps[97]?.getD undef = .bool false := hf 18 _ rfl rfl
          rw [if_pos (show Region.wanted _ _ = true from rfl)]
          unfold Oper.wp
          simp [go_sem, f18]
          exact ⟨_, rfl, ⟨lv', hn', hs'⟩, BytesKept.refl _, rfl⟩
        · intro a' w' hJ hd hk hf
          obtain ⟨lv', hn', hs'⟩ := hJ
          have f19 : a'.tmps[98]?.getD undef = .bool false := hf 19 _ rfl rfl
          have e5 : a'.tmps[5]?.getD undef = (.pointer (some ⟨ga, 0, none⟩)) := hk 5 rfl
          rw [if_pos (wanted_of rfl rfl rfl f19)]
          have q0 := (hs'.cells 2 rfl).cell 0
          have q1 := (hs'.cells 2 rfl).cell 1
          have q2 := (hs'.cells 2 rfl).cell 2
          have q3 := (hs'.cells 2 rfl).cell 3
          have q4 := (hs'.cells 2 rfl).cell 4
          simp only [List.getElem?_cons_zero, List.getElem?_cons_succ] at q0 q1 q2 q3 q4
          unfold Oper.wp
          simp [go_sem, e5, q0, q1, q2, q3, q4]
          exact ⟨_, rfl, ⟨lv', hn', hs'⟩, BytesKept.refl _, rfl⟩
        · intro a' w' hJ hd hk hf
          obtain ⟨lv', hn', hs'⟩ := hJ
          have f19 : a'.tmps[98]?.getD undef = .bool false := hf 19 _ rfl rfl
          have e9 : a'.tmps[9]?.getD undef = (.pointer (some ⟨nb, 0, none⟩)) := hk 9 rfl
          rw [if_pos (wanted_of rfl rfl rfl f19)]
          unfold Oper.wp
          simp [go_sem, e9]
          exact ⟨_, rfl, ⟨lv', hn', hs'⟩, BytesKept.refl _, rfl⟩
        · intro a' w' hJ hd hk hf
          obtain ⟨lv', hn', hs'⟩ := hJ
          have f20 : a'.tmps[99]?.getD undef = .agg #[.int .i64 1, .int .i64 a, .int .i64 b, .int .u64 nA, .int .u64 0] := hf 20 _ rfl rfl
          have f21 : a'.tmps[100]?.getD undef = (.pointer (some ⟨nb, 0, none⟩)) := hf 21 _ rfl rfl
          have f19 : a'.tmps[98]?.getD undef = .bool false := hf 19 _ rfl rfl
          rw [if_pos (wanted_of rfl rfl rfl f19)]
          refine call_step 29 #[.tmp 99, .tmp 100] _ rfl EG.out #[skV ⟨1, a, b, nA, 0⟩, .pointer (some ⟨nb, 0, none⟩)] (by simp only [List.map_cons, List.map_nil, Act.eval, Array.getD_eq_getD_getElem?]; rw [f20, f21]; rfl) (sk_again w' nb mb lv' L2 ⟨1, a, b, nA, 0⟩ ⟨by have := PA.out; have := PB.out; have := NA.out; have := NB.out; unfold peer nonce at *; dsimp only; omega, by have := PA.out; have := PB.out; have := NA.out; have := NB.out; unfold peer nonce at *; dsimp only; omega, by have := PA.out; have := PB.out; have := NA.out; have := NB.out; unfold peer nonce at *; dsimp only; omega, by have := PA.out; have := PB.out; have := NA.out; have := NB.out; unfold peer nonce at *; dsimp only; omega⟩ hn' (by have := EL.out; omega)) ?_
          rw [E5.out]
          rintro e w2 ⟨v2, rfl, hs2⟩
          refine ⟨v2, rfl, v2, rfl, ?_, hs2.kept hn', ByteRow.of_own hs2.1⟩
          obtain ⟨lv2, hn2, hs3⟩ := hs'.sent hs2
          exact ⟨lv2, hn2, hs3.dropB⟩
        · intro a' w' hJ hd hk hf
          obtain ⟨lv', hn', hs'⟩ := hJ
          have f22 : ByteRow w' (a'.tmps[101]?.getD undef) x := hf 22 _ rfl rfl
          have f19 : a'.tmps[98]?.getD undef = .bool false := hf 19 _ rfl rfl
          rw [if_pos (wanted_of rfl rfl rfl f19)]
          have hc := run_conv f22.sl.ex
          unfold bstr at hc
          unfold Oper.wp
          simp [go_sem,  hc]
          exact ⟨_, rfl, ⟨lv', hn', hs'⟩, BytesKept.refl _, rfl⟩
        · intro a' w' hJ hd hk hf
          obtain ⟨lv', hn', hs'⟩ := hJ
          have f19 : a'.tmps[98]?.getD undef = .bool false := hf 19 _ rfl rfl
          have e10 : a'.tmps[10]?.getD undef = (.slice ao8 (x).length c8) := hk 10 rfl
          rw [if_pos (wanted_of rfl rfl rfl f19)]
          unfold Oper.wp
          simp [go_sem, e10]
          exact ⟨_, rfl, ⟨lv', hn', hs'⟩, BytesKept.refl _, rfl⟩
        · intro a' w' hJ hd hk hf
          obtain ⟨lv', hn', hs'⟩ := hJ
          have f24 : a'.tmps[103]?.getD undef = (.slice ao8 (x).length c8) := hf 24 _ rfl rfl
          have f19 : a'.tmps[98]?.getD undef = .bool false := hf 19 _ rfl rfl
          rw [if_pos (wanted_of rfl rfl rfl f19)]
          have hc := run_conv (hs'.slice 2 rfl).ex
          unfold bstr at hc
          unfold Oper.wp
          simp [go_sem, f24, hc]
          exact ⟨_, rfl, ⟨lv', hn', hs'⟩, BytesKept.refl _, rfl⟩
        · intro a' w' hJ hd hk hf
          obtain ⟨lv', hn', hs'⟩ := hJ
          have f23 : a'.tmps[102]?.getD undef = .string ⟨x.toArray⟩ := hf 23 _ rfl rfl
          have f25 : a'.tmps[104]?.getD undef = .string ⟨x.toArray⟩ := hf 25 _ rfl rfl
          have f19 : a'.tmps[98]?.getD undef = .bool false := hf 19 _ rfl rfl
          rw [if_pos (wanted_of rfl rfl rfl f19)]
          unfold Oper.wp
          simp [go_sem, f23, f25]
          exact ⟨_, rfl, ⟨lv', hn', hs'⟩, BytesKept.refl _, rfl⟩
        · intro a' w' hJ hd hk hf
          obtain ⟨lv', hn', hs'⟩ := hJ
          have f19 : a'.tmps[98]?.getD undef = .bool false := hf 19 _ rfl rfl
          have f26 : a'.tmps[105]?.getD undef = .bool false := hf 26 _ rfl rfl
          rw [if_pos (show Region.wanted _ _ = true from rfl)]
          unfold Oper.wp
          simp [go_sem, f19, f26]
          exact ⟨_, rfl, ⟨lv', hn', hs'⟩, BytesKept.refl _, rfl⟩
      · intro a' w' hJ hF
        obtain ⟨lv', hn', hs'⟩ := hJ
        have HN6 := Lib.hid hn'
        have HS6 := Lib.hid (hs'.dropO.dropB)
        obtain ⟨g0, g1, g2, g3, g4, g5, g6, g7, g8, g9, g10, g11, g12, g13, g14, g15, g16, g17, g18, g19, g20, g21, g22, g23, g24, g25, g26, g27, -⟩ := hF
        have f27 : a'.tmps[106]?.getD undef = .bool false := g27
        clear hn' hs' g0 g1 g2 g3 g4 g5 g6 g7 g8 g9 g10 g11 g12 g13 g14 g15 g16 g17 g18 g19 g20 g21 g22 g23 g24 g25 g26 g27
        simp only [putTmps, List.setIfInBounds_toArray, List.set_cons_succ, List.set_cons_zero]
        rw [f27]
        clear f27
        generalize a'.tmps[79]?.getD undef = x79
        generalize a'.tmps[80]?.getD undef = x80
        generalize a'.tmps[81]?.getD undef = x81
        generalize a'.tmps[82]?.getD undef = x82
        generalize a'.tmps[83]?.getD undef = x83
        generalize a'.tmps[84]?.getD undef = x84
        generalize a'.tmps[85]?.getD undef = x85
        generalize a'.tmps[86]?.getD undef = x86
        generalize a'.tmps[87]?.getD undef = x87
        generalize a'.tmps[88]?.getD undef = x88
        generalize a'.tmps[89]?.getD undef = x89
        generalize a'.tmps[90]?.getD undef = x90
        generalize a'.tmps[91]?.getD undef = x91
        generalize a'.tmps[92]?.getD undef = x92
        generalize a'.tmps[93]?.getD undef = x93
        generalize a'.tmps[94]?.getD undef = x94
        generalize a'.tmps[95]?.getD undef = x95
        generalize a'.tmps[96]?.getD undef = x96
        generalize a'.tmps[97]?.getD undef = x97
        generalize a'.tmps[98]?.getD undef = x98
        generalize a'.tmps[99]?.getD undef = x99
        generalize a'.tmps[100]?.getD undef = x100
        generalize a'.tmps[101]?.getD undef = x101
        generalize a'.tmps[102]?.getD undef = x102
        generalize a'.tmps[103]?.getD undef = x103
        generalize a'.tmps[104]?.getD undef = x104
        generalize a'.tmps[105]?.getD undef = x105
        clear a'
        go_wp2_with fail
        go_roundw
        case rel =>
          exact ⟨i + 1, lv', hlt, by go_num, HN6.out, HS6.out⟩
        case measure =>
          simp [intOf]
          omega
    · obtain rfl : i = k % 20 := by omega
      have hlt' : ¬ ((k % 20 : Nat) : Int) < (k : Int) % 20 := by omega
      rw [show ((k % 20 : Nat) : Int) = (k : Int) % 20 from by omega] at hlt' ⊢
      have hq := not_count wr nb mb lv L2 HNr.out
      rw [EN.out] at hq
      have HQ := Lib.hid hq
      clear hq
      go_wp2_with fail
      refine HQ.out.mono ?_
      rintro e w30 ⟨rfl, hf⟩
      have HF30 : Hid (Fr [] w w30) := HSr.out.fr.trans hf
      clear hf
      go_wp2_with fail
      go_ret
      exact ⟨rfl, HF30.out⟩
end Go.Proofs.Ytjfmgpelkhgodaa
