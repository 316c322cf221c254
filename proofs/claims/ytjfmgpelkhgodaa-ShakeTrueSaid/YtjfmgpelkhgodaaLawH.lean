/- The walk of ShakeForged. -/
import Derived.Test.YtjfmgpelkhgodaaLawC
import Derived.Test.YtjfmgpelkhgodaaLawG
import Derived.Test.YtjfmgpelkhgodaaLawR
import Derived.BigRegion
namespace Go.Proofs.Ytjfmgpelkhgodaa
open Go.RowKit
attribute [local go_sem ↓ high] run_min_whole run_max_whole

set_option maxRecDepth 100000 in
set_option maxHeartbeats 2000000 in
theorem ShakeForged_ff (w : World) (A B : Int) (nA nB : Nat) (k d : Nat) (h1 : skMay A B nA = false) (h2 : skMay B A nB = false) :
    Calls Try.prog 7 #[.agg #[.int .i64 A, .int .i64 B, .int .u64 nA, .int .u64 nB], .int .u8 k, .int .u8 d] w fun e w' => e = .returned (.bool true) ∧ Fr [] w w' := by
  have H1 := Lib.hid h1
  have H2 := Lib.hid h2
  clear h1 h2
  go_enter Try.func7, Try.ntmps7
  have HS0 := Lib.hid (St.start w)
  go_wp2_with fail
  obtain ⟨gt, hgt⟩ : ∃ g, g = w.heap.size := ⟨_, rfl⟩
  obtain ⟨w1, hw⟩ : ∃ w1, w.alloc (.cells #[.int .i64 A, .int .i64 B, .int .u64 nA, .int .u64 nB] 42) = w1 := ⟨_, rfl⟩
  rw [hw, ← hgt]
  have hs := HS0.out.lay 42 [.int .i64 A, .int .i64 B, .int .u64 nA, .int .u64 nB]
  rw [hw, ← hgt] at hs
  have HS1 := Lib.hid hs
  clear hw hgt hs 
  go_wp2_with fail
  have hq := lw_awake w1
  have HQ := Lib.hid hq
  clear hq
  refine HQ.out.mono ?_
  clear HQ
  rintro e w2 ⟨rfl, hf⟩
  have HS2 := Lib.hid (HS1.out.grow hf)
  clear hf
  have qgt0 := ((HS2.out.cells 0 rfl)).cell 0
  have qgt1 := ((HS2.out.cells 0 rfl)).cell 1
  have qgt2 := ((HS2.out.cells 0 rfl)).cell 2
  have qgt3 := ((HS2.out.cells 0 rfl)).cell 3
  simp only [List.getElem?_cons_zero, List.getElem?_cons_succ] at qgt0 qgt1 qgt2 qgt3
  go_wp2_with fail
  have hq := sk_new w2 A B nA
  rw [skNew_no H1.out] at hq
  have HQ := Lib.hid hq
  clear hq
  refine HQ.out.mono ?_
  clear HQ
  rintro e w3 ⟨rfl, hf⟩
  have HS3 := Lib.hid (HS2.out.grow hf)
  clear hf
  clear qgt0 qgt1 qgt2 qgt3
  have qgt0 := fun o => ((HS3.out.cells 0 rfl).alloc o).cell 0
  have qgt1 := fun o => ((HS3.out.cells 0 rfl).alloc o).cell 1
  have qgt2 := fun o => ((HS3.out.cells 0 rfl).alloc o).cell 2
  have qgt3 := fun o => ((HS3.out.cells 0 rfl).alloc o).cell 3
  simp only [List.getElem?_cons_zero, List.getElem?_cons_succ] at qgt0 qgt1 qgt2 qgt3
  go_wp2_with fail
  obtain ⟨ga, hga⟩ : ∃ g, g = w3.heap.size := ⟨_, rfl⟩
  obtain ⟨w4, hw⟩ : ∃ w1, w3.alloc (.cells #[.int .i64 0, .int .i64 0, .int .i64 0, .int .u64 0, .int .u64 0] 46) = w1 := ⟨_, rfl⟩
  rw [hw, ← hga]
  have hs := HS3.out.lay 46 [.int .i64 0, .int .i64 0, .int .i64 0, .int .u64 0, .int .u64 0]
  rw [hw, ← hga] at hs
  have HS4 := Lib.hid hs
  clear hw hga hs qgt0 qgt1 qgt2 qgt3
  go_wp2_with fail
  have hq := sk_new w4 B A nB
  rw [skNew_no H2.out] at hq
  have HQ := Lib.hid hq
  clear hq
  refine HQ.out.mono ?_
  clear HQ
  rintro e w5 ⟨rfl, hf⟩
  have HS5 := Lib.hid (HS4.out.grow hf)
  clear hf
  go_wp2_with fail
  go_ret
  exact ⟨rfl, HS5.out.fr.trans (Fr.alloc _ _ _)⟩

set_option maxRecDepth 100000 in
set_option maxHeartbeats 2000000 in
theorem ShakeForged_ft (w : World) (A B : Int) (nA nB : Nat) (k d : Nat) (h1 : skMay A B nA = false) (h2 : skMay B A nB = true) :
    Calls Try.prog 7 #[.agg #[.int .i64 A, .int .i64 B, .int .u64 nA, .int .u64 nB], .int .u8 k, .int .u8 d] w fun e w' => e = .returned (.bool true) ∧ Fr [] w w' := by
  have H1 := Lib.hid h1
  have H2 := Lib.hid h2
  clear h1 h2
  go_enter Try.func7, Try.ntmps7
  have HS0 := Lib.hid (St.start w)
  go_wp2_with fail
  obtain ⟨gt, hgt⟩ : ∃ g, g = w.heap.size := ⟨_, rfl⟩
  obtain ⟨w1, hw⟩ : ∃ w1, w.alloc (.cells #[.int .i64 A, .int .i64 B, .int .u64 nA, .int .u64 nB] 42) = w1 := ⟨_, rfl⟩
  rw [hw, ← hgt]
  have hs := HS0.out.lay 42 [.int .i64 A, .int .i64 B, .int .u64 nA, .int .u64 nB]
  rw [hw, ← hgt] at hs
  have HS1 := Lib.hid hs
  clear hw hgt hs 
  go_wp2_with fail
  have hq := lw_awake w1
  have HQ := Lib.hid hq
  clear hq
  refine HQ.out.mono ?_
  clear HQ
  rintro e w2 ⟨rfl, hf⟩
  have HS2 := Lib.hid (HS1.out.grow hf)
  clear hf
  have qgt0 := ((HS2.out.cells 0 rfl)).cell 0
  have qgt1 := ((HS2.out.cells 0 rfl)).cell 1
  have qgt2 := ((HS2.out.cells 0 rfl)).cell 2
  have qgt3 := ((HS2.out.cells 0 rfl)).cell 3
  simp only [List.getElem?_cons_zero, List.getElem?_cons_succ] at qgt0 qgt1 qgt2 qgt3
  go_wp2_with fail
  have hq := sk_new w2 A B nA
  rw [skNew_no H1.out] at hq
  have HQ := Lib.hid hq
  clear hq
  refine HQ.out.mono ?_
  clear HQ
  rintro e w3 ⟨rfl, hf⟩
  have HS3 := Lib.hid (HS2.out.grow hf)
  clear hf
  clear qgt0 qgt1 qgt2 qgt3
  have qgt0 := fun o => ((HS3.out.cells 0 rfl).alloc o).cell 0
  have qgt1 := fun o => ((HS3.out.cells 0 rfl).alloc o).cell 1
  have qgt2 := fun o => ((HS3.out.cells 0 rfl).alloc o).cell 2
  have qgt3 := fun o => ((HS3.out.cells 0 rfl).alloc o).cell 3
  simp only [List.getElem?_cons_zero, List.getElem?_cons_succ] at qgt0 qgt1 qgt2 qgt3
  go_wp2_with fail
  obtain ⟨ga, hga⟩ : ∃ g, g = w3.heap.size := ⟨_, rfl⟩
  obtain ⟨w4, hw⟩ : ∃ w1, w3.alloc (.cells #[.int .i64 0, .int .i64 0, .int .i64 0, .int .u64 0, .int .u64 0] 46) = w1 := ⟨_, rfl⟩
  rw [hw, ← hga]
  have hs := HS3.out.lay 46 [.int .i64 0, .int .i64 0, .int .i64 0, .int .u64 0, .int .u64 0]
  rw [hw, ← hga] at hs
  have HS4 := Lib.hid hs
  clear hw hga hs qgt0 qgt1 qgt2 qgt3
  go_wp2_with fail
  have hq := sk_new w4 B A nB
  rw [skNew_ok H2.out] at hq
  have HQ := Lib.hid hq
  clear hq
  refine HQ.out.mono ?_
  clear HQ
  rintro e w5 ⟨rfl, hf⟩
  have HS5 := Lib.hid (HS4.out.grow hf)
  clear hf
  go_wp2_with fail
  go_ret
  exact ⟨rfl, HS5.out.fr.trans (Fr.alloc _ _ _)⟩

set_option maxRecDepth 100000 in
set_option maxHeartbeats 2000000 in
theorem ShakeForged_tf (w : World) (A B : Int) (nA nB : Nat) (k d : Nat) (h1 : skMay A B nA = true) (h2 : skMay B A nB = false) :
    Calls Try.prog 7 #[.agg #[.int .i64 A, .int .i64 B, .int .u64 nA, .int .u64 nB], .int .u8 k, .int .u8 d] w fun e w' => e = .returned (.bool true) ∧ Fr [] w w' := by
  have H1 := Lib.hid h1
  have H2 := Lib.hid h2
  clear h1 h2
  go_enter Try.func7, Try.ntmps7
  have HS0 := Lib.hid (St.start w)
  go_wp2_with fail
  obtain ⟨gt, hgt⟩ : ∃ g, g = w.heap.size := ⟨_, rfl⟩
  obtain ⟨w1, hw⟩ : ∃ w1, w.alloc (.cells #[.int .i64 A, .int .i64 B, .int .u64 nA, .int .u64 nB] 42) = w1 := ⟨_, rfl⟩
  rw [hw, ← hgt]
  have hs := HS0.out.lay 42 [.int .i64 A, .int .i64 B, .int .u64 nA, .int .u64 nB]
  rw [hw, ← hgt] at hs
  have HS1 := Lib.hid hs
  clear hw hgt hs 
  go_wp2_with fail
  have hq := lw_awake w1
  have HQ := Lib.hid hq
  clear hq
  refine HQ.out.mono ?_
  clear HQ
  rintro e w2 ⟨rfl, hf⟩
  have HS2 := Lib.hid (HS1.out.grow hf)
  clear hf
  have qgt0 := ((HS2.out.cells 0 rfl)).cell 0
  have qgt1 := ((HS2.out.cells 0 rfl)).cell 1
  have qgt2 := ((HS2.out.cells 0 rfl)).cell 2
  have qgt3 := ((HS2.out.cells 0 rfl)).cell 3
  simp only [List.getElem?_cons_zero, List.getElem?_cons_succ] at qgt0 qgt1 qgt2 qgt3
  go_wp2_with fail
  have hq := sk_new w2 A B nA
  rw [skNew_ok H1.out] at hq
  have HQ := Lib.hid hq
  clear hq
  refine HQ.out.mono ?_
  clear HQ
  rintro e w3 ⟨rfl, hf⟩
  have HS3 := Lib.hid (HS2.out.grow hf)
  clear hf
  clear qgt0 qgt1 qgt2 qgt3
  have qgt0 := fun o => ((HS3.out.cells 0 rfl).alloc o).cell 0
  have qgt1 := fun o => ((HS3.out.cells 0 rfl).alloc o).cell 1
  have qgt2 := fun o => ((HS3.out.cells 0 rfl).alloc o).cell 2
  have qgt3 := fun o => ((HS3.out.cells 0 rfl).alloc o).cell 3
  simp only [List.getElem?_cons_zero, List.getElem?_cons_succ] at qgt0 qgt1 qgt2 qgt3
  go_wp2_with fail
  obtain ⟨ga, hga⟩ : ∃ g, g = w3.heap.size := ⟨_, rfl⟩
  obtain ⟨w4, hw⟩ : ∃ w1, w3.alloc (.cells #[.int .i64 0, .int .i64 A, .int .i64 B, .int .u64 nA, .int .u64 0] 46) = w1 := ⟨_, rfl⟩
  rw [hw, ← hga]
  have hs := HS3.out.lay 46 [.int .i64 0, .int .i64 A, .int .i64 B, .int .u64 nA, .int .u64 0]
  rw [hw, ← hga] at hs
  have HS4 := Lib.hid hs
  clear hw hga hs qgt0 qgt1 qgt2 qgt3
  go_wp2_with fail
  have hq := sk_new w4 B A nB
  rw [skNew_no H2.out] at hq
  have HQ := Lib.hid hq
  clear hq
  refine HQ.out.mono ?_
  clear HQ
  rintro e w5 ⟨rfl, hf⟩
  have HS5 := Lib.hid (HS4.out.grow hf)
  clear hf
  go_wp2_with fail
  go_ret
  exact ⟨rfl, HS5.out.fr.trans (Fr.alloc _ _ _)⟩

set_option maxRecDepth 100000 in
set_option maxHeartbeats 1000000 in
theorem forged_0 (w : World) (a b nA nB : Nat) (k : Nat) (H1 : Hid (skMay a b nA = true)) (H2 : Hid (skMay b a nB = true)) :
    Calls Try.prog 7 #[.agg #[.int .i64 a, .int .i64 b, .int .u64 nA, .int .u64 nB], .int .u8 k, .int .u8 0] w fun e w' => e = .returned (.bool true) ∧ Fr [] w w' := by
  go_enter Try.func7, Try.ntmps7
  have HS0 := Lib.hid (St.start w)
  go_wp2_with fail
  obtain ⟨gt, hgt⟩ : ∃ g, g = w.heap.size := ⟨_, rfl⟩
  obtain ⟨w1, hw⟩ : ∃ w1, w.alloc (.cells #[.int .i64 a, .int .i64 b, .int .u64 nA, .int .u64 nB] 42) = w1 := ⟨_, rfl⟩
  rw [hw, ← hgt]
  have hs := HS0.out.lay 42 [.int .i64 a, .int .i64 b, .int .u64 nA, .int .u64 nB]
  rw [hw, ← hgt] at hs
  have HS1 := Lib.hid hs
  clear hw hgt hs 
  go_wp2_with fail
  have hq := lw_awake w1
  have HQ := Lib.hid hq
  clear hq
  refine HQ.out.mono ?_
  clear HQ
  rintro e w2 ⟨rfl, hf⟩
  have HS2 := Lib.hid (HS1.out.grow hf)
  clear hf
  have qgt0 := ((HS2.out.cells 0 rfl)).cell 0
  have qgt1 := ((HS2.out.cells 0 rfl)).cell 1
  have qgt2 := ((HS2.out.cells 0 rfl)).cell 2
  have qgt3 := ((HS2.out.cells 0 rfl)).cell 3
  simp only [List.getElem?_cons_zero, List.getElem?_cons_succ] at qgt0 qgt1 qgt2 qgt3
  go_wp2_with fail
  have hq := sk_new w2 a b nA
  rw [skNew_ok H1.out] at hq
  have HQ := Lib.hid hq
  clear hq
  refine HQ.out.mono ?_
  clear HQ
  rintro e w3 ⟨rfl, hf⟩
  have HS3 := Lib.hid (HS2.out.grow hf)
  clear hf
  clear qgt0 qgt1 qgt2 qgt3
  have qgt0 := fun o => ((HS3.out.cells 0 rfl).alloc o).cell 0
  have qgt1 := fun o => ((HS3.out.cells 0 rfl).alloc o).cell 1
  have qgt2 := fun o => ((HS3.out.cells 0 rfl).alloc o).cell 2
  have qgt3 := fun o => ((HS3.out.cells 0 rfl).alloc o).cell 3
  simp only [List.getElem?_cons_zero, List.getElem?_cons_succ] at qgt0 qgt1 qgt2 qgt3
  go_wp2_with fail
  obtain ⟨ga, hga⟩ : ∃ g, g = w3.heap.size := ⟨_, rfl⟩
  obtain ⟨w4, hw⟩ : ∃ w1, w3.alloc (.cells #[.int .i64 0, .int .i64 a, .int .i64 b, .int .u64 nA, .int .u64 0] 46) = w1 := ⟨_, rfl⟩
  rw [hw, ← hga]
  have hs := HS3.out.lay 46 [.int .i64 0, .int .i64 a, .int .i64 b, .int .u64 nA, .int .u64 0]
  rw [hw, ← hga] at hs
  have HS4 := Lib.hid hs
  clear hw hga hs qgt0 qgt1 qgt2 qgt3
  go_wp2_with fail
  have hq := sk_new w4 b a nB
  rw [skNew_ok H2.out] at hq
  have HQ := Lib.hid hq
  clear hq
  refine HQ.out.mono ?_
  clear HQ
  rintro e w5 ⟨rfl, hf⟩
  have HS5 := Lib.hid (HS4.out.grow hf)
  clear hf
  go_wp2_with fail
  go_ret
  exact ⟨rfl, HS5.out.fr.trans (Fr.alloc _ _ _)⟩

theorem NotIn.not_sk {w : World} {nb mb : Nat} {lv : Value} {L : List En} {r : Nat} {cur : Array Value} (hN : NotIn w nb mb lv L) (hg : w.heap[r]? = some (Obj.cells cur 46 (0, 0))) : r ∉ NBlocks nb mb lv := by
  intro hm
  simp only [NBlocks, List.mem_cons, Option.mem_toList] at hm
  rcases hm with rfl | rfl | hm
  · have hc := hN.cells
    unfold Cells at hc
    rw [hc] at hg
    simp at hg
  · rw [hN.map] at hg
    cases hg
  · obtain ⟨cur', hc⟩ := own_type hN.list hm
    rw [hc] at hg
    simp at hg
theorem NotIn.not_u64 {w : World} {nb mb : Nat} {lv : Value} {L : List En} {base n : Nat} {v : Value} {xs : List Value} (hN : NotIn w nb mb lv L) (ho : w.ownsRow base 40 1 v n xs) : ∀ q, v.ownBlock = some q → q ∉ NBlocks nb mb lv := by
  intro q hq hm
  obtain ⟨cur, hg⟩ := own_type ho hq
  simp only [NBlocks, List.mem_cons, Option.mem_toList] at hm
  rcases hm with rfl | rfl | hm
  · have hc := hN.cells
    unfold Cells at hc
    rw [hc] at hg
    simp at hg
  · rw [hN.map] at hg
    cases hg
  · obtain ⟨cur', hc⟩ := own_type hN.list hm
    rw [hc] at hg
    simp at hg
theorem ads_nil_up {w w' : World} {v : Value} (h : AdsAt w v []) (hs : w.heap.size ≤ w'.heap.size) : AdsAt w' v [] := by
  rcases h with h | ⟨g, off, cap, hv, hg, h1, h2, _⟩ | h
  · exact .inl h
  · exact .inr (.inl ⟨g, off, cap, hv, Nat.lt_of_lt_of_le hg hs, h1, h2, by simp⟩)
  · exact .inr (.inr h)
theorem ex_nil_up {w w' : World} {v : Value} (h : SlEx w v []) (hs : w.heap.size ≤ w'.heap.size) : SlEx w' v [] := by
  rcases h with (h | ⟨g, off, cap, hv, hg, h1, h2, _⟩) | h
  · exact .inl (.inl h)
  · exact .inl (.inr ⟨g, off, cap, hv, Nat.lt_of_lt_of_le hg hs, h1, h2, by simp⟩)
  · exact .inr h
theorem St.touch {w0 w w' : World} {N : List Nat} {O : List (Nat × TypeId × List Value)} {B : List (Value × List Value)} {g : Nat} (h : St w0 w N O B) (hf : Fr [g] w w') (h0 : w0.heap.size ≤ g) (hN : g ∉ N) (hO : g ∉ O.map (·.1)) (hB : ∀ p, p ∈ B → p.1.ownBlock ≠ some g) : St w0 w' N O B :=
  ⟨h.fr.step hf (fun k hk => .inr (by simp only [List.mem_singleton] at hk; subst hk; exact h0)), fun q hq => ⟨(h.nlo q hq).1, Nat.lt_of_lt_of_le (h.nlo q hq).2 hf.size⟩,
    fun p hp => ⟨(h.own p hp).1.fr hf (fun hm => by simp only [List.mem_singleton] at hm; exact hO (List.mem_map.2 ⟨p, hp, hm⟩)), (h.own p hp).2⟩, h.dis,
    fun p hp => ⟨(h.sl p hp).1.fr hf (fun q hq hm => by simp only [List.mem_singleton] at hm; subst hm; exact hB p hp hq), (h.sl p hp).2⟩⟩

set_option maxRecDepth 100000 in
set_option maxHeartbeats 1000000 in
theorem forged_1 (w : World) (a b nA nB : Nat) (k d : Nat) (PA : Hid (peer a)) (PB : Hid (peer b)) (NA : Hid (nonce nA)) (NB : Hid (nonce nB)) (hk : k < 256) (hd1 : 1 ≤ d) (hd2 : d < 256) (H1 : Hid (skMay a b nA = true)) (H2 : Hid (skMay b a nB = true)) (L1 : List En) (x : List UInt8) (EL : Hid (L1.length ≤ 10)) (EBAD : Hid (∀ j, j < 4 → skcheck L1 (forgedOf a b nA 1 j d) = false)) (E1 : Hid (called [] ⟨0, a, b, nA, 0⟩ = (⟨1, a, b, nA, 0⟩, (L1, x)))) (EF : Hid (mfrom x = some (helloOf a b nA 1))) (EC : Hid (skcheck L1 (helloOf a b nA 1) = true)) :
    Calls Try.prog 7 #[.agg #[.int .i64 a, .int .i64 b, .int .u64 nA, .int .u64 nB], .int .u8 k, .int .u8 d] w fun e w' => e = .returned (.bool true) ∧ Fr [] w w' := by
  go_enter Try.func7, Try.ntmps7
  have HS0 := Lib.hid (St.start w)
  go_wp2_with fail
  obtain ⟨gt, hgt⟩ : ∃ g, g = w.heap.size := ⟨_, rfl⟩
  obtain ⟨w1, hw⟩ : ∃ w1, w.alloc (.cells #[.int .i64 a, .int .i64 b, .int .u64 nA, .int .u64 nB] 42) = w1 := ⟨_, rfl⟩
  rw [hw, ← hgt]
  have hs := HS0.out.lay 42 [.int .i64 a, .int .i64 b, .int .u64 nA, .int .u64 nB]
  rw [hw, ← hgt] at hs
  have HS1 := Lib.hid hs
  clear hw hgt hs 
  go_wp2_with fail
  have hq := lw_awake w1
  have HQ := Lib.hid hq
  clear hq
  refine HQ.out.mono ?_
  clear HQ
  rintro e w2 ⟨rfl, hf⟩
  have HS2 := Lib.hid (HS1.out.grow hf)
  clear hf
  have qgt0 := ((HS2.out.cells 0 rfl)).cell 0
  have qgt1 := ((HS2.out.cells 0 rfl)).cell 1
  have qgt2 := ((HS2.out.cells 0 rfl)).cell 2
  have qgt3 := ((HS2.out.cells 0 rfl)).cell 3
  simp only [List.getElem?_cons_zero, List.getElem?_cons_succ] at qgt0 qgt1 qgt2 qgt3
  go_wp2_with fail
  have hq := sk_new w2 a b nA
  rw [skNew_ok H1.out] at hq
  have HQ := Lib.hid hq
  clear hq
  refine HQ.out.mono ?_
  clear HQ
  rintro e w3 ⟨rfl, hf⟩
  have HS3 := Lib.hid (HS2.out.grow hf)
  clear hf
  clear qgt0 qgt1 qgt2 qgt3
  have qgt0 := fun o => ((HS3.out.cells 0 rfl).alloc o).cell 0
  have qgt1 := fun o => ((HS3.out.cells 0 rfl).alloc o).cell 1
  have qgt2 := fun o => ((HS3.out.cells 0 rfl).alloc o).cell 2
  have qgt3 := fun o => ((HS3.out.cells 0 rfl).alloc o).cell 3
  simp only [List.getElem?_cons_zero, List.getElem?_cons_succ] at qgt0 qgt1 qgt2 qgt3
  go_wp2_with fail
  obtain ⟨ga, hga⟩ : ∃ g, g = w3.heap.size := ⟨_, rfl⟩
  obtain ⟨w4, hw⟩ : ∃ w1, w3.alloc (.cells #[.int .i64 0, .int .i64 a, .int .i64 b, .int .u64 nA, .int .u64 0] 46) = w1 := ⟨_, rfl⟩
  rw [hw, ← hga]
  have hs := HS3.out.lay 46 [.int .i64 0, .int .i64 a, .int .i64 b, .int .u64 nA, .int .u64 0]
  rw [hw, ← hga] at hs
  have HS4 := Lib.hid hs
  clear hw hga hs qgt0 qgt1 qgt2 qgt3
  go_wp2_with fail
  have hq := sk_new w4 b a nB
  rw [skNew_ok H2.out] at hq
  have HQ := Lib.hid hq
  clear hq
  refine HQ.out.mono ?_
  clear HQ
  rintro e w5 ⟨rfl, hf⟩
  have HS5 := Lib.hid (HS4.out.grow hf)
  clear hf
  have hd0 : ((d : Int) == 0) = false := by
    rw [beq_eq_false_iff_ne]
    omega
  go_wp2_with fail
  obtain ⟨gb, hgb⟩ : ∃ g, g = w5.heap.size := ⟨_, rfl⟩
  obtain ⟨w6, hw⟩ : ∃ w1, w5.alloc (.cells #[.int .i64 0, .int .i64 b, .int .i64 a, .int .u64 nB, .int .u64 0] 46) = w1 := ⟨_, rfl⟩
  rw [hw, ← hgb]
  have hs := HS5.out.lay 46 [.int .i64 0, .int .i64 b, .int .i64 a, .int .u64 nB, .int .u64 0]
  rw [hw, ← hgb] at hs
  have HS6 := Lib.hid hs
  clear hw hgb hs 
  go_wp2_with fail
  refine (not_new w6).mono ?_
  rintro e w7 ⟨rfl, hn, hf⟩
  have HN7 := Lib.hid hn
  have HS7 := Lib.hid (HS6.out.notary hn hf (by omega) (by omega))
  clear hn hf
  have qga0 := ((HS7.out.cells 1 rfl)).cell 0
  have qga1 := ((HS7.out.cells 1 rfl)).cell 1
  have qga2 := ((HS7.out.cells 1 rfl)).cell 2
  have qga3 := ((HS7.out.cells 1 rfl)).cell 3
  have qga4 := ((HS7.out.cells 1 rfl)).cell 4
  simp only [List.getElem?_cons_zero, List.getElem?_cons_succ] at qga0 qga1 qga2 qga3 qga4
  go_wp2_with fail
  clear qga0 qga1 qga2 qga3 qga4
  have hq := sk_call w7 (w6.heap.size + 1) w6.heap.size (.slice none 0 0) [] ⟨0, a, b, nA, 0⟩ ⟨by have := PA.out; have := PB.out; have := NA.out; have := NB.out; unfold peer nonce at *; dsimp only; omega, by have := PA.out; have := PB.out; have := NA.out; have := NB.out; unfold peer nonce at *; dsimp only; omega, by have := PA.out; have := PB.out; have := NA.out; have := NB.out; unfold peer nonce at *; dsimp only; omega, by have := PA.out; have := PB.out; have := NA.out; have := NB.out; unfold peer nonce at *; dsimp only; omega⟩ HN7.out (by simp)
  rw [E1.out] at hq
  have HQ := Lib.hid hq
  clear hq
  refine HQ.out.mono ?_
  clear HQ
  rintro e w8 ⟨v8, rfl, hs⟩
  obtain ⟨lv8, hn, hs⟩ := HS7.out.sent hs
  obtain ⟨ao8, c8, hv⟩ := sl_shape (hs.slice 0 rfl)
  rw [u8s_length] at hv
  subst hv
  have HN8 := Lib.hid hn
  have HS8 := Lib.hid hs
  clear hn hs
  unfold skV
  dsimp only
  go_wp2_with fail
  obtain ⟨gs, hgs⟩ : ∃ g, g = w8.heap.size := ⟨_, rfl⟩
  obtain ⟨w9, hw⟩ : ∃ w1, w8.alloc (.cells #[.int .i64 1, .int .i64 a, .int .i64 b, .int .u64 nA, .int .u64 0] 46) = w1 := ⟨_, rfl⟩
  rw [hw, ← hgs]
  have hs := HS8.out.lay 46 [.int .i64 1, .int .i64 a, .int .i64 b, .int .u64 nA, .int .u64 0]
  rw [hw, ← hgs] at hs
  have HS9 := Lib.hid hs
  have hn := HN8.out.fr (Fr.alloc w8 (.cells #[.int .i64 1, .int .i64 a, .int .i64 b, .int .u64 nA, .int .u64 0] 46) []) (by simp)
  rw [hw] at hn
  have HN9 := Lib.hid hn
  clear hn
  clear hw hgs hs 
  refine (wr_from w9 _ x (HS9.out.slice 0 rfl)).mono ?_
  rintro e w40 ⟨hg, hf⟩
  unfold FromGot at hg
  rw [EF.out] at hg
  obtain ⟨nv, av, bdv, rfl, hn2, ha2, hb2⟩ := hg
  obtain ⟨g, cn, rfl⟩ := ownsRow_succ (k := 3) hn2
  obtain ⟨aa, ac, hav⟩ := ads_shape (ads_of_own ha2)
  obtain ⟨ba, bc, hbv⟩ := sl_shape (sl_of_own hb2)
  have HM40 : Hid (MsgAt w40 (.slice (some ⟨g, 0, none⟩) (3 + 1) cn) av bdv (helloOf a b nA 1)) := ⟨(sl_of_own hn2).ex, ads_of_own ha2, (sl_of_own hb2).ex, mfrom_wf EF.out⟩
  have HO40 : Hid (w40.ownsRow w9.heap.size 40 1 (.slice (some ⟨g, 0, none⟩) 4 cn) 4 (u64s [a, b, nA, 1])) := hn2
  have hav' : av = .slice aa 0 ac := hav
  have hbv' : bdv = .slice ba 0 bc := hbv
  subst hav' hbv'
  clear hav hbv hn2 ha2 hb2
  have HS40 := Lib.hid (HS9.out.grow hf)
  have HN40 := Lib.hid (HN9.out.fr hf (by simp))
  clear hf
  unfold mgV helloOf
  go_wp2_with fail
  obtain ⟨gm, hgm⟩ : ∃ g, g = w40.heap.size := ⟨_, rfl⟩
  obtain ⟨w41, hw⟩ : ∃ w1, w40.alloc (.cells #[.int .i64 1, .slice (some ⟨g, 0, none⟩) 4 cn, .slice aa 0 ac, .slice ba 0 bc] 56) = w1 := ⟨_, rfl⟩
  rw [hw, ← hgm]
  have hs := HS40.out.lay 56 [.int .i64 1, .slice (some ⟨g, 0, none⟩) 4 cn, .slice aa 0 ac, .slice ba 0 bc]
  rw [hw, ← hgm] at hs
  have HS41 := Lib.hid hs
  have hn := HN40.out.fr (Fr.alloc w40 (.cells #[.int .i64 1, .slice (some ⟨g, 0, none⟩) 4 cn, .slice aa 0 ac, .slice ba 0 bc] 56) []) (by simp)
  rw [hw] at hn
  have HN41 := Lib.hid hn
  clear hn
  have hc := HM40.out.fr (Fr.alloc w40 (.cells #[.int .i64 1, .slice (some ⟨g, 0, none⟩) 4 cn, .slice aa 0 ac, .slice ba 0 bc] 56) []) (by simp) (by simp) (by simp)
  rw [hw] at hc
  have HM40' := Lib.hid hc
  clear hc
  have hc := own_fr HO40.out (Fr.alloc w40 (.cells #[.int .i64 1, .slice (some ⟨g, 0, none⟩) 4 cn, .slice aa 0 ac, .slice ba 0 bc] 56) []) (by simp)
  rw [hw] at hc
  have HO40' := Lib.hid hc
  clear hc
  clear hw hgm hs 
  go_wp2_with fail
  have hq := sk_check w41 (w6.heap.size + 1) w6.heap.size lv8 L1 (helloOf a b nA 1) _ _ _ HN41.out HM40'.out (by have := EL.out; omega)
  rw [EC.out] at hq
  unfold mgV helloOf at hq
  have HQ := Lib.hid hq
  clear hq
  refine HQ.out.mono ?_
  clear HQ
  rintro e w42 ⟨rfl, hf⟩
  have HS42 := Lib.hid (HS41.out.grow hf)
  have HN42 := Lib.hid (HN41.out.fr hf (by simp))
  have HM40'' := Lib.hid (HM40'.out.fr hf (by simp) (by simp) (by simp))
  have HO40'' := Lib.hid (own_fr HO40'.out hf (by simp))
  clear hf
  have qgm0 := ((HS42.out.cells 0 rfl)).cell 0
  have qgm1 := ((HS42.out.cells 0 rfl)).cell 1
  have qgm2 := ((HS42.out.cells 0 rfl)).cell 2
  have qgm3 := ((HS42.out.cells 0 rfl)).cell 3
  simp only [List.getElem?_cons_zero, List.getElem?_cons_succ] at qgm0 qgm1 qgm2 qgm3
  have hk0 : (0 : Int) ≤ (k : Int) := by omega
  have hk1 : (k : Int) ≤ 255 := by omega
  go_wp2_with fail
  rw [show ((k : Int) % 4) = ((k % 4 : Nat) : Int) from by omega]
  have hj : k % 4 < 4 := by omega
  generalize k % 4 = j at hj ⊢
  obtain ⟨xj, hxj⟩ : ∃ xj, [a, b, nA, 1][j]? = some xj := ⟨_, List.getElem?_eq_getElem hj⟩
  have hxb : xj ≤ 9223372036854775807 := by
    have h1 := PA.out
    have h2 := PB.out
    have h3 := NA.out
    unfold peer at h1 h2
    unfold nonce at h3
    have hm := List.mem_of_getElem? hxj
    simp only [List.mem_cons, List.not_mem_nil, or_false] at hm
    omega
  have HXJ := Lib.hid hxj
  have hcj : w42.cell? ⟨g, j, none⟩ = some (.int .u64 xj) := by
    have := (sl_of_own HO40''.out)
    rcases this with ⟨h, _⟩ | ⟨g', off', c', hv, _, _, _, h3⟩
    · cases h
    · simp at hv
      obtain ⟨⟨rfl, rfl⟩, -⟩ := hv
      have h4 := h3 j (by simpa [u64s] using hj)
      rw [Nat.zero_add] at h4
      rw [h4]
      simp only [u64s, List.getElem?_map, HXJ.out, Option.map_some]
  have hfz : w42.frozen? ⟨g, j, none⟩ = false := by
    obtain ⟨cur, hcur⟩ := own_type HO40''.out (g := g) rfl
    simp [World.frozen?, hcur]
  have hj0 : (0 : Int) ≤ (j : Int) := by omega
  have hj4 : (j : Int) < 4 := by omega
  have hd8 : IntKind.u64.wrap (d : Int) = (d : Int) := IntWalk.u64_in _ (by omega)
  have hsum : IntKind.u64.wrap ((xj : Int) + (d : Int)) = (xj : Int) + (d : Int) := IntWalk.u64_in _ (by omega)
  have hs0 : (0 : Int) ≤ (xj : Int) + (d : Int) := by omega
  clear hxj
  go_region
  go_wp2_with fail
  rw [show ((xj : Int) + (d : Int)) % 9223372036854775808 = (((xj + d) % 9223372036854775808 : Nat) : Int) from by omega]
  generalize hyj : (xj + d) % 9223372036854775808 = yj
  have HYJ := Lib.hid hyj
  clear hyj
  obtain ⟨w43, hw43⟩ : ∃ w43, w42.setCell ⟨g, j, none⟩ (.int .u64 (yj : Int)) = w43 := ⟨_, rfl⟩
  rw [hw43]
  have hfs : Fr [g] w42 w43 := by
    rw [← hw43]
    exact (Fr.refl _ _).cset _ _ (.inl (by simp))
  have HO43 : Hid (w43.ownsRow w9.heap.size 40 1 (.slice (some ⟨g, 0, none⟩) 4 cn) 4 (u64s ([a, b, nA, 1].set j yj))) := by
    rw [← hw43]
    exact own_set HO40''.out j yj
  have hge : w9.heap.size ≤ g := own_ge HO40''.out rfl
  have hgN : g ∉ NBlocks (w6.heap.size + 1) w6.heap.size lv8 := by
    intro hm
    have := (HS9.out.nlo g hm).2
    omega
  have HS43 := Lib.hid (HS42.out.touch hfs (Nat.le_trans HS9.out.fr.size hge) hgN (by
    intro hm
    obtain ⟨p, hp, hpg⟩ := List.mem_map.1 hm
    have hc := (HS42.out.own p hp).1
    obtain ⟨cur, hcur⟩ := own_type HO40''.out (g := g) rfl
    unfold Cells at hc
    rw [hpg, hcur] at hc
    simp only [List.mem_cons, List.not_mem_nil, or_false] at hp
    rcases hp with rfl | rfl | rfl | rfl | rfl <;> simp at hc) (by
    intro p hp hpg
    simp only [List.mem_cons, List.not_mem_nil, or_false] at hp
    subst hp
    have := sl_lt (HS9.out.slice 0 rfl) hpg
    omega))
  have HN43 := Lib.hid (HN42.out.fr hfs (by simpa using hgN))
  have HM43 : Hid (MsgAt w43 (.slice (some ⟨g, 0, none⟩) 4 cn) (.slice aa 0 ac) (.slice ba 0 bc) (forgedOf a b nA 1 j d)) := by
    refine ⟨?_, ads_nil_up HM40''.out.addrs hfs.size, ex_nil_up HM40''.out.body hfs.size, ?_⟩
    · have h := (sl_of_own HO43.out).ex
      rw [← HYJ.out] at h
      have h2 : [a, b, nA, 1].getD j 0 = xj := by simp [List.getD, HXJ.out]
      unfold forgedOf
      rw [h2]
      exact h
    · refine ⟨?_, by simp [forgedOf]⟩
      intro v hv
      rcases List.mem_or_eq_of_mem_set hv with hv | rfl
      · exact HM40''.out.wf.nums v hv
      · have := Nat.mod_lt ([a, b, nA, 1].getD j 0 + d) (show 0 < 9223372036854775808 by omega)
        omega
  clear hw43 hfs hcj hfz
  have EH : Hid (∀ args w, (callFunc 24 args).run Try.prog w = .ok (.enter 24 args) w) := enters_of Try.func24 (by kernel_rfl) rfl
  have EB : Hid (∀ args w, (callFunc 25 args).run Try.prog w = .ok (.enter 25 args) w) := enters_of Try.func25 (by kernel_rfl) rfl
  have EHR : Hid (heard L1 ⟨0, b, a, nB, 0⟩ (mbytes (forgedOf a b nA 1 j d)) = (⟨0, b, a, nB, 0⟩, (L1, []))) := forged_heard rfl (EBAD.out j hj)
  have HDD : Hid (Fr [] w43 w43.drew.drew) := (Fr.drew w43 []).trans (Fr.drew _ [])
  refine wp_region_ops (fun w' => ∃ lv, NotIn w' (w6.heap.size + 1) w6.heap.size lv L1 ∧ St w w' (NBlocks (w6.heap.size + 1) w6.heap.size lv) [(gm, 56, [.int .i64 1, .slice (some ⟨g, 0, none⟩) 4 cn, .slice aa 0 ac, .slice ba 0 bc]), (gs, 46, [.int .i64 1, .int .i64 a, .int .i64 b, .int .u64 nA, .int .u64 0]), (gb, 46, [.int .i64 0, .int .i64 b, .int .i64 a, .int .u64 nB, .int .u64 0]), (ga, 46, [.int .i64 0, .int .i64 a, .int .i64 b, .int .u64 nA, .int .u64 0]), (gt, 42, [.int .i64 a, .int .i64 b, .int .u64 nA, .int .u64 nB])] [((.slice ao8 (x).length c8), u8s x)] ∧ MsgAt w' (.slice (some ⟨g, 0, none⟩) 4 cn) (.slice aa 0 ac) (.slice ba 0 bc) (forgedOf a b nA 1 j d) ∧ w'.ownsRow w9.heap.size 40 1 (.slice (some ⟨g, 0, none⟩) 4 cn) 4 (u64s ([a, b, nA, 1].set j yj)) ∧ w43.heap.size ≤ w'.heap.size) (Rel [.int .i64 0, .int .i64 b, .int .i64 a, .int .u64 nB, .int .u64 0]) (fun i v w' => match i with
    | 0 => v = .agg #[.int .i64 0, .int .i64 b, .int .i64 a, .int .u64 nB, .int .u64 0]
    | 1 => v = (.pointer (some ⟨(w6.heap.size + 1), 0, none⟩))
    | 2 => v = .agg #[.int .i64 1, .slice (some ⟨g, 0, none⟩) 4 cn, .slice aa 0 ac, .slice ba 0 bc]
    | 3 => ByteRow w' v (mbytes (forgedOf a b nA 1 j d))
    | 4 => v = .tuple #[.agg #[.int .i64 0, .int .i64 b, .int .i64 a, .int .u64 nB, .int .u64 0], .slice none 0 0]
    | 5 => v = .tuple #[.agg #[.int .i64 0, .int .i64 b, .int .i64 a, .int .u64 nB, .int .u64 0], .slice none 0 0]
    | 6 => v = .agg #[.int .i64 0, .int .i64 b, .int .i64 a, .int .u64 nB, .int .u64 0]
    | 7 => v = .slice none 0 0
    | 8 => ∃ (r : Nat) (cur : Array Value), v = .pointer (some ⟨r, 0, none⟩) ∧ w'.heap[r]? = some (Obj.cells cur 46 (0, 0)) ∧ cur.size = 5 ∧ w43.heap.size ≤ r
    | 9 => ∃ r : Nat, v = .pointer (some ⟨r, 0, none⟩) ∧ w'.heap[r]? = some (Obj.cells ([.int .i64 0, .int .i64 b, .int .i64 a, .int .u64 nB, .int .u64 0] : List Value).toArray 46 (0, 0))
    | 10 => v = .slice none 0 0
    | _ => True) (by kernel_rfl) (by kernel_rfl) (by kernel_rfl) ⟨lv8, HN43.out.fr HDD.out (by simp), HS43.out.grow HDD.out, HM43.out.fr HDD.out (by simp) (by simp) (by simp), own_fr HO43.out HDD.out (by simp), HDD.out.size⟩ ?_ ?_ ?_
  · intro i v w1 w2 _ hR hF
    split at hF
    all_goals first
      | exact hF
      | exact hF.rel hR
      | (obtain ⟨r, cur, h1, h2, h3, h4⟩ := hF
         obtain ⟨cur', k1, k2⟩ := hR.shake r cur h2
         exact ⟨r, cur', h1, k1, k2.trans h3, h4⟩)
      | (obtain ⟨r, h1, h2⟩ := hF
         exact ⟨r, h1, (hR.kept r h2).trans h2⟩)
  · refine ⟨?_, ?_, ?_, ?_, ?_, ?_, ?_, ?_, ?_, ?_, ?_, trivial⟩
    · intro a' w' hJ hd hk hf
      have hJ0 := hJ
      obtain ⟨lv', hn', hs', hm', ho', hz'⟩ := hJ
      have q0 := (hs'.cells 2 rfl).cell 0
      have q1 := (hs'.cells 2 rfl).cell 1
      have q2 := (hs'.cells 2 rfl).cell 2
      have q3 := (hs'.cells 2 rfl).cell 3
      have q4 := (hs'.cells 2 rfl).cell 4
      simp only [List.getElem?_cons_zero, List.getElem?_cons_succ] at q0 q1 q2 q3 q4
      have hJ := hJ0
      have e9 : a'.tmps[9]?.getD undef = .pointer (some ⟨gb, 0, none⟩) := hk 9 rfl
      rw [if_pos (show Region.wanted _ _ = true from rfl)]
      unfold Oper.wp
      simp [go_sem, e9, q0, q1, q2, q3, q4]
      exact ⟨_, rfl, hJ, Rel.refl _ _, rfl⟩
    · intro a' w' hJ hd hk hf
      have e11 : a'.tmps[11]?.getD undef = (.pointer (some ⟨(w6.heap.size + 1), 0, none⟩)) := hk 11 rfl
      rw [if_pos (show Region.wanted _ _ = true from rfl)]
      unfold Oper.wp
      simp [go_sem, e11]
      exact ⟨_, rfl, hJ, Rel.refl _ _, rfl⟩
    · intro a' w' hJ hd hk hf
      have hJ0 := hJ
      obtain ⟨lv', hn', hs', hm', ho', hz'⟩ := hJ
      have q0 := (hs'.cells 0 rfl).cell 0
      have q1 := (hs'.cells 0 rfl).cell 1
      have q2 := (hs'.cells 0 rfl).cell 2
      have q3 := (hs'.cells 0 rfl).cell 3
      simp only [List.getElem?_cons_zero, List.getElem?_cons_succ] at q0 q1 q2 q3
      have hJ := hJ0
      have e14 : a'.tmps[14]?.getD undef = .pointer (some ⟨gm, 0, none⟩) := hk 14 rfl
      rw [if_pos (show Region.wanted _ _ = true from rfl)]
      unfold Oper.wp
      simp [go_sem, e14, q0, q1, q2, q3]
      exact ⟨_, rfl, hJ, Rel.refl _ _, rfl⟩
    · intro a' w' hJ hd hk hf
      obtain ⟨lv', hn', hs', hm', ho', hz'⟩ := hJ
      have f2 : a'.tmps[93]?.getD undef = .agg #[.int .i64 1, .slice (some ⟨g, 0, none⟩) 4 cn, .slice aa 0 ac, .slice ba 0 bc] := hf 2 _ rfl rfl
      rw [if_pos (show Region.wanted _ _ = true from rfl)]
      refine call_step 25 #[.tmp 93] _ rfl EB.out #[.agg #[.int .i64 1, .slice (some ⟨g, 0, none⟩) 4 cn, .slice aa 0 ac, .slice ba 0 bc]] (by simp only [List.map_cons, List.map_nil, Act.eval, Array.getD_eq_getD_getElem?]; rw [f2]) (wr_bytes w' (forgedOf a b nA 1 j d) _ _ _ hm') ?_
      rintro e w2 ⟨⟨v2, rfl, ho2, _⟩, hf2⟩
      exact ⟨v2, rfl, v2, rfl, ⟨lv', hn'.fr hf2 (by simp), hs'.grow hf2, hm'.fr hf2 (by simp) (by simp) (by simp), own_fr ho' hf2 (by simp), Nat.le_trans hz' hf2.size⟩, Rel.of_new hf2, ByteRow.of_own ho2⟩
    · intro a' w' hJ hd hk hf
      obtain ⟨lv', hn', hs', hm', ho', hz'⟩ := hJ
      have f0 : a'.tmps[91]?.getD undef = .agg #[.int .i64 0, .int .i64 b, .int .i64 a, .int .u64 nB, .int .u64 0] := hf 0 _ rfl rfl
      have f1 : a'.tmps[92]?.getD undef = (.pointer (some ⟨(w6.heap.size + 1), 0, none⟩)) := hf 1 _ rfl rfl
      have f3 : ByteRow w' (a'.tmps[94]?.getD undef) (mbytes (forgedOf a b nA 1 j d)) := hf 3 _ rfl rfl
      rw [if_pos (show Region.wanted _ _ = true from rfl)]
      refine call_step 24 #[.tmp 91, .tmp 92, .tmp 94] _ rfl EH.out #[skV ⟨0, b, a, nB, 0⟩, (.pointer (some ⟨(w6.heap.size + 1), 0, none⟩)), a'.tmps[94]?.getD undef] (by simp only [List.map_cons, List.map_nil, Act.eval, Array.getD_eq_getD_getElem?]; rw [f0, f1]; rfl) (sk_hear w' (w6.heap.size + 1) w6.heap.size lv' L1 ⟨0, b, a, nB, 0⟩ _ (mbytes (forgedOf a b nA 1 j d)) ⟨by have := PA.out; have := PB.out; have := NA.out; have := NB.out; unfold peer nonce at *; dsimp only; omega, by have := PA.out; have := PB.out; have := NA.out; have := NB.out; unfold peer nonce at *; dsimp only; omega, by have := PA.out; have := PB.out; have := NA.out; have := NB.out; unfold peer nonce at *; dsimp only; omega, by have := PA.out; have := PB.out; have := NA.out; have := NB.out; unfold peer nonce at *; dsimp only; omega⟩ hn' f3.sl.ex (by have := EL.out; omega)) ?_
      rw [EHR.out]
      rintro e w2 ⟨v2, rfl, hs2⟩
      obtain rfl : v2 = .slice none 0 0 := hs2.2.1.2 rfl
      have hgn := hn'.not_u64 ho'
      obtain ⟨lv2, hn2, hs3⟩ := hs'.sent hs2
      exact ⟨_, rfl, _, rfl, ⟨lv2, hn2, hs3.dropB, ⟨hm'.nums.fr hs2.2.2.1 (fun q hq => hgn q hq), ads_nil_up hm'.addrs hs2.2.2.1.size, ex_nil_up hm'.body hs2.2.2.1.size, hm'.wf⟩, own_fr ho' hs2.2.2.1 (fun q hq => hgn q hq), Nat.le_trans hz' hs2.2.2.1.size⟩, Rel.of_sent hs2 hn', rfl⟩
    · intro a' w' hJ hd hk hf
      have f4 : a'.tmps[95]?.getD undef = .tuple #[.agg #[.int .i64 0, .int .i64 b, .int .i64 a, .int .u64 nB, .int .u64 0], .slice none 0 0] := hf 4 _ rfl rfl
      rw [if_pos (show Region.wanted _ _ = true from rfl)]
      unfold Oper.wp
      simp [go_sem, f4]
      exact ⟨_, rfl, hJ, Rel.refl _ _, rfl⟩
    · intro a' w' hJ hd hk hf
      have f5 : a'.tmps[90]?.getD undef = .tuple #[.agg #[.int .i64 0, .int .i64 b, .int .i64 a, .int .u64 nB, .int .u64 0], .slice none 0 0] := hf 5 _ rfl rfl
      rw [if_pos (show Region.wanted _ _ = true from rfl)]
      unfold Oper.wp
      simp [go_sem, f5]
      exact ⟨_, rfl, hJ, Rel.refl _ _, rfl⟩
    · intro a' w' hJ hd hk hf
      have f5 : a'.tmps[90]?.getD undef = .tuple #[.agg #[.int .i64 0, .int .i64 b, .int .i64 a, .int .u64 nB, .int .u64 0], .slice none 0 0] := hf 5 _ rfl rfl
      rw [if_pos (show Region.wanted _ _ = true from rfl)]
      unfold Oper.wp
      simp [go_sem, f5]
      exact ⟨_, rfl, hJ, Rel.refl _ _, rfl⟩
    · intro a' w' hJ hd hk hf
      obtain ⟨lv', hn', hs', hm', ho', hz'⟩ := hJ
      rw [if_pos (show Region.wanted _ _ = true from rfl)]
      unfold Oper.wp
      simp [go_sem]
      have hf2 := Fr.alloc w' (.cells #[.int .i64 0, .int .i64 0, .int .i64 0, .int .u64 0, .int .u64 0] 46) []
      exact ⟨_, rfl, ⟨lv', hn'.fr hf2 (by simp), hs'.grow hf2, hm'.fr hf2 (by simp) (by simp) (by simp), own_fr ho' hf2 (by simp), Nat.le_succ_of_le hz'⟩, Rel.of_new hf2, _, rfl, _, heap_alloc_new w' _, rfl, hz'⟩
    · intro a' w' hJ hd hk hf
      obtain ⟨lv', hn', hs', hm', ho', hz'⟩ := hJ
      have f6 : a'.tmps[96]?.getD undef = .agg #[.int .i64 0, .int .i64 b, .int .i64 a, .int .u64 nB, .int .u64 0] := hf 6 _ rfl rfl
      obtain ⟨r, cur, f8, h1, h2, h3⟩ : ∃ (r : Nat) (cur : Array Value), a'.tmps[17]?.getD undef = .pointer (some ⟨r, 0, none⟩) ∧ w'.heap[r]? = some (Obj.cells cur 46 (0, 0)) ∧ cur.size = 5 ∧ w43.heap.size ≤ r := hf 8 _ rfl rfl
      rw [if_pos (show Region.wanted _ _ = true from rfl)]
      refine wp_store_row 46 (.tmp 17) (.tmp 96) rfl r #[.int .i64 0, .int .i64 b, .int .i64 a, .int .u64 nB, .int .u64 0] (by simp only [Act.eval, Array.getD_eq_getD_getElem?]; rw [f8]) (by simp only [Act.eval, Array.getD_eq_getD_getElem?]; rw [f6]) 46 cur h1 (by kernel_rfl) (by simp [h2]) (by simp [Value.oneCell']) ?_
      have hc : Cells (w'.setRow r #[.int .i64 0, .int .i64 b, .int .i64 a, .int .u64 nB, .int .u64 0]) r 46 [.int .i64 0, .int .i64 b, .int .i64 a, .int .u64 nB, .int .u64 0] := setRow_heap w' r cur _ _ (0, 0) h1
      have hfr : Fr [r] w' (w'.setRow r #[.int .i64 0, .int .i64 b, .int .i64 a, .int .u64 nB, .int .u64 0]) := (Fr.refl _ _).crow _ _ (by left; simp)
      have hrN : r ∉ NBlocks (w6.heap.size + 1) w6.heap.size lv' := hn'.not_sk h1
      have hrg : g ≠ r := by
        rintro rfl
        obtain ⟨c2, hc2⟩ := own_type ho' (g := g) rfl
        rw [h1] at hc2
        simp at hc2
      refine ⟨undef, rfl, ⟨lv', hn'.fr hfr (by simpa using hrN), hs'.touch hfr (Nat.le_trans HS43.out.fr.size h3) hrN ?_ ?_, ⟨hm'.nums.fr hfr ?_, ads_nil_up hm'.addrs hfr.size, ex_nil_up hm'.body hfr.size, hm'.wf⟩, own_fr ho' hfr ?_, Nat.le_trans hz' hfr.size⟩, Rel.of_store h1 h2 hfr hc, r, f8, hc⟩
      · intro hm
        obtain ⟨p, hp, hpr⟩ := List.mem_map.1 hm
        have := (HS43.out.own p hp).1.lt
        omega
      · intro p hp hpr
        have := sl_lt (HS43.out.sl p hp).1 hpr
        omega
      · intro q hq
        simp only [Value.ownBlock, Option.some.injEq] at hq
        subst hq
        simpa using hrg
      · intro q hq
        simp only [Value.ownBlock, Option.some.injEq] at hq
        subst hq
        simpa using hrg
    · intro a' w' hJ hd hk hf
      have f7 : a'.tmps[97]?.getD undef = .slice none 0 0 := hf 7 _ rfl rfl
      rw [if_pos (show Region.wanted _ _ = true from rfl)]
      unfold Oper.wp
      simp [go_sem, f7]
      exact ⟨_, rfl, hJ, Rel.refl _ _, rfl⟩
  · intro a' w' hJ hF
    obtain ⟨lv', hn', hs', hm', ho', hz'⟩ := hJ
    have HN44 := Lib.hid hn'
    have HS44 := Lib.hid hs'
    have HM44 := Lib.hid hm'
    obtain ⟨g0, g1, g2, g3, g4, g5, g6, g7, g8, g9, g10, -⟩ := hF
    obtain ⟨r, f17, hx⟩ : ∃ r : Nat, a'.tmps[17]?.getD undef = .pointer (some ⟨r, 0, none⟩) ∧ w'.heap[r]? = some (Obj.cells ([.int .i64 0, .int .i64 b, .int .i64 a, .int .u64 nB, .int .u64 0] : List Value).toArray 46 (0, 0)) := g9
    have HX44 : Hid (Cells w' r 46 [.int .i64 0, .int .i64 b, .int .i64 a, .int .u64 nB, .int .u64 0]) := hx
    have f18 : a'.tmps[18]?.getD undef = .slice none 0 0 := g10
    clear hn' hs' hm' ho' hz' hx g0 g1 g2 g3 g4 g5 g6 g7 g8 g10
    simp only [putTmps, List.setIfInBounds_toArray, List.set_cons_succ, List.set_cons_zero]
    rw [f17, f18]
    clear f17 f18
    generalize a'.tmps[90]?.getD undef = x90
    generalize a'.tmps[91]?.getD undef = x91
    generalize a'.tmps[92]?.getD undef = x92
    generalize a'.tmps[93]?.getD undef = x93
    generalize a'.tmps[94]?.getD undef = x94
    generalize a'.tmps[95]?.getD undef = x95
    generalize a'.tmps[96]?.getD undef = x96
    generalize a'.tmps[97]?.getD undef = x97
    clear a'
    have heq : ∀ W, (Op.equalIn 10000 46 (.agg #[.int .i64 0, .int .i64 b, .int .i64 a, .int .u64 nB, .int .u64 0]) (.agg #[.int .i64 0, .int .i64 b, .int .i64 a, .int .u64 nB, .int .u64 0])).run Try.prog W = .ok true W := fun W => by
      have := run_eq_sk' 9998 ⟨0, b, a, nB, 0⟩ ⟨0, b, a, nB, 0⟩ W
      simpa using this
    have hgd : Try.prog.eqGuardType Try.prog.depth 46 = false := by kernel_rfl
    have q0 := (HS44.out.cells 0 rfl).cell 0
    have q1 := (HS44.out.cells 0 rfl).cell 1
    have q2 := (HS44.out.cells 0 rfl).cell 2
    have q3 := (HS44.out.cells 0 rfl).cell 3
    simp only [List.getElem?_cons_zero, List.getElem?_cons_succ] at q0 q1 q2 q3
    have hq := sk_check w' (w6.heap.size + 1) w6.heap.size lv' L1 (forgedOf a b nA 1 j d) _ _ _ HN44.out HM44.out (by have := EL.out; omega)
    rw [EBAD.out j hj] at hq
    unfold mgV forgedOf at hq
    have HQ := Lib.hid hq
    clear hq
    go_wp2_with fail
    refine HQ.out.mono ?_
    clear HQ q0 q1 q2 q3
    rintro e w45 ⟨rfl, hf⟩
    have HS45 := Lib.hid (HS44.out.grow hf)
    have HX45 := Lib.hid (HX44.out.fr hf (by simp))
    clear hf
    have q0 := (HS45.out.cells 2 rfl).cell 0
    have q1 := (HS45.out.cells 2 rfl).cell 1
    have q2 := (HS45.out.cells 2 rfl).cell 2
    have q3 := (HS45.out.cells 2 rfl).cell 3
    have q4 := (HS45.out.cells 2 rfl).cell 4
    have p0 := HX45.out.cell 0
    have p1 := HX45.out.cell 1
    have p2 := HX45.out.cell 2
    have p3 := HX45.out.cell 3
    have p4 := HX45.out.cell 4
    simp only [List.getElem?_cons_zero, List.getElem?_cons_succ] at q0 q1 q2 q3 q4 p0 p1 p2 p3 p4
    go_wp2_with fail
    go_ret
    exact ⟨rfl, HS45.out.fr⟩
end Go.Proofs.Ytjfmgpelkhgodaa
