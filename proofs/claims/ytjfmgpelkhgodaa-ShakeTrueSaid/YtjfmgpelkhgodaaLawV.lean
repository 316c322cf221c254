/- The walk of ShakeTrue, where nothing is done; small words. -/
import Derived.Test.YtjfmgpelkhgodaaSep
import Derived.Test.YtjfmgpelkhgodaaRegSets
import Derived.Test.YtjfmgpelkhgodaaLawT
import Derived.Test.YtjfmgpelkhgodaaLawH
import Derived.Test.YtjfmgpelkhgodaaSmall
import Derived.BigRegion
namespace Go.Proofs.Ytjfmgpelkhgodaa
open Go.RowKit
attribute [local go_sem ↓ high] run_min_whole run_max_whole

/-- A sent message: its value, its bytes. -/
def sIt (p : Value × List UInt8) : It := slI p.1 (u8s p.2)
theorem own_cell1 {w : World} {base : Nat} {e : TypeId} {n c : Nat} {ao : Option Addr} {xs : List Value} (h : w.ownsRow base e 1 (.slice ao n c) n xs) {j : Nat} (hj : j < n) : ∃ g, ao = some ⟨g, 0, none⟩ ∧ w.cell? ⟨g, j, none⟩ = xs[j]? := by
  rcases h.2 with ⟨h2, h3⟩ | ⟨g, cap, cur, hv, _, hg, h1, h2, h3, h4⟩
  · cases h2
    omega
  · cases hv
    refine ⟨g, rfl, ?_⟩
    rw [cell_of_row w g j cur e (0, 0) hg, ← h4, List.getElem?_take, if_pos (by omega)]
    simp
theorem Sep.nil0 {S0 : List Nat} {w0 w : World} {I B : List It} (h : Sep S0 w0 w I B) : Sep S0 w0 w I (slI (.slice none 0 0) (u8s []) :: B) :=
  h.newB (Fr.refl _ _) (n := slI (.slice none 0 0) (u8s [])) (SlAt.nil _) (by simp [slI, Value.ownBlock])
theorem Sep.nil1 {S0 : List Nat} {w0 w : World} {I B : List It} {x : It} (h : Sep S0 w0 w I (x :: B)) : Sep S0 w0 w I (x :: slI (.slice none 0 0) (u8s []) :: B) :=
  h.nil0.keepB (by
    intro b hb
    simp only [List.mem_cons] at hb ⊢
    rcases hb with h | h | h
    · exact .inr (.inl h)
    · exact .inl h
    · exact .inr (.inr h))
theorem Sep.minted {S0 : List Nat} {w0 w w' : World} {I B : List It} (h : Sep S0 w0 w I B) (k : Nat) {nb mb : Nat} {lv : Value} {L : List En} {p : Int} {t : List UInt8} {e : Ending} (hk : I[k]? = some (notI nb mb lv L)) (hm : Minted w w' nb mb lv L p t e) :
    e = .returned (.tuple #[.int .u64 (mint L p t).2.1, .int .i64 (mint L p t).2.2]) ∧ ∃ lv', Sep S0 w0 w' (I.set k (notI nb mb lv' (mint L p t).1)) B := by
  obtain ⟨h1, h2, lv', h3, h4⟩ := hm
  refine ⟨h1, lv', h.upd k hk (n := notI nb mb lv' (mint L p t).1) h2 h3 ?_⟩
  intro q hq
  have hq : q ∈ NBlocks nb mb lv' := hq
  show q ∈ NBlocks nb mb lv ∨ _
  simp only [NBlocks, List.mem_cons, Option.mem_toList] at hq ⊢
  rcases hq with hq | hq | hq
  · exact .inl (.inl hq)
  · exact .inl (.inr (.inl hq))
  · rcases h4 q hq with h6 | h6
    · exact .inl (.inr (.inr h6))
    · exact .inr h6
theorem Try.info_bytes : (Try.prog.info? 52).map (fun i => (i.zero, i.size, i.bytes)) = some (some (.slice none 0 0), 1, 24) := by kernel_rfl
/-- What is sent is kept. -/
theorem Sep.sentX {w0 w : World} {S0 : List Nat} {I B : List It} {T : TypeId} {v xv : Value} {S : List (Value × List UInt8)} {X : List UInt8} (h : Sep S0 w0 w (rowI T 1 v (S.length + 1) (S.map (·.1) ++ [xv]) :: I) B) (hB : ∀ b, b ∈ slI xv (u8s X) :: S.map sIt → b ∈ B) :
    Sep S0 w0 w (rowI T 1 v (S ++ [(xv, X)]).length ((S ++ [(xv, X)]).map (·.1)) :: I) ((S ++ [(xv, X)]).map sIt) := by
  have h1 := h.keepB (B' := (S ++ [(xv, X)]).map sIt) (by
    intro b hb
    rw [List.map_append, List.mem_append] at hb
    refine hB b ?_
    rcases hb with hb | hb
    · exact List.mem_cons_of_mem _ hb
    · simp only [List.map_cons, List.map_nil, List.mem_singleton] at hb
      subst hb
      exact List.mem_cons_self ..)
  rw [List.map_append, List.length_append]
  exact h1
/-- An own row of bytes is apart from what is of another type. -/
theorem u8_cells {w : World} {v : Value} {l : List UInt8} {g : Nat} {T : TypeId} {cs : List Value} (h : ByteRow w v l) (hc : Cells w g T cs) (hT : T ≠ 5) : Apart (slI v (u8s l)) (cellsI g T cs) := by
  intro q h1 h2
  obtain ⟨cur, hg⟩ := own_type h (by simpa [slI] using h1)
  have h2 : q = g := by simpa [cellsI] using h2
  subst h2
  unfold Cells at hc
  rw [hc] at hg
  simp only [Option.some.injEq, Obj.cells.injEq] at hg
  exact hT hg.2.1
theorem u8_row {w : World} {v v2 : Value} {l : List UInt8} {T : TypeId} {size n : Nat} {xs : List Value} (h : ByteRow w v l) (hc : w.ownsRow 0 T size v2 n xs) (hT : T ≠ 5) : Apart (slI v (u8s l)) (rowI T size v2 n xs) := by
  intro q h1 h2
  obtain ⟨cur, hg⟩ := own_type h (by simpa [slI] using h1)
  obtain ⟨cur2, hg2⟩ := own_type hc (by simpa [rowI] using h2)
  rw [hg2] at hg
  simp only [Option.some.injEq, Obj.cells.injEq] at hg
  exact hT hg.2.1
theorem u8_not {w : World} {v : Value} {l : List UInt8} {nb mb : Nat} {lv : Value} {L : List En} (h : ByteRow w v l) (hN : NotIn w nb mb lv L) : Apart (slI v (u8s l)) (notI nb mb lv L) := by
  intro q h1 hm
  obtain ⟨cur, hg⟩ := own_type h (by simpa [slI] using h1)
  have hm : q ∈ NBlocks nb mb lv := hm
  simp only [NBlocks, List.mem_cons, Option.mem_toList] at hm
  rcases hm with rfl | rfl | hm
  · have hc := hN.cells
    unfold Cells at hc
    rw [hc] at hg
    simp at hg
  · rw [hN.map] at hg
    cases hg
  · obtain ⟨cur', hc⟩ := own_type hN.list hm
    rw [hc] at hg
    simp at hg
theorem Sep.addB {S0 : List Nat} {w0 w : World} {I B : List It} {b : It} (h : Sep S0 w0 w I B) (hb : b.ok w) (ha : ∀ i, i ∈ I → Apart b i) : Sep S0 w0 w I (b :: B) := by
  refine ⟨h.fr, h.ok, h.lo, h.dis, fun c hc => ?_⟩
  rcases List.mem_cons.1 hc with rfl | hc
  · exact ⟨hb, ha⟩
  · exact h.rd c hc
theorem BytesKept.of_cells {w w' : World} {g : Nat} {T : TypeId} {cs : List Value} (hc : Cells w g T cs) (hT : T ≠ 5) (hf : Fr [g] w w') : BytesKept w w' := by
  refine ⟨hf.size, fun q cur hq => hf.block q (Array.getElem?_eq_some_iff.1 hq).1 fun hm => ?_⟩
  simp only [List.mem_singleton] at hm
  subst hm
  unfold Cells at hc
  rw [hc] at hq
  simp only [Option.some.injEq, Obj.cells.injEq] at hq
  exact hT hq.2.1
theorem BytesKept.of_new {w w' : World} (hf : Fr [] w w') : BytesKept w w' := ⟨hf.size, fun q _ hq => hf.block q (Array.getElem?_eq_some_iff.1 hq).1 (by simp)⟩
theorem small_bs {d : Dx} (h : smallOne d = true) : d.bs.length ≤ 300 := by
  simp only [smallOne, Bool.and_eq_true, decide_eq_true_eq] at h
  exact h.1
def shCells (s : Sk) : List Value := [.int .i64 s.state, .int .i64 s.own, .int .i64 s.other, .int .u64 s.nonce, .int .u64 s.echo]
/-- Behind what a step does: X and Y are sent. -/
def TrueMid (w : World) (a b nA nB i : Nat) (s : TS) (nb mb gb ga : Nat) (row gt : It) (B : List It) (v14 v15 : Value) (wx : World) : Prop :=
  ∃ (sa sb : Sk) (L : List En) (X Y : List UInt8) (lv : Value), TMid a b nA nB i s sa sb L X Y ∧ (∃ c d, v14 = .slice c X.length d) ∧ (∃ c d, v15 = .slice c Y.length d) ∧
    Sep [] w wx [row, notI nb mb lv L, cellsI gb 46 (shCells sb), cellsI ga 46 (shCells sa), gt] (slI v14 (u8s X) :: slI v15 (u8s Y) :: B)

set_option maxRecDepth 100000 in
set_option maxHeartbeats 2000000 in
theorem true_big (w : World) (A B : Int) (nA nB : Nat) (ao : Option Addr) (cap : Nat) (D : List Dx) (HD : Hid (DosAt w (.slice ao D.length cap) D)) (HSM : Hid (smallAll D = false)) :
    Calls Try.prog 6 #[.agg #[.int .i64 A, .int .i64 B, .int .u64 nA, .int .u64 nB], .slice ao D.length cap] w fun e w' => e = .returned (.bool true) ∧ Fr [] w w' := by
  go_enter Try.func6, Try.ntmps6
  have HS0 := Lib.hid (Sep.start [] w)
  go_wp2_with fail
  obtain ⟨gt, hgt⟩ : ∃ g, g = w.heap.size := ⟨_, rfl⟩
  obtain ⟨w1, hw⟩ : ∃ w1, w.alloc (.cells #[.int .i64 A, .int .i64 B, .int .u64 nA, .int .u64 nB] 42) = w1 := ⟨_, rfl⟩
  rw [hw, ← hgt]
  have hs := HS0.out.lay 42 [.int .i64 A, .int .i64 B, .int .u64 nA, .int .u64 nB]
  rw [hw, ← hgt] at hs
  have HS1 := Lib.hid hs
  clear hw hgt hs
  go_wp2_with fail
  have hq := lw_awake w1
  have HQ := Lib.hid hq
  clear hq
  refine HQ.out.mono ?_
  clear HQ
  rintro e w2 ⟨rfl, hf⟩
  have HS2 := Lib.hid (HS1.out.grow hf)
  clear hf
  go_wp2_with fail
  have hq := lw_small w2 _ D (HD.out.fr HS2.out.fr)
  rw [HSM.out] at hq
  have HQ := Lib.hid hq
  clear hq
  refine HQ.out.mono ?_
  clear HQ
  rintro e w3 ⟨rfl, hf⟩
  have HS3 := Lib.hid (HS2.out.grow hf)
  clear hf
  go_wp2_with fail
  go_ret
  exact ⟨rfl, HS3.out.fr⟩

set_option maxRecDepth 100000 in
set_option maxHeartbeats 2000000 in
theorem true_ff (w : World) (A B : Int) (nA nB : Nat) (ao : Option Addr) (cap : Nat) (D : List Dx) (HD : Hid (DosAt w (.slice ao D.length cap) D)) (HSM : Hid (smallAll D = true)) (H1 : Hid (skMay A B nA = false)) (H2 : Hid (skMay B A nB = false)) :
    Calls Try.prog 6 #[.agg #[.int .i64 A, .int .i64 B, .int .u64 nA, .int .u64 nB], .slice ao D.length cap] w fun e w' => e = .returned (.bool true) ∧ Fr [] w w' := by
  go_enter Try.func6, Try.ntmps6
  have HS0 := Lib.hid (Sep.start [] w)
  go_wp2_with fail
  obtain ⟨gt, hgt⟩ : ∃ g, g = w.heap.size := ⟨_, rfl⟩
  obtain ⟨w1, hw⟩ : ∃ w1, w.alloc (.cells #[.int .i64 A, .int .i64 B, .int .u64 nA, .int .u64 nB] 42) = w1 := ⟨_, rfl⟩
  rw [hw, ← hgt]
  have hs := HS0.out.lay 42 [.int .i64 A, .int .i64 B, .int .u64 nA, .int .u64 nB]
  rw [hw, ← hgt] at hs
  have HS1 := Lib.hid hs
  clear hw hgt hs
  go_wp2_with fail
  have hq := lw_awake w1
  have HQ := Lib.hid hq
  clear hq
  refine HQ.out.mono ?_
  clear HQ
  rintro e w2 ⟨rfl, hf⟩
  have HS2 := Lib.hid (HS1.out.grow hf)
  clear hf
  go_wp2_with fail
  have hq := lw_small w2 _ D (HD.out.fr HS2.out.fr)
  rw [HSM.out] at hq
  have HQ := Lib.hid hq
  clear hq
  refine HQ.out.mono ?_
  clear HQ
  rintro e w3 ⟨rfl, hf⟩
  have HS3 := Lib.hid (HS2.out.grow hf)
  clear hf
  have qgt0 := ((HS3.out.cells 0 rfl)).cell 0
  have qgt1 := ((HS3.out.cells 0 rfl)).cell 1
  have qgt2 := ((HS3.out.cells 0 rfl)).cell 2
  have qgt3 := ((HS3.out.cells 0 rfl)).cell 3
  simp only [List.getElem?_cons_zero, List.getElem?_cons_succ] at qgt0 qgt1 qgt2 qgt3
  go_wp2_with fail
  clear qgt0 qgt1 qgt2 qgt3
  have hq := sk_new w3 A B nA
  rw [skNew_no H1.out] at hq
  have HQ := Lib.hid hq
  clear hq
  refine HQ.out.mono ?_
  clear HQ
  rintro e w4 ⟨rfl, hf⟩
  have HS4 := Lib.hid (HS3.out.grow hf)
  clear hf
  have qgt0 := fun o => ((HS4.out.cells 0 rfl).alloc o).cell 0
  have qgt1 := fun o => ((HS4.out.cells 0 rfl).alloc o).cell 1
  have qgt2 := fun o => ((HS4.out.cells 0 rfl).alloc o).cell 2
  have qgt3 := fun o => ((HS4.out.cells 0 rfl).alloc o).cell 3
  simp only [List.getElem?_cons_zero, List.getElem?_cons_succ] at qgt0 qgt1 qgt2 qgt3
  go_wp2_with fail
  obtain ⟨ga, hga⟩ : ∃ g, g = w4.heap.size := ⟨_, rfl⟩
  obtain ⟨w5, hw⟩ : ∃ w1, w4.alloc (.cells #[.int .i64 0, .int .i64 0, .int .i64 0, .int .u64 0, .int .u64 0] 46) = w1 := ⟨_, rfl⟩
  rw [hw, ← hga]
  have hs := HS4.out.lay 46 [.int .i64 0, .int .i64 0, .int .i64 0, .int .u64 0, .int .u64 0]
  rw [hw, ← hga] at hs
  have HS5 := Lib.hid hs
  clear hw hga hs
  clear qgt0 qgt1 qgt2 qgt3
  have qgt0 := ((HS5.out.cells 1 rfl)).cell 0
  have qgt1 := ((HS5.out.cells 1 rfl)).cell 1
  have qgt2 := ((HS5.out.cells 1 rfl)).cell 2
  have qgt3 := ((HS5.out.cells 1 rfl)).cell 3
  simp only [List.getElem?_cons_zero, List.getElem?_cons_succ] at qgt0 qgt1 qgt2 qgt3
  go_wp2_with fail
  clear qgt0 qgt1 qgt2 qgt3
  have hq := sk_new w5 B A nB
  rw [skNew_no H2.out] at hq
  have HQ := Lib.hid hq
  clear hq
  refine HQ.out.mono ?_
  clear HQ
  rintro e w6 ⟨rfl, hf⟩
  have HS6 := Lib.hid (HS5.out.grow hf)
  clear hf
  go_wp2_with fail
  go_ret
  exact ⟨rfl, HS6.out.fr.trans (Fr.alloc _ _ _)⟩

set_option maxRecDepth 100000 in
set_option maxHeartbeats 2000000 in
theorem true_ft (w : World) (A B : Int) (nA nB : Nat) (ao : Option Addr) (cap : Nat) (D : List Dx) (HD : Hid (DosAt w (.slice ao D.length cap) D)) (HSM : Hid (smallAll D = true)) (H1 : Hid (skMay A B nA = false)) (H2 : Hid (skMay B A nB = true)) :
    Calls Try.prog 6 #[.agg #[.int .i64 A, .int .i64 B, .int .u64 nA, .int .u64 nB], .slice ao D.length cap] w fun e w' => e = .returned (.bool true) ∧ Fr [] w w' := by
  go_enter Try.func6, Try.ntmps6
  have HS0 := Lib.hid (Sep.start [] w)
  go_wp2_with fail
  obtain ⟨gt, hgt⟩ : ∃ g, g = w.heap.size := ⟨_, rfl⟩
  obtain ⟨w1, hw⟩ : ∃ w1, w.alloc (.cells #[.int .i64 A, .int .i64 B, .int .u64 nA, .int .u64 nB] 42) = w1 := ⟨_, rfl⟩
  rw [hw, ← hgt]
  have hs := HS0.out.lay 42 [.int .i64 A, .int .i64 B, .int .u64 nA, .int .u64 nB]
  rw [hw, ← hgt] at hs
  have HS1 := Lib.hid hs
  clear hw hgt hs
  go_wp2_with fail
  have hq := lw_awake w1
  have HQ := Lib.hid hq
  clear hq
  refine HQ.out.mono ?_
  clear HQ
  rintro e w2 ⟨rfl, hf⟩
  have HS2 := Lib.hid (HS1.out.grow hf)
  clear hf
  go_wp2_with fail
  have hq := lw_small w2 _ D (HD.out.fr HS2.out.fr)
  rw [HSM.out] at hq
  have HQ := Lib.hid hq
  clear hq
  refine HQ.out.mono ?_
  clear HQ
  rintro e w3 ⟨rfl, hf⟩
  have HS3 := Lib.hid (HS2.out.grow hf)
  clear hf
  have qgt0 := ((HS3.out.cells 0 rfl)).cell 0
  have qgt1 := ((HS3.out.cells 0 rfl)).cell 1
  have qgt2 := ((HS3.out.cells 0 rfl)).cell 2
  have qgt3 := ((HS3.out.cells 0 rfl)).cell 3
  simp only [List.getElem?_cons_zero, List.getElem?_cons_succ] at qgt0 qgt1 qgt2 qgt3
  go_wp2_with fail
  clear qgt0 qgt1 qgt2 qgt3
  have hq := sk_new w3 A B nA
  rw [skNew_no H1.out] at hq
  have HQ := Lib.hid hq
  clear hq
  refine HQ.out.mono ?_
  clear HQ
  rintro e w4 ⟨rfl, hf⟩
  have HS4 := Lib.hid (HS3.out.grow hf)
  clear hf
  have qgt0 := fun o => ((HS4.out.cells 0 rfl).alloc o).cell 0
  have qgt1 := fun o => ((HS4.out.cells 0 rfl).alloc o).cell 1
  have qgt2 := fun o => ((HS4.out.cells 0 rfl).alloc o).cell 2
  have qgt3 := fun o => ((HS4.out.cells 0 rfl).alloc o).cell 3
  simp only [List.getElem?_cons_zero, List.getElem?_cons_succ] at qgt0 qgt1 qgt2 qgt3
  go_wp2_with fail
  obtain ⟨ga, hga⟩ : ∃ g, g = w4.heap.size := ⟨_, rfl⟩
  obtain ⟨w5, hw⟩ : ∃ w1, w4.alloc (.cells #[.int .i64 0, .int .i64 0, .int .i64 0, .int .u64 0, .int .u64 0] 46) = w1 := ⟨_, rfl⟩
  rw [hw, ← hga]
  have hs := HS4.out.lay 46 [.int .i64 0, .int .i64 0, .int .i64 0, .int .u64 0, .int .u64 0]
  rw [hw, ← hga] at hs
  have HS5 := Lib.hid hs
  clear hw hga hs
  clear qgt0 qgt1 qgt2 qgt3
  have qgt0 := ((HS5.out.cells 1 rfl)).cell 0
  have qgt1 := ((HS5.out.cells 1 rfl)).cell 1
  have qgt2 := ((HS5.out.cells 1 rfl)).cell 2
  have qgt3 := ((HS5.out.cells 1 rfl)).cell 3
  simp only [List.getElem?_cons_zero, List.getElem?_cons_succ] at qgt0 qgt1 qgt2 qgt3
  go_wp2_with fail
  clear qgt0 qgt1 qgt2 qgt3
  have hq := sk_new w5 B A nB
  rw [skNew_ok H2.out] at hq
  have HQ := Lib.hid hq
  clear hq
  refine HQ.out.mono ?_
  clear HQ
  rintro e w6 ⟨rfl, hf⟩
  have HS6 := Lib.hid (HS5.out.grow hf)
  clear hf
  go_wp2_with fail
  go_ret
  exact ⟨rfl, HS6.out.fr.trans (Fr.alloc _ _ _)⟩

set_option maxRecDepth 100000 in
set_option maxHeartbeats 2000000 in
theorem true_tf (w : World) (A B : Int) (nA nB : Nat) (ao : Option Addr) (cap : Nat) (D : List Dx) (HD : Hid (DosAt w (.slice ao D.length cap) D)) (HSM : Hid (smallAll D = true)) (H1 : Hid (skMay A B nA = true)) (H2 : Hid (skMay B A nB = false)) :
    Calls Try.prog 6 #[.agg #[.int .i64 A, .int .i64 B, .int .u64 nA, .int .u64 nB], .slice ao D.length cap] w fun e w' => e = .returned (.bool true) ∧ Fr [] w w' := by
  go_enter Try.func6, Try.ntmps6
  have HS0 := Lib.hid (Sep.start [] w)
  go_wp2_with fail
  obtain ⟨gt, hgt⟩ : ∃ g, g = w.heap.size := ⟨_, rfl⟩
  obtain ⟨w1, hw⟩ : ∃ w1, w.alloc (.cells #[.int .i64 A, .int .i64 B, .int .u64 nA, .int .u64 nB] 42) = w1 := ⟨_, rfl⟩
  rw [hw, ← hgt]
  have hs := HS0.out.lay 42 [.int .i64 A, .int .i64 B, .int .u64 nA, .int .u64 nB]
  rw [hw, ← hgt] at hs
  have HS1 := Lib.hid hs
  clear hw hgt hs
  go_wp2_with fail
  have hq := lw_awake w1
  have HQ := Lib.hid hq
  clear hq
  refine HQ.out.mono ?_
  clear HQ
  rintro e w2 ⟨rfl, hf⟩
  have HS2 := Lib.hid (HS1.out.grow hf)
  clear hf
  go_wp2_with fail
  have hq := lw_small w2 _ D (HD.out.fr HS2.out.fr)
  rw [HSM.out] at hq
  have HQ := Lib.hid hq
  clear hq
  refine HQ.out.mono ?_
  clear HQ
  rintro e w3 ⟨rfl, hf⟩
  have HS3 := Lib.hid (HS2.out.grow hf)
  clear hf
  have qgt0 := ((HS3.out.cells 0 rfl)).cell 0
  have qgt1 := ((HS3.out.cells 0 rfl)).cell 1
  have qgt2 := ((HS3.out.cells 0 rfl)).cell 2
  have qgt3 := ((HS3.out.cells 0 rfl)).cell 3
  simp only [List.getElem?_cons_zero, List.getElem?_cons_succ] at qgt0 qgt1 qgt2 qgt3
  go_wp2_with fail
  clear qgt0 qgt1 qgt2 qgt3
  have hq := sk_new w3 A B nA
  rw [skNew_ok H1.out] at hq
  have HQ := Lib.hid hq
  clear hq
  refine HQ.out.mono ?_
  clear HQ
  rintro e w4 ⟨rfl, hf⟩
  have HS4 := Lib.hid (HS3.out.grow hf)
  clear hf
  have qgt0 := fun o => ((HS4.out.cells 0 rfl).alloc o).cell 0
  have qgt1 := fun o => ((HS4.out.cells 0 rfl).alloc o).cell 1
  have qgt2 := fun o => ((HS4.out.cells 0 rfl).alloc o).cell 2
  have qgt3 := fun o => ((HS4.out.cells 0 rfl).alloc o).cell 3
  simp only [List.getElem?_cons_zero, List.getElem?_cons_succ] at qgt0 qgt1 qgt2 qgt3
  go_wp2_with fail
  obtain ⟨ga, hga⟩ : ∃ g, g = w4.heap.size := ⟨_, rfl⟩
  obtain ⟨w5, hw⟩ : ∃ w1, w4.alloc (.cells #[.int .i64 0, .int .i64 A, .int .i64 B, .int .u64 nA, .int .u64 0] 46) = w1 := ⟨_, rfl⟩
  rw [hw, ← hga]
  have hs := HS4.out.lay 46 [.int .i64 0, .int .i64 A, .int .i64 B, .int .u64 nA, .int .u64 0]
  rw [hw, ← hga] at hs
  have HS5 := Lib.hid hs
  clear hw hga hs
  clear qgt0 qgt1 qgt2 qgt3
  have qgt0 := ((HS5.out.cells 1 rfl)).cell 0
  have qgt1 := ((HS5.out.cells 1 rfl)).cell 1
  have qgt2 := ((HS5.out.cells 1 rfl)).cell 2
  have qgt3 := ((HS5.out.cells 1 rfl)).cell 3
  simp only [List.getElem?_cons_zero, List.getElem?_cons_succ] at qgt0 qgt1 qgt2 qgt3
  go_wp2_with fail
  clear qgt0 qgt1 qgt2 qgt3
  have hq := sk_new w5 B A nB
  rw [skNew_no H2.out] at hq
  have HQ := Lib.hid hq
  clear hq
  refine HQ.out.mono ?_
  clear HQ
  rintro e w6 ⟨rfl, hf⟩
  have HS6 := Lib.hid (HS5.out.grow hf)
  clear hf
  go_wp2_with fail
  go_ret
  exact ⟨rfl, HS6.out.fr.trans (Fr.alloc _ _ _)⟩
end Go.Proofs.Ytjfmgpelkhgodaa
