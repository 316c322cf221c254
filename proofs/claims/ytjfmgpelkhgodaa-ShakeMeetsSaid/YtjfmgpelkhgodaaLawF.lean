/- The walk of ShakeMeets where both call. -/
import Derived.Test.YtjfmgpelkhgodaaLawE
namespace Go.Proofs.Ytjfmgpelkhgodaa
open Go.RowKit
attribute [local go_sem ↓ high] run_min_whole run_max_whole

set_option maxRecDepth 100000 in
set_option maxHeartbeats 6000000 in
theorem meets_two (w : World) (a b nA nB : Nat) (PA : Hid (peer a)) (PB : Hid (peer b)) (NA : Hid (nonce nA)) (NB : Hid (nonce nB)) (H1 : Hid (skMay a b nA = true)) (H2 : Hid (skMay b a nB = true)) (L1 L2 : List En) (x y : List UInt8) (EL : Hid (L1.length ≤ 10)) (E2 : Hid (called L1 ⟨0, b, a, nB, 0⟩ = (⟨1, b, a, nB, 0⟩, (L2, y))))
    (E1 : Hid (called [] ⟨0, a, b, nA, 0⟩ = (⟨1, a, b, nA, 0⟩, (L1, x)))) (M0 : Hid (Meet a b nA nB 0 ⟨1, a, b, nA, 0⟩ ⟨1, b, a, nB, 0⟩ x y L2)) (ao : Option Addr) (cap : Nat) (lost : List Bool) (HSL : Hid (SlEx w (.slice ao lost.length cap) (lost.map Value.bool))) :
    Calls Try.prog 8 #[.agg #[.int .i64 a, .int .i64 b, .int .u64 nA, .int .u64 nB], .bool true, .slice ao lost.length cap] w fun e w' => e = .returned (.bool true) ∧ Fr [] w w' := by
  go_enter Try.func8, Try.ntmps8
  have HS0 := Lib.hid (St.start w)
  go_wp2_with fail
  obtain ⟨gt, hgt⟩ : ∃ g, g = w.heap.size := ⟨_, rfl⟩
  obtain ⟨w1, hw⟩ : ∃ w1, w.alloc (.cells #[.int .i64 a, .int .i64 b, .int .u64 nA, .int .u64 nB] 42) = w1 := ⟨_, rfl⟩
  rw [hw, ← hgt]
  have hs := HS0.out.lay 42 [.int .i64 a, .int .i64 b, .int .u64 nA, .int .u64 nB]
  rw [hw, ← hgt] at hs
  have HS1 := Lib.hid hs
  clear hw hgt hs 
  go_wp2_with fail
  have hq := lw_awake w1
  have HQ := Lib.hid hq
  clear hq
  refine HQ.out.mono ?_
  clear HQ
  rintro e w2 ⟨rfl, hf⟩
  have HS2 := Lib.hid (HS1.out.grow hf)
  clear hf
  have qgt0 := ((HS2.out.cells 0 rfl)).cell 0
  have qgt1 := ((HS2.out.cells 0 rfl)).cell 1
  have qgt2 := ((HS2.out.cells 0 rfl)).cell 2
  have qgt3 := ((HS2.out.cells 0 rfl)).cell 3
  simp only [List.getElem?_cons_zero, List.getElem?_cons_succ] at qgt0 qgt1 qgt2 qgt3
  go_wp2_with fail
  have hq := sk_new w2 a b nA
  rw [skNew_ok H1.out] at hq
  have HQ := Lib.hid hq
  clear hq
  refine HQ.out.mono ?_
  clear HQ
  rintro e w3 ⟨rfl, hf⟩
  have HS3 := Lib.hid (HS2.out.grow hf)
  clear hf
  clear qgt0 qgt1 qgt2 qgt3
  have qgt0 := fun o => ((HS3.out.cells 0 rfl).alloc o).cell 0
  have qgt1 := fun o => ((HS3.out.cells 0 rfl).alloc o).cell 1
  have qgt2 := fun o => ((HS3.out.cells 0 rfl).alloc o).cell 2
  have qgt3 := fun o => ((HS3.out.cells 0 rfl).alloc o).cell 3
  simp only [List.getElem?_cons_zero, List.getElem?_cons_succ] at qgt0 qgt1 qgt2 qgt3
  go_wp2_with fail
  obtain ⟨ga, hga⟩ : ∃ g, g = w3.heap.size := ⟨_, rfl⟩
  obtain ⟨w4, hw⟩ : ∃ w1, w3.alloc (.cells #[.int .i64 0, .int .i64 a, .int .i64 b, .int .u64 nA, .int .u64 0] 46) = w1 := ⟨_, rfl⟩
  rw [hw, ← hga]
  have hs := HS3.out.lay 46 [.int .i64 0, .int .i64 a, .int .i64 b, .int .u64 nA, .int .u64 0]
  rw [hw, ← hga] at hs
  have HS4 := Lib.hid hs
  clear hw hga hs qgt0 qgt1 qgt2 qgt3
  go_wp2_with fail
  have hq := sk_new w4 b a nB
  rw [skNew_ok H2.out] at hq
  have HQ := Lib.hid hq
  clear hq
  refine HQ.out.mono ?_
  clear HQ
  rintro e w5 ⟨rfl, hf⟩
  have HS5 := Lib.hid (HS4.out.grow hf)
  clear hf
  go_wp2_with fail
  obtain ⟨gb, hgb⟩ : ∃ g, g = w5.heap.size := ⟨_, rfl⟩
  obtain ⟨w6, hw⟩ : ∃ w1, w5.alloc (.cells #[.int .i64 0, .int .i64 b, .int .i64 a, .int .u64 nB, .int .u64 0] 46) = w1 := ⟨_, rfl⟩
  rw [hw, ← hgb]
  have hs := HS5.out.lay 46 [.int .i64 0, .int .i64 b, .int .i64 a, .int .u64 nB, .int .u64 0]
  rw [hw, ← hgb] at hs
  have HS6 := Lib.hid hs
  clear hw hgb hs 
  go_wp2_with fail
  refine (not_new w6).mono ?_
  rintro e w7 ⟨rfl, hn, hf⟩
  have HN7 := Lib.hid hn
  have HS7 := Lib.hid (HS6.out.notary hn hf (by omega) (by omega))
  clear hn hf
  have qga0 := ((HS7.out.cells 1 rfl)).cell 0
  have qga1 := ((HS7.out.cells 1 rfl)).cell 1
  have qga2 := ((HS7.out.cells 1 rfl)).cell 2
  have qga3 := ((HS7.out.cells 1 rfl)).cell 3
  have qga4 := ((HS7.out.cells 1 rfl)).cell 4
  simp only [List.getElem?_cons_zero, List.getElem?_cons_succ] at qga0 qga1 qga2 qga3 qga4
  go_wp2_with fail
  clear qga0 qga1 qga2 qga3 qga4
  have hq := sk_call w7 (w6.heap.size + 1) w6.heap.size (.slice none 0 0) [] ⟨0, a, b, nA, 0⟩ ⟨by have := PA.out; have := PB.out; have := NA.out; have := NB.out; unfold peer nonce at *; dsimp only; omega, by have := PA.out; have := PB.out; have := NA.out; have := NB.out; unfold peer nonce at *; dsimp only; omega, by have := PA.out; have := PB.out; have := NA.out; have := NB.out; unfold peer nonce at *; dsimp only; omega, by have := PA.out; have := PB.out; have := NA.out; have := NB.out; unfold peer nonce at *; dsimp only; omega⟩ HN7.out (by simp)
  rw [E1.out] at hq
  have HQ := Lib.hid hq
  clear hq
  refine HQ.out.mono ?_
  clear HQ
  rintro e w8 ⟨v8, rfl, hs⟩
  obtain ⟨lv8, hn, hs⟩ := HS7.out.sent hs
  obtain ⟨ao8, c8, hv⟩ := sl_shape (hs.slice 0 rfl)
  rw [u8s_length] at hv
  subst hv
  have HN8 := Lib.hid hn
  have HS8 := Lib.hid hs
  clear hn hs
  go_wp2_with (refine wpList_store_whole rfl 46 (.tmp 7) (.tmp 52) rfl ga [.int .i64 1, .int .i64 a, .int .i64 b, .int .u64 nA, .int .u64 0] rfl rfl _ _ (HS8.out.cells 1 rfl) (by kernel_rfl) rfl (by simp [Value.oneCell']) ?_; intro w9 hc hf _; have hs := HS8.out.put 1 rfl hf hc; simp only [List.set_cons_zero, List.set_cons_succ] at hs; have HS9 := Lib.hid hs; have HN9 := Lib.hid (HN8.out.fr hf (by have := (HS8.out.own _ (List.mem_of_getElem? (i := 1) rfl)).2.2; intro g hg; simp only [List.mem_singleton] at hg; subst hg; exact this)); clear hc hf hs; have qgb0 := ((HS9.out.cells 0 rfl)).cell 0; have qgb1 := ((HS9.out.cells 0 rfl)).cell 1; have qgb2 := ((HS9.out.cells 0 rfl)).cell 2; have qgb3 := ((HS9.out.cells 0 rfl)).cell 3; have qgb4 := ((HS9.out.cells 0 rfl)).cell 4; simp only [List.getElem?_cons_zero, List.getElem?_cons_succ] at qgb0 qgb1 qgb2 qgb3 qgb4)
  clear qgb0 qgb1 qgb2 qgb3 qgb4
  have hq := sk_call w9 (w6.heap.size + 1) w6.heap.size lv8 L1 ⟨0, b, a, nB, 0⟩ ⟨by have := PA.out; have := PB.out; have := NA.out; have := NB.out; unfold peer nonce at *; dsimp only; omega, by have := PA.out; have := PB.out; have := NA.out; have := NB.out; unfold peer nonce at *; dsimp only; omega, by have := PA.out; have := PB.out; have := NA.out; have := NB.out; unfold peer nonce at *; dsimp only; omega, by have := PA.out; have := PB.out; have := NA.out; have := NB.out; unfold peer nonce at *; dsimp only; omega⟩ HN9.out (by have := EL.out; omega)
  rw [E2.out] at hq
  have HQ := Lib.hid hq
  clear hq
  refine HQ.out.mono ?_
  clear HQ
  rintro e w10 ⟨v10, rfl, hs⟩
  obtain ⟨lv10, hn, hs⟩ := HS9.out.sent hs
  obtain ⟨ao10, c10, hv⟩ := sl_shape (hs.slice 0 rfl)
  rw [u8s_length] at hv
  subst hv
  have HN10 := Lib.hid hn
  have HS10 := Lib.hid hs
  clear hn hs
  go_wp2_with (refine wpList_store_whole rfl 46 (.tmp 9) (.tmp 59) rfl gb [.int .i64 1, .int .i64 b, .int .i64 a, .int .u64 nB, .int .u64 0] rfl rfl _ _ (HS10.out.cells 0 rfl) (by kernel_rfl) rfl (by simp [Value.oneCell']) ?_; intro w11 hc hf _; have hs := HS10.out.put 0 rfl hf hc; simp only [List.set_cons_zero] at hs; have HS11 := Lib.hid hs; have HN11 := Lib.hid (HN10.out.fr hf (by have := (HS10.out.own _ (List.mem_of_getElem? (i := 0) rfl)).2.2; intro g hg; simp only [List.mem_singleton] at hg; subst hg; exact this)); clear hc hf hs)
  obtain ⟨nb, hnb⟩ : ∃ nb, nb = (w6.heap.size + 1) := ⟨_, rfl⟩
  obtain ⟨mb, hmb⟩ : ∃ mb, mb = w6.heap.size := ⟨_, rfl⟩
  rw [← hnb, ← hmb] at HS11 HN11
  rw [← hnb]
  clear hnb hmb
  go_loopw [12, 13, 14] (fun v12 v13 v14 wr => ∃ (i : Nat) (sa sb : Sk) (x y : List UInt8) (L : List En) (lv : Value), v14 = .int .i64 i ∧ Meet a b nA nB i sa sb x y L ∧ NotIn wr nb mb lv L ∧ St w wr (NBlocks nb mb lv) [(gb, 46, [.int .i64 sb.state, .int .i64 sb.own, .int .i64 sb.other, .int .u64 sb.nonce, .int .u64 sb.echo]), (ga, 46, [.int .i64 sa.state, .int .i64 sa.own, .int .i64 sa.other, .int .u64 sa.nonce, .int .u64 sa.echo]), (gt, 42, [.int .i64 a, .int .i64 b, .int .u64 nA, .int .u64 nB])] [(v13, u8s y), (v12, u8s x)]) (fun _ _ v _ => 40 - (intOf v).toNat)
  case atStart => exact ⟨0, ⟨1, a, b, nA, 0⟩, ⟨1, b, a, nB, 0⟩, x, y, L2, lv10, rfl, M0.out, HN11.out, HS11.out⟩
  case round =>
    obtain ⟨i, sa, sb, x, y, L, lv, rfl, hmeet, hn, hs⟩ := hrel
    have HM := Lib.hid hmeet
    have HNr := Lib.hid hn
    have HSr := Lib.hid hs
    have hi12 := hmeet.lt
    clear hmeet hn hs
    have hi40 : (i : Int) < 40 := by omega
    obtain ⟨lb, hlb⟩ : ∃ lb, lb = decide (i < lost.length ∧ i < 10 ∧ lost[i]? = some true) := ⟨_, rfl⟩
    have HLB := Lib.hid hlb
    clear hlb
    go_upto_region 15 with (fail)
    go_cut [78] (fun s78 wx => s78 = .bool lb ∧ wr = wx)
    case first =>
      by_cases h1 : i < lost.length
      · by_cases h2 : i < 10
        · obtain ⟨g, off, hao, hg, hcell⟩ := HSL.out.some (k := i) (by simpa using h1)
          subst hao
          rw [List.getElem?_map, List.getElem?_eq_getElem h1] at hcell
          have hl : lb = lost[i] := by
            rw [HLB.out]
            rw [List.getElem?_eq_getElem h1]
            cases lost[i] <;> simp [h1, h2]
          have hcell' : wr.cell? ⟨g, off + i, none⟩ = some (.bool lb) := by
            rw [hl]
            exact (World.cell?_of_block (w := w) (HSr.out.fr.block g hg (by simp))).trans hcell
          have h2' : (i : Int) < 10 := by omega
          clear hl hcell
          go_wp2_with fail
          go_meet
          case rel => exact ⟨rfl, rfl⟩
        · have hl : lb = false := by
            rw [HLB.out]
            simp [h2]
          subst hl
          have h2' : ¬ (i : Int) < 10 := by omega
          go_wp2_with fail
          go_meet
          case rel => exact ⟨rfl, rfl⟩
      · have hl : lb = false := by
          rw [HLB.out]
          simp [h1]
        subst hl
        go_wp2_with fail
        go_meet
        case rel => exact ⟨rfl, rfl⟩
    obtain ⟨rfl, rfl⟩ := hcut
    cases lb with
    | true =>
      have hlt : i < 10 := by
        exact (of_decide_eq_true HLB.out.symm).2.1
      obtain ⟨x2, y2, hrd⟩ := HM.out.lost PA.out PB.out hlt
      have HRD := Lib.hid hrd
      have HWF := Lib.hid (HM.out.wf PA.out PB.out NA.out NB.out)
      clear hrd
      have qgb0 := ((HSr.out.cells 0 rfl)).cell 0
      have qgb1 := ((HSr.out.cells 0 rfl)).cell 1
      have qgb2 := ((HSr.out.cells 0 rfl)).cell 2
      have qgb3 := ((HSr.out.cells 0 rfl)).cell 3
      have qgb4 := ((HSr.out.cells 0 rfl)).cell 4
      simp only [List.getElem?_cons_zero, List.getElem?_cons_succ] at qgb0 qgb1 qgb2 qgb3 qgb4
      go_wp2_with fail
      clear qgb0 qgb1 qgb2 qgb3 qgb4
      have hq := sk_hear wr nb mb lv L sb (.slice none 0 0) [] HWF.out.2 HNr.out (SlAt.nil _).ex (by have := HM.out.len; omega)
      rw [HRD.out.hb] at hq
      have HQ := Lib.hid hq
      clear hq
      refine HQ.out.mono ?_
      clear HQ
      rintro e w101 ⟨v101, rfl, hs⟩
      obtain ⟨lv101, hn, hs⟩ := HSr.out.sent hs
      obtain ⟨ao101, c101, hv⟩ := sl_shape (hs.slice 0 rfl)
      rw [u8s_length] at hv
      subst hv
      have HN101 := Lib.hid hn
      have HS101 := Lib.hid hs
      clear hn hs
      unfold skV
      dsimp only
      have qga0 := fun o => ((HS101.out.cells 1 rfl).alloc o).cell 0
      have qga1 := fun o => ((HS101.out.cells 1 rfl).alloc o).cell 1
      have qga2 := fun o => ((HS101.out.cells 1 rfl).alloc o).cell 2
      have qga3 := fun o => ((HS101.out.cells 1 rfl).alloc o).cell 3
      have qga4 := fun o => ((HS101.out.cells 1 rfl).alloc o).cell 4
      simp only [List.getElem?_cons_zero, List.getElem?_cons_succ] at qga0 qga1 qga2 qga3 qga4
      go_wp2_with fail
      obtain ⟨gc, hgc⟩ : ∃ g, g = w101.heap.size := ⟨_, rfl⟩
      obtain ⟨w102, hw⟩ : ∃ w1, w101.alloc (.cells #[.int .i64 sb.state, .int .i64 sb.own, .int .i64 sb.other, .int .u64 sb.nonce, .int .u64 sb.echo] 46) = w1 := ⟨_, rfl⟩
      rw [hw, ← hgc]
      have hs := HS101.out.lay 46 [.int .i64 sb.state, .int .i64 sb.own, .int .i64 sb.other, .int .u64 sb.nonce, .int .u64 sb.echo]
      rw [hw, ← hgc] at hs
      have HS102 := Lib.hid hs
      have hn := HN101.out.fr (Fr.alloc w101 (.cells #[.int .i64 sb.state, .int .i64 sb.own, .int .i64 sb.other, .int .u64 sb.nonce, .int .u64 sb.echo] 46) []) (by simp)
      rw [hw] at hn
      have HN102 := Lib.hid hn
      clear hn
      clear hw hgc hs qga0 qga1 qga2 qga3 qga4
      skip
      have hq := sk_hear w102 nb mb lv101 L sa (.slice none 0 0) [] HWF.out.1 HN102.out (SlAt.nil _).ex (by have := HRD.out.len; omega)
      rw [HRD.out.ha] at hq
      have HQ := Lib.hid hq
      clear hq
      refine HQ.out.mono ?_
      clear HQ
      rintro e w103 ⟨v103, rfl, hs⟩
      obtain ⟨lv103, hn, hs⟩ := HS102.out.sent hs
      obtain ⟨ao103, c103, hv⟩ := sl_shape (hs.slice 0 rfl)
      rw [u8s_length] at hv
      subst hv
      have HN103 := Lib.hid hn
      have HS103 := Lib.hid hs
      clear hn hs
      unfold skV
      dsimp only
      have HWC : Hid (Sk.Wf sb) := by
        have h := heard_wf (L := L) (s := sb) (b := []) HWF.out.2
        rw [HRD.out.hb] at h
        exact h
      have HWD : Hid (Sk.Wf sa) := by
        have h := heard_wf (L := L) (s := sa) (b := []) HWF.out.1
        rw [HRD.out.ha] at h
        exact h
      by_cases hst : sa.state = 3 ∧ sb.state = 3
      · obtain ⟨hd3, hc3⟩ := hst
        obtain ⟨hde, hce⟩ := HRD.out.done hd3 hc3
        have e1 : (sa.state == 3) = true := by simp [hd3]
        have e2 : (sb.state == 3) = true := by simp [hc3]
        have e3 : ((sa.echo : Int) == (nB : Int)) = true := by simp [hde]
        have e4 : ((sb.echo : Int) == (nA : Int)) = true := by simp [hce]
        clear hd3 hc3 hde hce
        have qgc0 := fun o => ((HS103.out.cells 0 rfl).alloc o).cell 0
        have qgc1 := fun o => ((HS103.out.cells 0 rfl).alloc o).cell 1
        have qgc2 := fun o => ((HS103.out.cells 0 rfl).alloc o).cell 2
        have qgc3 := fun o => ((HS103.out.cells 0 rfl).alloc o).cell 3
        have qgc4 := fun o => ((HS103.out.cells 0 rfl).alloc o).cell 4
        simp only [List.getElem?_cons_zero, List.getElem?_cons_succ] at qgc0 qgc1 qgc2 qgc3 qgc4
        go_wp2_with (first | (refine wpList_store_whole rfl 46 (.tmp 9) (.tmp 93) rfl gb [.int .i64 sb.state, .int .i64 sb.own, .int .i64 sb.other, .int .u64 sb.nonce, .int .u64 sb.echo] rfl rfl _ _ ((HS103.out.cells 1 rfl).alloc _) (by kernel_rfl) rfl (by simp [Value.oneCell']) ?_; intro w301 hc hf _; have hs := (HS103.out.lay 46 [.int .i64 sa.state, .int .i64 sa.own, .int .i64 sa.other, .int .u64 sa.nonce, .int .u64 sa.echo]).put 2 rfl hf hc; simp only [List.set_cons_zero, List.set_cons_succ] at hs; have HS301 := Lib.hid hs; have HN301 := Lib.hid ((HN103.out.fr (Fr.alloc _ _ []) (by simp)).fr hf (by have := (HS103.out.own _ (List.mem_of_getElem? (i := 1) rfl)).2.2; intro g hg; simp only [List.mem_singleton] at hg; subst hg; exact this)); clear hc hf hs; have qgd0 := ((HS301.out.cells 0 rfl)).cell 0; have qgd1 := ((HS301.out.cells 0 rfl)).cell 1; have qgd2 := ((HS301.out.cells 0 rfl)).cell 2; have qgd3 := ((HS301.out.cells 0 rfl)).cell 3; have qgd4 := ((HS301.out.cells 0 rfl)).cell 4; simp only [List.getElem?_cons_zero, List.getElem?_cons_succ] at qgd0 qgd1 qgd2 qgd3 qgd4) | (refine wpList_store_whole rfl 46 (.tmp 7) (.tmp 94) rfl ga [.int .i64 sa.state, .int .i64 sa.own, .int .i64 sa.other, .int .u64 sa.nonce, .int .u64 sa.echo] rfl rfl _ _ (HS301.out.cells 3 rfl) (by kernel_rfl) rfl (by simp [Value.oneCell']) ?_; intro w302 hc hf _; have hs := HS301.out.put 3 rfl hf hc; simp only [List.set_cons_zero, List.set_cons_succ] at hs; have HS302 := Lib.hid hs; have HN302 := Lib.hid (HN301.out.fr hf (by have := (HS301.out.own _ (List.mem_of_getElem? (i := 3) rfl)).2.2; intro g hg; simp only [List.mem_singleton] at hg; subst hg; exact this)); clear hc hf hs; have qga0 := ((HS302.out.cells 3 rfl)).cell 0; have qga1 := ((HS302.out.cells 3 rfl)).cell 1; have qga2 := ((HS302.out.cells 3 rfl)).cell 2; have qga3 := ((HS302.out.cells 3 rfl)).cell 3; have qga4 := ((HS302.out.cells 3 rfl)).cell 4; have qgb0 := ((HS302.out.cells 2 rfl)).cell 0; have qgb1 := ((HS302.out.cells 2 rfl)).cell 1; have qgb2 := ((HS302.out.cells 2 rfl)).cell 2; have qgb3 := ((HS302.out.cells 2 rfl)).cell 3; have qgb4 := ((HS302.out.cells 2 rfl)).cell 4; have qgt0 := ((HS302.out.cells 4 rfl)).cell 0; have qgt1 := ((HS302.out.cells 4 rfl)).cell 1; have qgt2 := ((HS302.out.cells 4 rfl)).cell 2; have qgt3 := ((HS302.out.cells 4 rfl)).cell 3; simp only [List.getElem?_cons_zero, List.getElem?_cons_succ] at qga0 qga1 qga2 qga3 qga4 qgb0 qgb1 qgb2 qgb3 qgb4 qgt0 qgt1 qgt2 qgt3))
        go_ret
        exact ⟨rfl, HS302.out.fr⟩
      · have HON := Lib.hid (HRD.out.on hst)
        have h2 : (sa.state == 3) = false ∨ (sa.state == 3) = true ∧ (sb.state == 3) = false := by
          by_cases h : sa.state = 3
          · right
            refine ⟨by simp [h], ?_⟩
            rw [beq_eq_false_iff_ne]
            exact fun h' => hst ⟨h, h'⟩
          · left
            rw [beq_eq_false_iff_ne]
            exact h
        clear hst
        rcases h2 with e1 | ⟨e1, e2⟩
        all_goals
          have hx := HRD.out.xx
          rw [if_pos rfl] at hx
          have HX := Lib.hid hx
          clear hx
          have hy := HRD.out.yy
          rw [if_pos rfl] at hy
          have HY := Lib.hid hy
          clear hy
          have qgc0 := fun o => ((HS103.out.cells 0 rfl).alloc o).cell 0
          have qgc1 := fun o => ((HS103.out.cells 0 rfl).alloc o).cell 1
          have qgc2 := fun o => ((HS103.out.cells 0 rfl).alloc o).cell 2
          have qgc3 := fun o => ((HS103.out.cells 0 rfl).alloc o).cell 3
          have qgc4 := fun o => ((HS103.out.cells 0 rfl).alloc o).cell 4
          simp only [List.getElem?_cons_zero, List.getElem?_cons_succ] at qgc0 qgc1 qgc2 qgc3 qgc4
          go_wp2_with (first | (refine wpList_store_whole rfl 46 (.tmp 9) (.tmp 93) rfl gb [.int .i64 sb.state, .int .i64 sb.own, .int .i64 sb.other, .int .u64 sb.nonce, .int .u64 sb.echo] rfl rfl _ _ ((HS103.out.cells 1 rfl).alloc _) (by kernel_rfl) rfl (by simp [Value.oneCell']) ?_; intro w301 hc hf _; have hs := (HS103.out.lay 46 [.int .i64 sa.state, .int .i64 sa.own, .int .i64 sa.other, .int .u64 sa.nonce, .int .u64 sa.echo]).put 2 rfl hf hc; simp only [List.set_cons_zero, List.set_cons_succ] at hs; have HS301 := Lib.hid hs; have HN301 := Lib.hid ((HN103.out.fr (Fr.alloc _ _ []) (by simp)).fr hf (by have := (HS103.out.own _ (List.mem_of_getElem? (i := 1) rfl)).2.2; intro g hg; simp only [List.mem_singleton] at hg; subst hg; exact this)); clear hc hf hs; have qgd0 := ((HS301.out.cells 0 rfl)).cell 0; have qgd1 := ((HS301.out.cells 0 rfl)).cell 1; have qgd2 := ((HS301.out.cells 0 rfl)).cell 2; have qgd3 := ((HS301.out.cells 0 rfl)).cell 3; have qgd4 := ((HS301.out.cells 0 rfl)).cell 4; simp only [List.getElem?_cons_zero, List.getElem?_cons_succ] at qgd0 qgd1 qgd2 qgd3 qgd4) | (refine wpList_store_whole rfl 46 (.tmp 7) (.tmp 94) rfl ga [.int .i64 sa.state, .int .i64 sa.own, .int .i64 sa.other, .int .u64 sa.nonce, .int .u64 sa.echo] rfl rfl _ _ (HS301.out.cells 3 rfl) (by kernel_rfl) rfl (by simp [Value.oneCell']) ?_; intro w302 hc hf _; have hs := HS301.out.put 3 rfl hf hc; simp only [List.set_cons_zero, List.set_cons_succ] at hs; have HS302 := Lib.hid hs; have HN302 := Lib.hid (HN301.out.fr hf (by have := (HS301.out.own _ (List.mem_of_getElem? (i := 3) rfl)).2.2; intro g hg; simp only [List.mem_singleton] at hg; subst hg; exact this)); clear hc hf hs; have qga0 := ((HS302.out.cells 3 rfl)).cell 0; have qga1 := ((HS302.out.cells 3 rfl)).cell 1; have qga2 := ((HS302.out.cells 3 rfl)).cell 2; have qga3 := ((HS302.out.cells 3 rfl)).cell 3; have qga4 := ((HS302.out.cells 3 rfl)).cell 4; have qgb0 := ((HS302.out.cells 2 rfl)).cell 0; have qgb1 := ((HS302.out.cells 2 rfl)).cell 1; have qgb2 := ((HS302.out.cells 2 rfl)).cell 2; have qgb3 := ((HS302.out.cells 2 rfl)).cell 3; have qgb4 := ((HS302.out.cells 2 rfl)).cell 4; have qgt0 := ((HS302.out.cells 4 rfl)).cell 0; have qgt1 := ((HS302.out.cells 4 rfl)).cell 1; have qgt2 := ((HS302.out.cells 4 rfl)).cell 2; have qgt3 := ((HS302.out.cells 4 rfl)).cell 3; simp only [List.getElem?_cons_zero, List.getElem?_cons_succ] at qga0 qga1 qga2 qga3 qga4 qgb0 qgb1 qgb2 qgb3 qgb4 qgt0 qgt1 qgt2 qgt3))
          clear qgc0 qgc1 qgc2 qgc3 qgc4 qgd0 qgd1 qgd2 qgd3 qgd4 qga0 qga1 qga2 qga3 qga4 qgb0 qgb1 qgb2 qgb3 qgb4 qgt0 qgt1 qgt2 qgt3
          have hq := sk_again w302 nb mb lv103 L sa HWD.out HN302.out (by have := HRD.out.len; omega)
          rw [HX.out] at hq
          have HQ := Lib.hid hq
          clear hq
          refine HQ.out.mono ?_
          clear HQ
          rintro e w201 ⟨v201, rfl, hs⟩
          obtain ⟨lv201, hn, hs⟩ := HS302.out.sent hs
          obtain ⟨ao201, c201, hv⟩ := sl_shape (hs.slice 0 rfl)
          rw [u8s_length] at hv
          subst hv
          have HN201 := Lib.hid hn
          have HS201 := Lib.hid hs
          clear hn hs
          have qgb0 := ((HS201.out.cells 2 rfl)).cell 0
          have qgb1 := ((HS201.out.cells 2 rfl)).cell 1
          have qgb2 := ((HS201.out.cells 2 rfl)).cell 2
          have qgb3 := ((HS201.out.cells 2 rfl)).cell 3
          have qgb4 := ((HS201.out.cells 2 rfl)).cell 4
          simp only [List.getElem?_cons_zero, List.getElem?_cons_succ] at qgb0 qgb1 qgb2 qgb3 qgb4
          go_wp2_with fail
          clear qgb0 qgb1 qgb2 qgb3 qgb4
          have hq := sk_again w201 nb mb lv201 L sb HWC.out HN201.out (by have := HRD.out.len; omega)
          rw [HY.out] at hq
          have HQ := Lib.hid hq
          clear hq
          refine HQ.out.mono ?_
          clear HQ
          rintro e w202 ⟨v202, rfl, hs⟩
          obtain ⟨lv202, hn, hs⟩ := HS201.out.sent hs
          obtain ⟨ao202, c202, hv⟩ := sl_shape (hs.slice 0 rfl)
          rw [u8s_length] at hv
          subst hv
          have HN202 := Lib.hid hn
          have HS202 := Lib.hid hs
          clear hn hs
          go_wp2_with fail
          go_roundw
          case rel =>
            have hfin := (HS202.out.dropO.dropO).keepB (B' := [((.slice ao202 (y2).length c202), u8s y2), ((.slice ao201 (x2).length c201), u8s x2)]) (by intro p hp; simp only [List.mem_cons, List.not_mem_nil, or_false] at hp ⊢; rcases hp with rfl | rfl; all_goals simp)
            (repeat apply Exists.intro)
            exact ⟨⟨i + 1, sa, sb, x2, y2, L, lv202, by go_num, HON.out, HN202.out, hfin⟩, rfl⟩
          case measure =>
            simp [intOf]
            omega

    | false =>
      obtain ⟨c, L1', v, d, L2', ww, L3', x2, L4', y2, hrd⟩ := HM.out.round PA.out PB.out NA.out NB.out
      have HRD := Lib.hid hrd
      have HWF := Lib.hid (HM.out.wf PA.out PB.out NA.out NB.out)
      clear hrd
      have qgb0 := ((HSr.out.cells 0 rfl)).cell 0
      have qgb1 := ((HSr.out.cells 0 rfl)).cell 1
      have qgb2 := ((HSr.out.cells 0 rfl)).cell 2
      have qgb3 := ((HSr.out.cells 0 rfl)).cell 3
      have qgb4 := ((HSr.out.cells 0 rfl)).cell 4
      simp only [List.getElem?_cons_zero, List.getElem?_cons_succ] at qgb0 qgb1 qgb2 qgb3 qgb4
      go_wp2_with fail
      clear qgb0 qgb1 qgb2 qgb3 qgb4
      have hq := sk_hear wr nb mb lv L sb u12 x HWF.out.2 HNr.out (HSr.out.slice 1 rfl).ex (by have := HM.out.len; omega)
      rw [HRD.out.hb] at hq
      have HQ := Lib.hid hq
      clear hq
      refine HQ.out.mono ?_
      clear HQ
      rintro e w101 ⟨v101, rfl, hs⟩
      obtain ⟨lv101, hn, hs⟩ := HSr.out.sent hs
      obtain ⟨ao101, c101, hv⟩ := sl_shape (hs.slice 0 rfl)
      rw [u8s_length] at hv
      subst hv
      have HN101 := Lib.hid hn
      have HS101 := Lib.hid hs
      clear hn hs
      unfold skV
      dsimp only
      have qga0 := fun o => ((HS101.out.cells 1 rfl).alloc o).cell 0
      have qga1 := fun o => ((HS101.out.cells 1 rfl).alloc o).cell 1
      have qga2 := fun o => ((HS101.out.cells 1 rfl).alloc o).cell 2
      have qga3 := fun o => ((HS101.out.cells 1 rfl).alloc o).cell 3
      have qga4 := fun o => ((HS101.out.cells 1 rfl).alloc o).cell 4
      simp only [List.getElem?_cons_zero, List.getElem?_cons_succ] at qga0 qga1 qga2 qga3 qga4
      go_wp2_with fail
      obtain ⟨gc, hgc⟩ : ∃ g, g = w101.heap.size := ⟨_, rfl⟩
      obtain ⟨w102, hw⟩ : ∃ w1, w101.alloc (.cells #[.int .i64 c.state, .int .i64 c.own, .int .i64 c.other, .int .u64 c.nonce, .int .u64 c.echo] 46) = w1 := ⟨_, rfl⟩
      rw [hw, ← hgc]
      have hs := HS101.out.lay 46 [.int .i64 c.state, .int .i64 c.own, .int .i64 c.other, .int .u64 c.nonce, .int .u64 c.echo]
      rw [hw, ← hgc] at hs
      have HS102 := Lib.hid hs
      have hn := HN101.out.fr (Fr.alloc w101 (.cells #[.int .i64 c.state, .int .i64 c.own, .int .i64 c.other, .int .u64 c.nonce, .int .u64 c.echo] 46) []) (by simp)
      rw [hw] at hn
      have HN102 := Lib.hid hn
      clear hn
      clear hw hgc hs qga0 qga1 qga2 qga3 qga4
      skip
      have hq := sk_hear w102 nb mb lv101 L1' sa u13 y HWF.out.1 HN102.out (HS102.out.slice 1 rfl).ex (by have := HRD.out.len; omega)
      rw [HRD.out.ha] at hq
      have HQ := Lib.hid hq
      clear hq
      refine HQ.out.mono ?_
      clear HQ
      rintro e w103 ⟨v103, rfl, hs⟩
      obtain ⟨lv103, hn, hs⟩ := HS102.out.sent hs
      obtain ⟨ao103, c103, hv⟩ := sl_shape (hs.slice 0 rfl)
      rw [u8s_length] at hv
      subst hv
      have HN103 := Lib.hid hn
      have HS103 := Lib.hid hs
      clear hn hs
      unfold skV
      dsimp only
      have HWC : Hid (Sk.Wf c) := by
        have h := heard_wf (L := L) (s := sb) (b := x) HWF.out.2
        rw [HRD.out.hb] at h
        exact h
      have HWD : Hid (Sk.Wf d) := by
        have h := heard_wf (L := L1') (s := sa) (b := y) HWF.out.1
        rw [HRD.out.ha] at h
        exact h
      by_cases hst : d.state = 3 ∧ c.state = 3
      · obtain ⟨hd3, hc3⟩ := hst
        obtain ⟨hde, hce⟩ := HRD.out.done hd3 hc3
        have e1 : (d.state == 3) = true := by simp [hd3]
        have e2 : (c.state == 3) = true := by simp [hc3]
        have e3 : ((d.echo : Int) == (nB : Int)) = true := by simp [hde]
        have e4 : ((c.echo : Int) == (nA : Int)) = true := by simp [hce]
        clear hd3 hc3 hde hce
        have qgc0 := fun o => ((HS103.out.cells 0 rfl).alloc o).cell 0
        have qgc1 := fun o => ((HS103.out.cells 0 rfl).alloc o).cell 1
        have qgc2 := fun o => ((HS103.out.cells 0 rfl).alloc o).cell 2
        have qgc3 := fun o => ((HS103.out.cells 0 rfl).alloc o).cell 3
        have qgc4 := fun o => ((HS103.out.cells 0 rfl).alloc o).cell 4
        simp only [List.getElem?_cons_zero, List.getElem?_cons_succ] at qgc0 qgc1 qgc2 qgc3 qgc4
        go_wp2_with (first | (refine wpList_store_whole rfl 46 (.tmp 9) (.tmp 93) rfl gb [.int .i64 c.state, .int .i64 c.own, .int .i64 c.other, .int .u64 c.nonce, .int .u64 c.echo] rfl rfl _ _ ((HS103.out.cells 1 rfl).alloc _) (by kernel_rfl) rfl (by simp [Value.oneCell']) ?_; intro w301 hc hf _; have hs := (HS103.out.lay 46 [.int .i64 d.state, .int .i64 d.own, .int .i64 d.other, .int .u64 d.nonce, .int .u64 d.echo]).put 2 rfl hf hc; simp only [List.set_cons_zero, List.set_cons_succ] at hs; have HS301 := Lib.hid hs; have HN301 := Lib.hid ((HN103.out.fr (Fr.alloc _ _ []) (by simp)).fr hf (by have := (HS103.out.own _ (List.mem_of_getElem? (i := 1) rfl)).2.2; intro g hg; simp only [List.mem_singleton] at hg; subst hg; exact this)); clear hc hf hs; have qgd0 := ((HS301.out.cells 0 rfl)).cell 0; have qgd1 := ((HS301.out.cells 0 rfl)).cell 1; have qgd2 := ((HS301.out.cells 0 rfl)).cell 2; have qgd3 := ((HS301.out.cells 0 rfl)).cell 3; have qgd4 := ((HS301.out.cells 0 rfl)).cell 4; simp only [List.getElem?_cons_zero, List.getElem?_cons_succ] at qgd0 qgd1 qgd2 qgd3 qgd4) | (refine wpList_store_whole rfl 46 (.tmp 7) (.tmp 94) rfl ga [.int .i64 d.state, .int .i64 d.own, .int .i64 d.other, .int .u64 d.nonce, .int .u64 d.echo] rfl rfl _ _ (HS301.out.cells 3 rfl) (by kernel_rfl) rfl (by simp [Value.oneCell']) ?_; intro w302 hc hf _; have hs := HS301.out.put 3 rfl hf hc; simp only [List.set_cons_zero, List.set_cons_succ] at hs; have HS302 := Lib.hid hs; have HN302 := Lib.hid (HN301.out.fr hf (by have := (HS301.out.own _ (List.mem_of_getElem? (i := 3) rfl)).2.2; intro g hg; simp only [List.mem_singleton] at hg; subst hg; exact this)); clear hc hf hs; have qga0 := ((HS302.out.cells 3 rfl)).cell 0; have qga1 := ((HS302.out.cells 3 rfl)).cell 1; have qga2 := ((HS302.out.cells 3 rfl)).cell 2; have qga3 := ((HS302.out.cells 3 rfl)).cell 3; have qga4 := ((HS302.out.cells 3 rfl)).cell 4; have qgb0 := ((HS302.out.cells 2 rfl)).cell 0; have qgb1 := ((HS302.out.cells 2 rfl)).cell 1; have qgb2 := ((HS302.out.cells 2 rfl)).cell 2; have qgb3 := ((HS302.out.cells 2 rfl)).cell 3; have qgb4 := ((HS302.out.cells 2 rfl)).cell 4; have qgt0 := ((HS302.out.cells 4 rfl)).cell 0; have qgt1 := ((HS302.out.cells 4 rfl)).cell 1; have qgt2 := ((HS302.out.cells 4 rfl)).cell 2; have qgt3 := ((HS302.out.cells 4 rfl)).cell 3; simp only [List.getElem?_cons_zero, List.getElem?_cons_succ] at qga0 qga1 qga2 qga3 qga4 qgb0 qgb1 qgb2 qgb3 qgb4 qgt0 qgt1 qgt2 qgt3))
        go_ret
        exact ⟨rfl, HS302.out.fr⟩
      · have HON := Lib.hid (HRD.out.on hst)
        have h2 : (d.state == 3) = false ∨ (d.state == 3) = true ∧ (c.state == 3) = false := by
          by_cases h : d.state = 3
          · right
            refine ⟨by simp [h], ?_⟩
            rw [beq_eq_false_iff_ne]
            exact fun h' => hst ⟨h, h'⟩
          · left
            rw [beq_eq_false_iff_ne]
            exact h
        clear hst
        rcases h2 with e1 | ⟨e1, e2⟩
        all_goals
          by_cases hww : ww = []
          · subst hww
            by_cases hvv : v = []
            · subst hvv
              have hx := HRD.out.xx
              rw [if_pos rfl] at hx
              have HX := Lib.hid hx
              clear hx
              have hy := HRD.out.yy
              rw [if_pos rfl] at hy
              have HY := Lib.hid hy
              clear hy
              have qgc0 := fun o => ((HS103.out.cells 0 rfl).alloc o).cell 0
              have qgc1 := fun o => ((HS103.out.cells 0 rfl).alloc o).cell 1
              have qgc2 := fun o => ((HS103.out.cells 0 rfl).alloc o).cell 2
              have qgc3 := fun o => ((HS103.out.cells 0 rfl).alloc o).cell 3
              have qgc4 := fun o => ((HS103.out.cells 0 rfl).alloc o).cell 4
              simp only [List.getElem?_cons_zero, List.getElem?_cons_succ] at qgc0 qgc1 qgc2 qgc3 qgc4
              go_wp2_with (first | (refine wpList_store_whole rfl 46 (.tmp 9) (.tmp 93) rfl gb [.int .i64 c.state, .int .i64 c.own, .int .i64 c.other, .int .u64 c.nonce, .int .u64 c.echo] rfl rfl _ _ ((HS103.out.cells 1 rfl).alloc _) (by kernel_rfl) rfl (by simp [Value.oneCell']) ?_; intro w301 hc hf _; have hs := (HS103.out.lay 46 [.int .i64 d.state, .int .i64 d.own, .int .i64 d.other, .int .u64 d.nonce, .int .u64 d.echo]).put 2 rfl hf hc; simp only [List.set_cons_zero, List.set_cons_succ] at hs; have HS301 := Lib.hid hs; have HN301 := Lib.hid ((HN103.out.fr (Fr.alloc _ _ []) (by simp)).fr hf (by have := (HS103.out.own _ (List.mem_of_getElem? (i := 1) rfl)).2.2; intro g hg; simp only [List.mem_singleton] at hg; subst hg; exact this)); clear hc hf hs; have qgd0 := ((HS301.out.cells 0 rfl)).cell 0; have qgd1 := ((HS301.out.cells 0 rfl)).cell 1; have qgd2 := ((HS301.out.cells 0 rfl)).cell 2; have qgd3 := ((HS301.out.cells 0 rfl)).cell 3; have qgd4 := ((HS301.out.cells 0 rfl)).cell 4; simp only [List.getElem?_cons_zero, List.getElem?_cons_succ] at qgd0 qgd1 qgd2 qgd3 qgd4) | (refine wpList_store_whole rfl 46 (.tmp 7) (.tmp 94) rfl ga [.int .i64 d.state, .int .i64 d.own, .int .i64 d.other, .int .u64 d.nonce, .int .u64 d.echo] rfl rfl _ _ (HS301.out.cells 3 rfl) (by kernel_rfl) rfl (by simp [Value.oneCell']) ?_; intro w302 hc hf _; have hs := HS301.out.put 3 rfl hf hc; simp only [List.set_cons_zero, List.set_cons_succ] at hs; have HS302 := Lib.hid hs; have HN302 := Lib.hid (HN301.out.fr hf (by have := (HS301.out.own _ (List.mem_of_getElem? (i := 3) rfl)).2.2; intro g hg; simp only [List.mem_singleton] at hg; subst hg; exact this)); clear hc hf hs; have qga0 := ((HS302.out.cells 3 rfl)).cell 0; have qga1 := ((HS302.out.cells 3 rfl)).cell 1; have qga2 := ((HS302.out.cells 3 rfl)).cell 2; have qga3 := ((HS302.out.cells 3 rfl)).cell 3; have qga4 := ((HS302.out.cells 3 rfl)).cell 4; have qgb0 := ((HS302.out.cells 2 rfl)).cell 0; have qgb1 := ((HS302.out.cells 2 rfl)).cell 1; have qgb2 := ((HS302.out.cells 2 rfl)).cell 2; have qgb3 := ((HS302.out.cells 2 rfl)).cell 3; have qgb4 := ((HS302.out.cells 2 rfl)).cell 4; have qgt0 := ((HS302.out.cells 4 rfl)).cell 0; have qgt1 := ((HS302.out.cells 4 rfl)).cell 1; have qgt2 := ((HS302.out.cells 4 rfl)).cell 2; have qgt3 := ((HS302.out.cells 4 rfl)).cell 3; simp only [List.getElem?_cons_zero, List.getElem?_cons_succ] at qga0 qga1 qga2 qga3 qga4 qgb0 qgb1 qgb2 qgb3 qgb4 qgt0 qgt1 qgt2 qgt3))
              clear qgc0 qgc1 qgc2 qgc3 qgc4 qgd0 qgd1 qgd2 qgd3 qgd4 qga0 qga1 qga2 qga3 qga4 qgb0 qgb1 qgb2 qgb3 qgb4 qgt0 qgt1 qgt2 qgt3
              have hq := sk_again w302 nb mb lv103 L2' d HWD.out HN302.out (by have := HRD.out.len; omega)
              rw [HX.out] at hq
              have HQ := Lib.hid hq
              clear hq
              refine HQ.out.mono ?_
              clear HQ
              rintro e w201 ⟨v201, rfl, hs⟩
              obtain ⟨lv201, hn, hs⟩ := HS302.out.sent hs
              obtain ⟨ao201, c201, hv⟩ := sl_shape (hs.slice 0 rfl)
              rw [u8s_length] at hv
              subst hv
              have HN201 := Lib.hid hn
              have HS201 := Lib.hid hs
              clear hn hs
              have qgb0 := ((HS201.out.cells 2 rfl)).cell 0
              have qgb1 := ((HS201.out.cells 2 rfl)).cell 1
              have qgb2 := ((HS201.out.cells 2 rfl)).cell 2
              have qgb3 := ((HS201.out.cells 2 rfl)).cell 3
              have qgb4 := ((HS201.out.cells 2 rfl)).cell 4
              simp only [List.getElem?_cons_zero, List.getElem?_cons_succ] at qgb0 qgb1 qgb2 qgb3 qgb4
              go_wp2_with fail
              clear qgb0 qgb1 qgb2 qgb3 qgb4
              have hq := sk_again w201 nb mb lv201 L3' c HWC.out HN201.out (by have := HRD.out.len; omega)
              rw [HY.out] at hq
              have HQ := Lib.hid hq
              clear hq
              refine HQ.out.mono ?_
              clear HQ
              rintro e w202 ⟨v202, rfl, hs⟩
              obtain ⟨lv202, hn, hs⟩ := HS201.out.sent hs
              obtain ⟨ao202, c202, hv⟩ := sl_shape (hs.slice 0 rfl)
              rw [u8s_length] at hv
              subst hv
              have HN202 := Lib.hid hn
              have HS202 := Lib.hid hs
              clear hn hs
              go_wp2_with fail
              go_roundw
              case rel =>
                have hfin := (HS202.out.dropO.dropO).keepB (B' := [((.slice ao202 (y2).length c202), u8s y2), ((.slice ao201 (x2).length c201), u8s x2)]) (by intro p hp; simp only [List.mem_cons, List.not_mem_nil, or_false] at hp ⊢; rcases hp with rfl | rfl; all_goals simp)
                (repeat apply Exists.intro)
                exact ⟨⟨i + 1, d, c, x2, y2, L4', lv202, by go_num, HON.out, HN202.out, hfin⟩, rfl⟩
              case measure =>
                simp [intOf]
                omega
            · have hy := HRD.out.yy
              rw [if_neg hvv] at hy
              obtain ⟨k1, k2⟩ := hy
              replace k1 := k1.symm
              replace k2 := k2.symm
              subst k1
              subst k2
              have hvl : ((v.length : Int) == 0) = false := by
                have := List.length_pos_iff.2 hvv
                rw [beq_eq_false_iff_ne]
                omega
              clear hvv
              have hx := HRD.out.xx
              rw [if_pos rfl] at hx
              have HX := Lib.hid hx
              clear hx
              have qgc0 := fun o => ((HS103.out.cells 0 rfl).alloc o).cell 0
              have qgc1 := fun o => ((HS103.out.cells 0 rfl).alloc o).cell 1
              have qgc2 := fun o => ((HS103.out.cells 0 rfl).alloc o).cell 2
              have qgc3 := fun o => ((HS103.out.cells 0 rfl).alloc o).cell 3
              have qgc4 := fun o => ((HS103.out.cells 0 rfl).alloc o).cell 4
              simp only [List.getElem?_cons_zero, List.getElem?_cons_succ] at qgc0 qgc1 qgc2 qgc3 qgc4
              go_wp2_with (first | (refine wpList_store_whole rfl 46 (.tmp 9) (.tmp 93) rfl gb [.int .i64 c.state, .int .i64 c.own, .int .i64 c.other, .int .u64 c.nonce, .int .u64 c.echo] rfl rfl _ _ ((HS103.out.cells 1 rfl).alloc _) (by kernel_rfl) rfl (by simp [Value.oneCell']) ?_; intro w301 hc hf _; have hs := (HS103.out.lay 46 [.int .i64 d.state, .int .i64 d.own, .int .i64 d.other, .int .u64 d.nonce, .int .u64 d.echo]).put 2 rfl hf hc; simp only [List.set_cons_zero, List.set_cons_succ] at hs; have HS301 := Lib.hid hs; have HN301 := Lib.hid ((HN103.out.fr (Fr.alloc _ _ []) (by simp)).fr hf (by have := (HS103.out.own _ (List.mem_of_getElem? (i := 1) rfl)).2.2; intro g hg; simp only [List.mem_singleton] at hg; subst hg; exact this)); clear hc hf hs; have qgd0 := ((HS301.out.cells 0 rfl)).cell 0; have qgd1 := ((HS301.out.cells 0 rfl)).cell 1; have qgd2 := ((HS301.out.cells 0 rfl)).cell 2; have qgd3 := ((HS301.out.cells 0 rfl)).cell 3; have qgd4 := ((HS301.out.cells 0 rfl)).cell 4; simp only [List.getElem?_cons_zero, List.getElem?_cons_succ] at qgd0 qgd1 qgd2 qgd3 qgd4) | (refine wpList_store_whole rfl 46 (.tmp 7) (.tmp 94) rfl ga [.int .i64 d.state, .int .i64 d.own, .int .i64 d.other, .int .u64 d.nonce, .int .u64 d.echo] rfl rfl _ _ (HS301.out.cells 3 rfl) (by kernel_rfl) rfl (by simp [Value.oneCell']) ?_; intro w302 hc hf _; have hs := HS301.out.put 3 rfl hf hc; simp only [List.set_cons_zero, List.set_cons_succ] at hs; have HS302 := Lib.hid hs; have HN302 := Lib.hid (HN301.out.fr hf (by have := (HS301.out.own _ (List.mem_of_getElem? (i := 3) rfl)).2.2; intro g hg; simp only [List.mem_singleton] at hg; subst hg; exact this)); clear hc hf hs; have qga0 := ((HS302.out.cells 3 rfl)).cell 0; have qga1 := ((HS302.out.cells 3 rfl)).cell 1; have qga2 := ((HS302.out.cells 3 rfl)).cell 2; have qga3 := ((HS302.out.cells 3 rfl)).cell 3; have qga4 := ((HS302.out.cells 3 rfl)).cell 4; have qgb0 := ((HS302.out.cells 2 rfl)).cell 0; have qgb1 := ((HS302.out.cells 2 rfl)).cell 1; have qgb2 := ((HS302.out.cells 2 rfl)).cell 2; have qgb3 := ((HS302.out.cells 2 rfl)).cell 3; have qgb4 := ((HS302.out.cells 2 rfl)).cell 4; have qgt0 := ((HS302.out.cells 4 rfl)).cell 0; have qgt1 := ((HS302.out.cells 4 rfl)).cell 1; have qgt2 := ((HS302.out.cells 4 rfl)).cell 2; have qgt3 := ((HS302.out.cells 4 rfl)).cell 3; simp only [List.getElem?_cons_zero, List.getElem?_cons_succ] at qga0 qga1 qga2 qga3 qga4 qgb0 qgb1 qgb2 qgb3 qgb4 qgt0 qgt1 qgt2 qgt3))
              clear qgc0 qgc1 qgc2 qgc3 qgc4 qgd0 qgd1 qgd2 qgd3 qgd4 qga0 qga1 qga2 qga3 qga4 qgb0 qgb1 qgb2 qgb3 qgb4 qgt0 qgt1 qgt2 qgt3
              have hq := sk_again w302 nb mb lv103 L2' d HWD.out HN302.out (by have := HRD.out.len; omega)
              rw [HX.out] at hq
              have HQ := Lib.hid hq
              clear hq
              refine HQ.out.mono ?_
              clear HQ
              rintro e w201 ⟨v201, rfl, hs⟩
              obtain ⟨lv201, hn, hs⟩ := HS302.out.sent hs
              obtain ⟨ao201, c201, hv⟩ := sl_shape (hs.slice 0 rfl)
              rw [u8s_length] at hv
              subst hv
              have HN201 := Lib.hid hn
              have HS201 := Lib.hid hs
              clear hn hs
              have qgb0 := ((HS201.out.cells 2 rfl)).cell 0
              have qgb1 := ((HS201.out.cells 2 rfl)).cell 1
              have qgb2 := ((HS201.out.cells 2 rfl)).cell 2
              have qgb3 := ((HS201.out.cells 2 rfl)).cell 3
              have qgb4 := ((HS201.out.cells 2 rfl)).cell 4
              simp only [List.getElem?_cons_zero, List.getElem?_cons_succ] at qgb0 qgb1 qgb2 qgb3 qgb4
              go_wp2_with fail
              go_roundw
              case rel =>
                have hfin := (HS201.out.dropO.dropO).keepB (B' := [((.slice ao101 (v).length c101), u8s v), ((.slice ao201 (x2).length c201), u8s x2)]) (by intro p hp; simp only [List.mem_cons, List.not_mem_nil, or_false] at hp ⊢; rcases hp with rfl | rfl; all_goals simp)
                (repeat apply Exists.intro)
                exact ⟨⟨i + 1, d, c, x2, v, L3', lv201, by go_num, HON.out, HN201.out, hfin⟩, rfl⟩
              case measure =>
                simp [intOf]
                omega
          · have hx := HRD.out.xx
            rw [if_neg hww] at hx
            obtain ⟨k1, k2⟩ := hx
            replace k1 := k1.symm
            replace k2 := k2.symm
            subst k1
            subst k2
            have hwl : ((ww.length : Int) == 0) = false := by
              have := List.length_pos_iff.2 hww
              rw [beq_eq_false_iff_ne]
              omega
            clear hww
            by_cases hvv : v = []
            · subst hvv
              have hy := HRD.out.yy
              rw [if_pos rfl] at hy
              have HY := Lib.hid hy
              clear hy
              have qgc0 := fun o => ((HS103.out.cells 0 rfl).alloc o).cell 0
              have qgc1 := fun o => ((HS103.out.cells 0 rfl).alloc o).cell 1
              have qgc2 := fun o => ((HS103.out.cells 0 rfl).alloc o).cell 2
              have qgc3 := fun o => ((HS103.out.cells 0 rfl).alloc o).cell 3
              have qgc4 := fun o => ((HS103.out.cells 0 rfl).alloc o).cell 4
              simp only [List.getElem?_cons_zero, List.getElem?_cons_succ] at qgc0 qgc1 qgc2 qgc3 qgc4
              go_wp2_with (first | (refine wpList_store_whole rfl 46 (.tmp 9) (.tmp 93) rfl gb [.int .i64 c.state, .int .i64 c.own, .int .i64 c.other, .int .u64 c.nonce, .int .u64 c.echo] rfl rfl _ _ ((HS103.out.cells 1 rfl).alloc _) (by kernel_rfl) rfl (by simp [Value.oneCell']) ?_; intro w301 hc hf _; have hs := (HS103.out.lay 46 [.int .i64 d.state, .int .i64 d.own, .int .i64 d.other, .int .u64 d.nonce, .int .u64 d.echo]).put 2 rfl hf hc; simp only [List.set_cons_zero, List.set_cons_succ] at hs; have HS301 := Lib.hid hs; have HN301 := Lib.hid ((HN103.out.fr (Fr.alloc _ _ []) (by simp)).fr hf (by have := (HS103.out.own _ (List.mem_of_getElem? (i := 1) rfl)).2.2; intro g hg; simp only [List.mem_singleton] at hg; subst hg; exact this)); clear hc hf hs; have qgd0 := ((HS301.out.cells 0 rfl)).cell 0; have qgd1 := ((HS301.out.cells 0 rfl)).cell 1; have qgd2 := ((HS301.out.cells 0 rfl)).cell 2; have qgd3 := ((HS301.out.cells 0 rfl)).cell 3; have qgd4 := ((HS301.out.cells 0 rfl)).cell 4; simp only [List.getElem?_cons_zero, List.getElem?_cons_succ] at qgd0 qgd1 qgd2 qgd3 qgd4) | (refine wpList_store_whole rfl 46 (.tmp 7) (.tmp 94) rfl ga [.int .i64 d.state, .int .i64 d.own, .int .i64 d.other, .int .u64 d.nonce, .int .u64 d.echo] rfl rfl _ _ (HS301.out.cells 3 rfl) (by kernel_rfl) rfl (by simp [Value.oneCell']) ?_; intro w302 hc hf _; have hs := HS301.out.put 3 rfl hf hc; simp only [List.set_cons_zero, List.set_cons_succ] at hs; have HS302 := Lib.hid hs; have HN302 := Lib.hid (HN301.out.fr hf (by have := (HS301.out.own _ (List.mem_of_getElem? (i := 3) rfl)).2.2; intro g hg; simp only [List.mem_singleton] at hg; subst hg; exact this)); clear hc hf hs; have qga0 := ((HS302.out.cells 3 rfl)).cell 0; have qga1 := ((HS302.out.cells 3 rfl)).cell 1; have qga2 := ((HS302.out.cells 3 rfl)).cell 2; have qga3 := ((HS302.out.cells 3 rfl)).cell 3; have qga4 := ((HS302.out.cells 3 rfl)).cell 4; have qgb0 := ((HS302.out.cells 2 rfl)).cell 0; have qgb1 := ((HS302.out.cells 2 rfl)).cell 1; have qgb2 := ((HS302.out.cells 2 rfl)).cell 2; have qgb3 := ((HS302.out.cells 2 rfl)).cell 3; have qgb4 := ((HS302.out.cells 2 rfl)).cell 4; have qgt0 := ((HS302.out.cells 4 rfl)).cell 0; have qgt1 := ((HS302.out.cells 4 rfl)).cell 1; have qgt2 := ((HS302.out.cells 4 rfl)).cell 2; have qgt3 := ((HS302.out.cells 4 rfl)).cell 3; simp only [List.getElem?_cons_zero, List.getElem?_cons_succ] at qga0 qga1 qga2 qga3 qga4 qgb0 qgb1 qgb2 qgb3 qgb4 qgt0 qgt1 qgt2 qgt3))
              clear qgc0 qgc1 qgc2 qgc3 qgc4 qgd0 qgd1 qgd2 qgd3 qgd4 qga0 qga1 qga2 qga3 qga4 qgb0 qgb1 qgb2 qgb3 qgb4 qgt0 qgt1 qgt2 qgt3
              have hq := sk_again w302 nb mb lv103 L2' c HWC.out HN302.out (by have := HRD.out.len; omega)
              rw [HY.out] at hq
              have HQ := Lib.hid hq
              clear hq
              refine HQ.out.mono ?_
              clear HQ
              rintro e w201 ⟨v201, rfl, hs⟩
              obtain ⟨lv201, hn, hs⟩ := HS302.out.sent hs
              obtain ⟨ao201, c201, hv⟩ := sl_shape (hs.slice 0 rfl)
              rw [u8s_length] at hv
              subst hv
              have HN201 := Lib.hid hn
              have HS201 := Lib.hid hs
              clear hn hs
              go_wp2_with fail
              go_roundw
              case rel =>
                have hfin := (HS201.out.dropO.dropO).keepB (B' := [((.slice ao201 (y2).length c201), u8s y2), ((.slice ao103 (ww).length c103), u8s ww)]) (by intro p hp; simp only [List.mem_cons, List.not_mem_nil, or_false] at hp ⊢; rcases hp with rfl | rfl; all_goals simp)
                (repeat apply Exists.intro)
                exact ⟨⟨i + 1, d, c, ww, y2, L4', lv201, by go_num, HON.out, HN201.out, hfin⟩, rfl⟩
              case measure =>
                simp [intOf]
                omega
            · have hy := HRD.out.yy
              rw [if_neg hvv] at hy
              obtain ⟨k1, k2⟩ := hy
              replace k1 := k1.symm
              replace k2 := k2.symm
              subst k1
              subst k2
              have hvl : ((v.length : Int) == 0) = false := by
                have := List.length_pos_iff.2 hvv
                rw [beq_eq_false_iff_ne]
                omega
              clear hvv
              have qgc0 := fun o => ((HS103.out.cells 0 rfl).alloc o).cell 0
              have qgc1 := fun o => ((HS103.out.cells 0 rfl).alloc o).cell 1
              have qgc2 := fun o => ((HS103.out.cells 0 rfl).alloc o).cell 2
              have qgc3 := fun o => ((HS103.out.cells 0 rfl).alloc o).cell 3
              have qgc4 := fun o => ((HS103.out.cells 0 rfl).alloc o).cell 4
              simp only [List.getElem?_cons_zero, List.getElem?_cons_succ] at qgc0 qgc1 qgc2 qgc3 qgc4
              go_wp2_with (first | (refine wpList_store_whole rfl 46 (.tmp 9) (.tmp 93) rfl gb [.int .i64 c.state, .int .i64 c.own, .int .i64 c.other, .int .u64 c.nonce, .int .u64 c.echo] rfl rfl _ _ ((HS103.out.cells 1 rfl).alloc _) (by kernel_rfl) rfl (by simp [Value.oneCell']) ?_; intro w301 hc hf _; have hs := (HS103.out.lay 46 [.int .i64 d.state, .int .i64 d.own, .int .i64 d.other, .int .u64 d.nonce, .int .u64 d.echo]).put 2 rfl hf hc; simp only [List.set_cons_zero, List.set_cons_succ] at hs; have HS301 := Lib.hid hs; have HN301 := Lib.hid ((HN103.out.fr (Fr.alloc _ _ []) (by simp)).fr hf (by have := (HS103.out.own _ (List.mem_of_getElem? (i := 1) rfl)).2.2; intro g hg; simp only [List.mem_singleton] at hg; subst hg; exact this)); clear hc hf hs; have qgd0 := ((HS301.out.cells 0 rfl)).cell 0; have qgd1 := ((HS301.out.cells 0 rfl)).cell 1; have qgd2 := ((HS301.out.cells 0 rfl)).cell 2; have qgd3 := ((HS301.out.cells 0 rfl)).cell 3; have qgd4 := ((HS301.out.cells 0 rfl)).cell 4; simp only [List.getElem?_cons_zero, List.getElem?_cons_succ] at qgd0 qgd1 qgd2 qgd3 qgd4) | (refine wpList_store_whole rfl 46 (.tmp 7) (.tmp 94) rfl ga [.int .i64 d.state, .int .i64 d.own, .int .i64 d.other, .int .u64 d.nonce, .int .u64 d.echo] rfl rfl _ _ (HS301.out.cells 3 rfl) (by kernel_rfl) rfl (by simp [Value.oneCell']) ?_; intro w302 hc hf _; have hs := HS301.out.put 3 rfl hf hc; simp only [List.set_cons_zero, List.set_cons_succ] at hs; have HS302 := Lib.hid hs; have HN302 := Lib.hid (HN301.out.fr hf (by have := (HS301.out.own _ (List.mem_of_getElem? (i := 3) rfl)).2.2; intro g hg; simp only [List.mem_singleton] at hg; subst hg; exact this)); clear hc hf hs; have qga0 := ((HS302.out.cells 3 rfl)).cell 0; have qga1 := ((HS302.out.cells 3 rfl)).cell 1; have qga2 := ((HS302.out.cells 3 rfl)).cell 2; have qga3 := ((HS302.out.cells 3 rfl)).cell 3; have qga4 := ((HS302.out.cells 3 rfl)).cell 4; have qgb0 := ((HS302.out.cells 2 rfl)).cell 0; have qgb1 := ((HS302.out.cells 2 rfl)).cell 1; have qgb2 := ((HS302.out.cells 2 rfl)).cell 2; have qgb3 := ((HS302.out.cells 2 rfl)).cell 3; have qgb4 := ((HS302.out.cells 2 rfl)).cell 4; have qgt0 := ((HS302.out.cells 4 rfl)).cell 0; have qgt1 := ((HS302.out.cells 4 rfl)).cell 1; have qgt2 := ((HS302.out.cells 4 rfl)).cell 2; have qgt3 := ((HS302.out.cells 4 rfl)).cell 3; simp only [List.getElem?_cons_zero, List.getElem?_cons_succ] at qga0 qga1 qga2 qga3 qga4 qgb0 qgb1 qgb2 qgb3 qgb4 qgt0 qgt1 qgt2 qgt3))
              go_roundw
              case rel =>
                have hfin := (HS302.out.dropO.dropO).keepB (B' := [((.slice ao101 (v).length c101), u8s v), ((.slice ao103 (ww).length c103), u8s ww)]) (by intro p hp; simp only [List.mem_cons, List.not_mem_nil, or_false] at hp ⊢; rcases hp with rfl | rfl; all_goals simp)
                (repeat apply Exists.intro)
                exact ⟨⟨i + 1, d, c, ww, v, L2', lv103, by go_num, HON.out, HN302.out, hfin⟩, rfl⟩
              case measure =>
                simp [intOf]
                omega

end Go.Proofs.Ytjfmgpelkhgodaa
