/- The walk of shake.New. -/
import Derived.Test.YtjfmgpelkhgodaaShakeE
namespace Go.Proofs.Ytjfmgpelkhgodaa
open Go.RowKit
attribute [local go_sem ↓ high] run_min_whole run_max_whole

/-- A fresh one, or none. -/
def skNew (own other : Int) (nonce : Nat) : Value := if skMay own other nonce then .tuple #[.agg #[.int .i64 0, .int .i64 own, .int .i64 other, .int .u64 nonce, .int .u64 0], .int .i64 0] else .tuple #[.agg #[.int .i64 0, .int .i64 0, .int .i64 0, .int .u64 0, .int .u64 0], .int .i64 1]

set_option maxRecDepth 100000 in
set_option maxHeartbeats 1600000 in
theorem sk_new (w : World) (own other : Int) (nonce : Nat) :
    Calls Try.prog 21 #[.int .i64 own, .int .i64 other, .int .u64 nonce] w fun e w' => e = .returned (skNew own other nonce) ∧ Fr [] w w' := by
  cases h1' : mayPeer own
  · have HV : Hid (skNew own other nonce = .tuple #[.agg #[.int .i64 0, .int .i64 0, .int .i64 0, .int .u64 0, .int .u64 0], .int .i64 1]) := by
      show _ = _
      unfold skNew skMay
      rw [if_neg (by simp [h1'])]
    rw [HV.out]
    have HC0 := Lib.hid (Cells.new w 46 [.int .i64 0, .int .i64 0, .int .i64 0, .int .u64 0, .int .u64 0])
    go_enter Try.func21, Try.ntmps21
    go_wp2_with fail
    refine (sk_mayPeer _ own).mono ?_
    rw [h1']
    rintro e w1 ⟨rfl, hf1⟩
    have HFW : Hid (Fr [] w w1) := ((Fr.refl [] w).calloc _).trans hf1
    have HW := Lib.hid (HC0.out.fr hf1 (by simp))
    clear hf1
    go_wp2_with (refine wpList_store_whole rfl 46 (.tmp 6) (.tmp 29) rfl w.heap.size [.int .i64 0, .int .i64 0, .int .i64 0, .int .u64 0, .int .u64 0] rfl rfl _ _ HW.out (by kernel_rfl) rfl (by simp [Value.oneCell']) ?_; intro w3 hc3 hf3 _; have HC3 := Lib.hid hc3; have HF3 := Lib.hid hf3; clear hc3 hf3)
    have y0 := HC3.out.cell 0
    have y1 := HC3.out.cell 1
    have y2 := HC3.out.cell 2
    have y3 := HC3.out.cell 3
    have y4 := HC3.out.cell 4
    simp only [List.getElem?_cons_zero, List.getElem?_cons_succ] at y0 y1 y2 y3 y4
    refine bodyPost_ret (v := .tuple #[.agg #[.int .i64 0, .int .i64 0, .int .i64 0, .int .u64 0, .int .u64 0], .int .i64 1]) (by simp [results, Try.results21, go_sem, y0, y1, y2, y3, y4]) rfl ⟨rfl, HFW.out.step HF3.out (by simp)⟩
  · cases h2' : mayPeer other
    · have HV : Hid (skNew own other nonce = .tuple #[.agg #[.int .i64 0, .int .i64 0, .int .i64 0, .int .u64 0, .int .u64 0], .int .i64 1]) := by
        show _ = _
        unfold skNew skMay
        rw [if_neg (by simp [h2'])]
      rw [HV.out]
      have HC0 := Lib.hid (Cells.new w 46 [.int .i64 0, .int .i64 0, .int .i64 0, .int .u64 0, .int .u64 0])
      go_enter Try.func21, Try.ntmps21
      go_wp2_with fail
      refine (sk_mayPeer _ own).mono ?_
      rw [h1']
      rintro e w1 ⟨rfl, hf1⟩
      have HFV : Hid (Fr [] w w1) := ((Fr.refl [] w).calloc _).trans hf1
      have HV1 := Lib.hid (HC0.out.fr hf1 (by simp))
      clear hf1
      go_wp2_with fail
      refine (sk_mayPeer _ other).mono ?_
      rw [h2']
      rintro e w2 ⟨rfl, hf2⟩
      have HFW := Lib.hid (HFV.out.trans hf2)
      have HW := Lib.hid (HV1.out.fr hf2 (by simp))
      clear hf2
      go_wp2_with (refine wpList_store_whole rfl 46 (.tmp 6) (.tmp 29) rfl w.heap.size [.int .i64 0, .int .i64 0, .int .i64 0, .int .u64 0, .int .u64 0] rfl rfl _ _ HW.out (by kernel_rfl) rfl (by simp [Value.oneCell']) ?_; intro w3 hc3 hf3 _; have HC3 := Lib.hid hc3; have HF3 := Lib.hid hf3; clear hc3 hf3)
      have y0 := HC3.out.cell 0
      have y1 := HC3.out.cell 1
      have y2 := HC3.out.cell 2
      have y3 := HC3.out.cell 3
      have y4 := HC3.out.cell 4
      simp only [List.getElem?_cons_zero, List.getElem?_cons_succ] at y0 y1 y2 y3 y4
      refine bodyPost_ret (v := .tuple #[.agg #[.int .i64 0, .int .i64 0, .int .i64 0, .int .u64 0, .int .u64 0], .int .i64 1]) (by simp [results, Try.results21, go_sem, y0, y1, y2, y3, y4]) rfl ⟨rfl, HFW.out.step HF3.out (by simp)⟩
    · by_cases h3 : own = other
      · have HV : Hid (skNew own other nonce = .tuple #[.agg #[.int .i64 0, .int .i64 0, .int .i64 0, .int .u64 0, .int .u64 0], .int .i64 1]) := by
          show _ = _
          unfold skNew skMay
          rw [if_neg (by simp [h3])]
        rw [HV.out]
        subst h3
        have HC0 := Lib.hid (Cells.new w 46 [.int .i64 0, .int .i64 0, .int .i64 0, .int .u64 0, .int .u64 0])
        go_enter Try.func21, Try.ntmps21
        go_wp2_with fail
        refine (sk_mayPeer _ own).mono ?_
        rw [h1']
        rintro e w1 ⟨rfl, hf1⟩
        have HFV : Hid (Fr [] w w1) := ((Fr.refl [] w).calloc _).trans hf1
        have HV1 := Lib.hid (HC0.out.fr hf1 (by simp))
        clear hf1
        go_wp2_with fail
        refine (sk_mayPeer _ own).mono ?_
        rw [h1']
        rintro e w2 ⟨rfl, hf2⟩
        have HFW := Lib.hid (HFV.out.trans hf2)
        have HW := Lib.hid (HV1.out.fr hf2 (by simp))
        clear hf2
        skip
        go_wp2_with (refine wpList_store_whole rfl 46 (.tmp 6) (.tmp 29) rfl w.heap.size [.int .i64 0, .int .i64 0, .int .i64 0, .int .u64 0, .int .u64 0] rfl rfl _ _ HW.out (by kernel_rfl) rfl (by simp [Value.oneCell']) ?_; intro w3 hc3 hf3 _; have HC3 := Lib.hid hc3; have HF3 := Lib.hid hf3; clear hc3 hf3)
        have y0 := HC3.out.cell 0
        have y1 := HC3.out.cell 1
        have y2 := HC3.out.cell 2
        have y3 := HC3.out.cell 3
        have y4 := HC3.out.cell 4
        simp only [List.getElem?_cons_zero, List.getElem?_cons_succ] at y0 y1 y2 y3 y4
        refine bodyPost_ret (v := .tuple #[.agg #[.int .i64 0, .int .i64 0, .int .i64 0, .int .u64 0, .int .u64 0], .int .i64 1]) (by simp [results, Try.results21, go_sem, y0, y1, y2, y3, y4]) rfl ⟨rfl, HFW.out.step HF3.out (by simp)⟩
      · have h3' : ¬ other = own := fun h => h3 h.symm
        by_cases h4 : nonce < 1
        · have HV : Hid (skNew own other nonce = .tuple #[.agg #[.int .i64 0, .int .i64 0, .int .i64 0, .int .u64 0, .int .u64 0], .int .i64 1]) := by
            show _ = _
            unfold skNew skMay
            rw [if_neg (by simp [show ¬ 1 ≤ nonce from by omega])]
          rw [HV.out]
          have h4' : (nonce : Int) < 1 := by omega
          have HC0 := Lib.hid (Cells.new w 46 [.int .i64 0, .int .i64 0, .int .i64 0, .int .u64 0, .int .u64 0])
          go_enter Try.func21, Try.ntmps21
          go_wp2_with fail
          refine (sk_mayPeer _ own).mono ?_
          rw [h1']
          rintro e w1 ⟨rfl, hf1⟩
          have HFV : Hid (Fr [] w w1) := ((Fr.refl [] w).calloc _).trans hf1
          have HV1 := Lib.hid (HC0.out.fr hf1 (by simp))
          clear hf1
          go_wp2_with fail
          refine (sk_mayPeer _ other).mono ?_
          rw [h2']
          rintro e w2 ⟨rfl, hf2⟩
          have HFW := Lib.hid (HFV.out.trans hf2)
          have HW := Lib.hid (HV1.out.fr hf2 (by simp))
          clear hf2
          go_wp2_with (refine wpList_store_whole rfl 46 (.tmp 6) (.tmp 29) rfl w.heap.size [.int .i64 0, .int .i64 0, .int .i64 0, .int .u64 0, .int .u64 0] rfl rfl _ _ HW.out (by kernel_rfl) rfl (by simp [Value.oneCell']) ?_; intro w3 hc3 hf3 _; have HC3 := Lib.hid hc3; have HF3 := Lib.hid hf3; clear hc3 hf3)
          have y0 := HC3.out.cell 0
          have y1 := HC3.out.cell 1
          have y2 := HC3.out.cell 2
          have y3 := HC3.out.cell 3
          have y4 := HC3.out.cell 4
          simp only [List.getElem?_cons_zero, List.getElem?_cons_succ] at y0 y1 y2 y3 y4
          refine bodyPost_ret (v := .tuple #[.agg #[.int .i64 0, .int .i64 0, .int .i64 0, .int .u64 0, .int .u64 0], .int .i64 1]) (by simp [results, Try.results21, go_sem, y0, y1, y2, y3, y4]) rfl ⟨rfl, HFW.out.step HF3.out (by simp)⟩
        · have h4' : ¬ (nonce : Int) < 1 := by omega
          by_cases h5 : 9223372036854775807 < nonce
          · have HV : Hid (skNew own other nonce = .tuple #[.agg #[.int .i64 0, .int .i64 0, .int .i64 0, .int .u64 0, .int .u64 0], .int .i64 1]) := by
              show _ = _
              unfold skNew skMay
              rw [if_neg (by simp [show ¬ nonce ≤ 9223372036854775807 from by omega])]
            rw [HV.out]
            have h5' : (9223372036854775807 : Int) < (nonce : Int) := by omega
            have HC0 := Lib.hid (Cells.new w 46 [.int .i64 0, .int .i64 0, .int .i64 0, .int .u64 0, .int .u64 0])
            go_enter Try.func21, Try.ntmps21
            go_wp2_with fail
            refine (sk_mayPeer _ own).mono ?_
            rw [h1']
            rintro e w1 ⟨rfl, hf1⟩
            have HFV : Hid (Fr [] w w1) := ((Fr.refl [] w).calloc _).trans hf1
            have HV1 := Lib.hid (HC0.out.fr hf1 (by simp))
            clear hf1
            go_wp2_with fail
            refine (sk_mayPeer _ other).mono ?_
            rw [h2']
            rintro e w2 ⟨rfl, hf2⟩
            have HFW := Lib.hid (HFV.out.trans hf2)
            have HW := Lib.hid (HV1.out.fr hf2 (by simp))
            clear hf2
            go_wp2_with (refine wpList_store_whole rfl 46 (.tmp 6) (.tmp 29) rfl w.heap.size [.int .i64 0, .int .i64 0, .int .i64 0, .int .u64 0, .int .u64 0] rfl rfl _ _ HW.out (by kernel_rfl) rfl (by simp [Value.oneCell']) ?_; intro w3 hc3 hf3 _; have HC3 := Lib.hid hc3; have HF3 := Lib.hid hf3; clear hc3 hf3)
            have y0 := HC3.out.cell 0
            have y1 := HC3.out.cell 1
            have y2 := HC3.out.cell 2
            have y3 := HC3.out.cell 3
            have y4 := HC3.out.cell 4
            simp only [List.getElem?_cons_zero, List.getElem?_cons_succ] at y0 y1 y2 y3 y4
            refine bodyPost_ret (v := .tuple #[.agg #[.int .i64 0, .int .i64 0, .int .i64 0, .int .u64 0, .int .u64 0], .int .i64 1]) (by simp [results, Try.results21, go_sem, y0, y1, y2, y3, y4]) rfl ⟨rfl, HFW.out.step HF3.out (by simp)⟩
          · have HV : Hid (skNew own other nonce = .tuple #[.agg #[.int .i64 0, .int .i64 own, .int .i64 other, .int .u64 nonce, .int .u64 0], .int .i64 0]) := by
              show _ = _
              unfold skNew skMay
              rw [if_pos (by simp [h1', h2', h3]; omega)]
            rw [HV.out]
            have h5' : decide ((9223372036854775807 : Int) < (nonce : Int)) = false := by simp; omega
            have h3b : (own == other) = false := beq_false_of_ne h3
            have h4b : decide ((nonce : Int) < 1) = false := by simp; omega
            have HC0 := Lib.hid (Cells.new w 46 [.int .i64 0, .int .i64 0, .int .i64 0, .int .u64 0, .int .u64 0])
            go_enter Try.func21, Try.ntmps21
            go_wp2_with fail
            refine (sk_mayPeer _ own).mono ?_
            rw [h1']
            rintro e w1 ⟨rfl, hf1⟩
            have HFV : Hid (Fr [] w w1) := ((Fr.refl [] w).calloc _).trans hf1
            have HV1 := Lib.hid (HC0.out.fr hf1 (by simp))
            clear hf1
            go_wp2_with fail
            refine (sk_mayPeer _ other).mono ?_
            rw [h2']
            rintro e w2 ⟨rfl, hf2⟩
            have HFW := Lib.hid (HFV.out.trans hf2)
            have HW := Lib.hid (HV1.out.fr hf2 (by simp))
            clear hf2
            go_wp2_with (refine wpList_store_whole rfl 46 (.tmp 6) (.tmp 33) rfl w.heap.size [.int .i64 0, .int .i64 own, .int .i64 other, .int .u64 nonce, .int .u64 0] rfl rfl _ _ HW.out (by kernel_rfl) rfl (by simp [Value.oneCell']) ?_; intro w3 hc3 hf3 _; have HC3 := Lib.hid hc3; have HF3 := Lib.hid hf3; clear hc3 hf3)
            have y0 := HC3.out.cell 0
            have y1 := HC3.out.cell 1
            have y2 := HC3.out.cell 2
            have y3 := HC3.out.cell 3
            have y4 := HC3.out.cell 4
            simp only [List.getElem?_cons_zero, List.getElem?_cons_succ] at y0 y1 y2 y3 y4
            refine bodyPost_ret (v := .tuple #[.agg #[.int .i64 0, .int .i64 own, .int .i64 other, .int .u64 nonce, .int .u64 0], .int .i64 0]) (by simp [results, Try.results21, go_sem, y0, y1, y2, y3, y4]) rfl ⟨rfl, HFW.out.step HF3.out (by simp)⟩
end Go.Proofs.Ytjfmgpelkhgodaa
