/- The walk of TrustTurns: it answers true. No condition. -/
import Derived.Test.YtjfmgpelkhgodaaTrustE
namespace Go.Proofs.Ytjfmgpelkhgodaa
open Go.RowKit
attribute [local go_sem ↓ high] run_min_whole run_max_whole

/-- Told 'one' by i groups at time 1. -/
def tA (one : Int) : Nat → Bf
  | 0 => Bf.zero
  | i + 1 => (tA one i).hear 1 ((i + 1) * 65536) one
/-- Then the other by i groups at time 2. -/
def tB (one : Int) (k : Nat) : Nat → Bf
  | 0 => (tA one k).on 1
  | i + 1 => (tB one k i).hear 2 ((i + 50) * 65536) (3 - one)
theorem tA_ok (one : Int) (i : Nat) : (tA one i).Ok := by
  induction i with
  | zero => exact Bf.Ok.zero
  | succ i ih => exact ih.hear _ _ _
theorem tB_ok (one : Int) (k i : Nat) : (tB one k i).Ok := by
  induction i with
  | zero => exact (tA_ok one k).on 1
  | succ i ih => exact ih.hear _ _ _

def chkA (one : Int) : Bool := (List.range 8).all fun i => decide ((tA one i).answer 1 ((i + 1) * 65536) one = 0)
def chkB (one : Int) : Bool := (List.range 9).all fun k => decide (((tA one k).on 1).st = (if k = 0 then 0 else one) ∧ ((tA one k).on 1).cf = (if k = 0 then 0 else min ((k : Int) - 1) 3))
def chkC (one : Int) : Bool := (List.range 9).all fun k => (List.range 8).all fun i => decide ((tB one k i).answer 2 ((i + 50) * 65536) (3 - one) = 0)
def endSt (one : Int) (k j : Nat) : Int := if k = 0 then (if j = 0 then 0 else 3 - one) else if (j : Int) ≤ min ((k : Int) - 1) 3 then one else 3 - one
def endCf (k j : Nat) : Int := if k = 0 then (if j = 0 then 0 else min ((j : Int) - 1) 3) else if (j : Int) ≤ min ((k : Int) - 1) 3 then min ((k : Int) - 1) 3 - j else min ((j : Int) - min ((k : Int) - 1) 3 - 1) 3
def chkD (one : Int) : Bool := (List.range 9).all fun k => (List.range 9).all fun j => decide (((tB one k j).on 2).st = endSt one k j ∧ ((tB one k j).on 2).cf = endCf k j)

theorem chk_all : (chkA 1 && chkA 2 && chkB 1 && chkB 2 && chkC 1 && chkC 2 && chkD 1 && chkD 2) = true := by decide +kernel

section
variable {one : Int} (h : one = 1 ∨ one = 2)
include h
theorem tA_answer {i : Nat} (hi : i < 8) : (tA one i).answer 1 ((i + 1) * 65536) one = 0 := by
  have c : chkA one = true := by
    have := chk_all
    simp only [Bool.and_eq_true] at this
    rcases h with rfl | rfl <;> simp [this]
  unfold chkA at c
  have := List.all_eq_true.1 c i (List.mem_range.2 hi)
  simpa using this
theorem tA_end {k : Nat} (hk : k ≤ 8) : ((tA one k).on 1).st = (if k = 0 then 0 else one) ∧ ((tA one k).on 1).cf = (if k = 0 then 0 else min ((k : Int) - 1) 3) := by
  have c : chkB one = true := by
    have := chk_all
    simp only [Bool.and_eq_true] at this
    rcases h with rfl | rfl <;> simp [this]
  unfold chkB at c
  exact of_decide_eq_true (List.all_eq_true.1 c k (List.mem_range.2 (by omega)))
theorem tB_answer {k i : Nat} (hk : k ≤ 8) (hi : i < 8) : (tB one k i).answer 2 ((i + 50) * 65536) (3 - one) = 0 := by
  have c : chkC one = true := by
    have := chk_all
    simp only [Bool.and_eq_true] at this
    rcases h with rfl | rfl <;> simp [this]
  unfold chkC at c
  exact of_decide_eq_true (List.all_eq_true.1 (List.all_eq_true.1 c k (List.mem_range.2 (by omega))) i (List.mem_range.2 hi))
theorem tB_end {k j : Nat} (hk : k ≤ 8) (hj : j ≤ 8) : ((tB one k j).on 2).st = endSt one k j ∧ ((tB one k j).on 2).cf = endCf k j := by
  have c : chkD one = true := by
    have := chk_all
    simp only [Bool.and_eq_true] at this
    rcases h with rfl | rfl <;> simp [this]
  unfold chkD at c
  exact of_decide_eq_true (List.all_eq_true.1 (List.all_eq_true.1 c k (List.mem_range.2 (by omega))) j (List.mem_range.2 (by omega)))
end

set_option maxRecDepth 100000 in
set_option maxHeartbeats 1600000 in
theorem tr_turns (t n m : Nat) (ht : t < 256) (hn : n < 256) (hm : m < 256) (w : World) : Calls Try.prog 4 #[.int .u8 t, .int .u8 n, .int .u8 m] w fun e w' => e = .returned (.bool true) ∧ Fr [] w w' := by
  go_enter Try.func4, Try.ntmps4
  go_wp2_with fail
  refine (tr_awake w).mono ?_
  rintro e w0 ⟨rfl, hF0⟩
  have HF0 := Lib.hid hF0
  clear hF0
  go_wp2_with fail
  obtain ⟨one, hone, h12⟩ : ∃ one : Int, 1 + (t : Int) % 2 = one ∧ (one = 1 ∨ one = 2) := ⟨_, rfl, by omega⟩
  rw [hone]
  clear hone
  have H12 := Lib.hid h12
  have h1 : 1 ≤ one := by omega
  have h2 : one ≤ 2 := by omega
  clear h12
  refine (bf_new0 w0).mono ?_
  rintro e w1 ⟨b, rfl, hB, hbw, hb, hF⟩
  have HF : Hid (Fr [] w w1) := HF0.out.trans hF
  have HB := Lib.hid hB
  have HBW : Hid (w.heap.size ≤ b) := by
    have := HF0.out.size
    show _ ≤ _
    omega
  clear hF hB hbw
  go_wp2_with fail
  rw [show ((n : Int) % 9) = ((n % 9 : Nat) : Int) from by omega]
  have hk8 : n % 9 ≤ 8 := by omega
  generalize n % 9 = k at hk8 ⊢
  go_loopw [11] (fun v wr => ∃ i : Nat, i ≤ k ∧ v = .int .i64 i ∧ BelAt wr b (tA one i) ∧ Fr [] w wr) (fun v _ => k - (intOf v).toNat)
  case atStart => exact ⟨0, by omega, rfl, HB.out, HF.out⟩
  case round =>
    obtain ⟨i, hi, rfl, hB1, hF1⟩ := hrel
    have HB1 := Lib.hid hB1
    have HF1 := Lib.hid hF1
    clear hB1 hF1
    by_cases h4 : i < k
    · go_wp2_with fail
      rw [show ((i : Int) + 1) * 65536 = (((i + 1) * 65536 : Nat) : Int) from by omega]
      refine (bf_hear b _ (tA one i) 1 ((i + 1) * 65536) one HB1.out (tA_ok one i)).mono ?_
      rw [tA_answer H12.out (by omega)]
      rintro e w2 ⟨rfl, hB2, hF2⟩
      have HB2 : Hid (BelAt w2 b (tA one (i + 1))) := hB2
      have HF2 : Hid (Fr [] w w2) := HF1.out.own HBW.out hF2
      clear hB2 hF2
      go_wp2
      go_roundw
      case rel => exact ⟨i + 1, by omega, by go_num, HB2.out, HF2.out⟩
      case measure =>
        simp [intOf]
        omega
    · have hik : i = k := by omega
      subst hik
      clear hi h4 HB HF
      by_cases hk0 : i = 0
      · obtain rfl : i = 0 := hk0
        rw [show ((0 : Nat) : Int) = 0 from rfl]
        go_wp2_with fail
        refine (bf_status b _ (tA one 0) 1 HB1.out (tA_ok one 0)).mono ?_
        rw [(tA_end H12.out hk8).1, (tA_end H12.out hk8).2, if_pos rfl, if_pos rfl]
        rintro e w2 ⟨rfl, hB2, hF2⟩
        have HB2 : Hid (BelAt w2 b (tB one 0 0)) := hB2
        have HF2 : Hid (Fr [] w w2) := HF1.out.own HBW.out hF2
        clear hB2 hF2 HB1 HF1
        go_wp2_with fail
        rw [show ((m : Int) % 9) = ((m % 9 : Nat) : Int) from by omega]
        have hj8 : m % 9 ≤ 8 := by omega
        generalize m % 9 = j at hj8 ⊢
        go_loopw [15] (fun v wr => ∃ p : Nat, p ≤ j ∧ v = .int .i64 p ∧ BelAt wr b (tB one 0 p) ∧ Fr [] w wr) (fun v _ => j - (intOf v).toNat)
        case atStart => exact ⟨0, by omega, rfl, HB2.out, HF2.out⟩
        case round =>
          obtain ⟨p, hp, rfl, hB3, hF3⟩ := hrel
          have HB3 := Lib.hid hB3
          have HF3 := Lib.hid hF3
          clear hB3 hF3
          by_cases h4 : p < j
          · go_wp2_with fail
            rw [show ((p : Int) + 50) * 65536 = (((p + 50) * 65536 : Nat) : Int) from by omega]
            refine (bf_hear b _ (tB one 0 p) 2 ((p + 50) * 65536) (3 - one) HB3.out (tB_ok one 0 p)).mono ?_
            rw [tB_answer H12.out hk8 (by omega)]
            rintro e w4 ⟨rfl, hB4, hF4⟩
            have HB4 : Hid (BelAt w4 b (tB one 0 (p + 1))) := hB4
            have HF4 : Hid (Fr [] w w4) := HF3.out.own HBW.out hF4
            clear hB4 hF4
            go_wp2
            go_roundw
            case rel => exact ⟨p + 1, by omega, by go_num, HB4.out, HF4.out⟩
            case measure =>
              simp [intOf]
              omega
          · obtain rfl : p = j := by omega
            clear hp h4 HB2 HF2
            by_cases hj0 : p = 0
            · obtain rfl : p = 0 := hj0
              rw [show ((0 : Nat) : Int) = 0 from rfl]
              go_wp2_with fail
              refine (bf_status b _ (tB one 0 0) 2 HB3.out (tB_ok one 0 0)).mono ?_
              rw [(tB_end H12.out hk8 hj8).1, (tB_end H12.out hk8 hj8).2, show endSt one 0 0 = 0 from rfl, show endCf 0 0 = 0 from rfl]
              rintro e w5 ⟨rfl, hB5, hF5⟩
              have HF5 : Hid (Fr [] w w5) := HF3.out.own HBW.out hF5
              clear hB5 hF5
              go_wp2
              go_returns
              exact ⟨rfl, HF5.out⟩
            · have hjb : ((p : Int) == 0) = false := by simp; omega
              have hjp : 0 < p := by omega
              have e1 : endSt one 0 p = 3 - one := by simp [endSt, hj0]
              have e2 : endCf 0 p = min ((p : Int) - 1) 3 := by simp [endCf, hj0]
              have E1 := Lib.hid e1
              have E2 := Lib.hid e2
              clear e1 e2 hj0
              go_wp2_with fail
              refine (bf_status b _ (tB one 0 p) 2 HB3.out (tB_ok one 0 p)).mono ?_
              rw [(tB_end H12.out hk8 hj8).1, (tB_end H12.out hk8 hj8).2, E1.out, E2.out]
              rintro e w5 ⟨rfl, hB5, hF5⟩
              have HF5 : Hid (Fr [] w w5) := HF3.out.own HBW.out hF5
              clear hB5 hF5
              go_wp2
              go_returns
              exact ⟨rfl, HF5.out⟩
      · have hkp : 0 < i := by omega
        have hkb : ((i : Int) == 0) = false := by simp; omega
        go_wp2_with fail
        refine (bf_status b _ (tA one i) 1 HB1.out (tA_ok one i)).mono ?_
        rw [(tA_end H12.out hk8).1, (tA_end H12.out hk8).2, if_neg hk0, if_neg hk0]
        rintro e w2 ⟨rfl, hB2, hF2⟩
        have HB2 : Hid (BelAt w2 b (tB one i 0)) := hB2
        have HF2 : Hid (Fr [] w w2) := HF1.out.own HBW.out hF2
        clear hB2 hF2 HB1 HF1 hk0
        go_wp2_with fail
        rw [show ((m : Int) % 9) = ((m % 9 : Nat) : Int) from by omega]
        have hj8 : m % 9 ≤ 8 := by omega
        generalize m % 9 = j at hj8 ⊢
        go_loopw [15] (fun v wr => ∃ p : Nat, p ≤ j ∧ v = .int .i64 p ∧ BelAt wr b (tB one i p) ∧ Fr [] w wr) (fun v _ => j - (intOf v).toNat)
        case atStart => exact ⟨0, by omega, rfl, HB2.out, HF2.out⟩
        case round =>
          obtain ⟨p, hp, rfl, hB3, hF3⟩ := hrel
          have HB3 := Lib.hid hB3
          have HF3 := Lib.hid hF3
          clear hB3 hF3
          by_cases h4 : p < j
          · go_wp2_with fail
            rw [show ((p : Int) + 50) * 65536 = (((p + 50) * 65536 : Nat) : Int) from by omega]
            refine (bf_hear b _ (tB one i p) 2 ((p + 50) * 65536) (3 - one) HB3.out (tB_ok one i p)).mono ?_
            rw [tB_answer H12.out hk8 (by omega)]
            rintro e w4 ⟨rfl, hB4, hF4⟩
            have HB4 : Hid (BelAt w4 b (tB one i (p + 1))) := hB4
            have HF4 : Hid (Fr [] w w4) := HF3.out.own HBW.out hF4
            clear hB4 hF4
            go_wp2
            go_roundw
            case rel => exact ⟨p + 1, by omega, by go_num, HB4.out, HF4.out⟩
            case measure =>
              simp [intOf]
              omega
          · obtain rfl : p = j := by omega
            clear hp h4 HB2 HF2
            have hi0 : i ≠ 0 := by omega
            by_cases hjc : (p : Int) ≤ min ((i : Int) - 1) 3
            · have e1 : endSt one i p = one := by rw [endSt, if_neg hi0, if_pos hjc]
              have e2 : endCf i p = min ((i : Int) - 1) 3 - p := by rw [endCf, if_neg hi0, if_pos hjc]
              have E1 := Lib.hid e1
              have E2 := Lib.hid e2
              clear e1 e2 hi0
              go_wp2_with fail
              refine (bf_status b _ (tB one i p) 2 HB3.out (tB_ok one i p)).mono ?_
              rw [(tB_end H12.out hk8 hj8).1, (tB_end H12.out hk8 hj8).2, E1.out, E2.out]
              rintro e w5 ⟨rfl, hB5, hF5⟩
              have HF5 : Hid (Fr [] w w5) := HF3.out.own HBW.out hF5
              clear hB5 hF5
              go_wp2
              go_returns
              exact ⟨rfl, HF5.out⟩
            · have e1 : endSt one i p = 3 - one := by rw [endSt, if_neg hi0, if_neg hjc]
              have e2 : endCf i p = min ((p : Int) - min ((i : Int) - 1) 3 - 1) 3 := by rw [endCf, if_neg hi0, if_neg hjc]
              have E1 := Lib.hid e1
              have E2 := Lib.hid e2
              clear e1 e2 hi0
              go_wp2_with fail
              refine (bf_status b _ (tB one i p) 2 HB3.out (tB_ok one i p)).mono ?_
              rw [(tB_end H12.out hk8 hj8).1, (tB_end H12.out hk8 hj8).2, E1.out, E2.out]
              rintro e w5 ⟨rfl, hB5, hF5⟩
              have HF5 : Hid (Fr [] w w5) := HF3.out.own HBW.out hF5
              clear hB5 hF5
              go_wp2
              go_returns
              exact ⟨rfl, HF5.out⟩
end Go.Proofs.Ytjfmgpelkhgodaa
