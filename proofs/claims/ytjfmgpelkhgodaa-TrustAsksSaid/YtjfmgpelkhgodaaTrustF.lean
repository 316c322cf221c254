/- The walk of TrustAsks: it answers true. No condition. -/
import Derived.Test.YtjfmgpelkhgodaaTrustE
namespace Go.Proofs.Ytjfmgpelkhgodaa
open Go.RowKit
attribute [local go_sem ↓ high] run_min_whole run_max_whole

/-- What the loop of TrustAsks keeps: at tick k, asked last at 'last', with so long a wait. -/
structure AskRel (W c : Int) (k : Nat) (last : Int) (τ : Bf) : Prop where
  w : W = if c = 3 then 90 else 15
  lst : -90 ≤ last ∧ last ≤ k
  cf : τ.cf = c
  hd : τ.hd = 0
  nw : 0 ≤ τ.nw ∧ τ.nw ≤ k
  was : (k = 0 ∧ τ.ev = false ∧ last = -W) ∨ (τ.ev = true ∧ τ.ak = last)

section
variable {W c : Int} {k : Nat} {last : Int} {τ : Bf}
theorem AskRel.on_eq (h : AskRel W c k last τ) (hk : k ≤ 255) : τ.on k = { τ with nw := k } := by
  have h1 := h.hd
  have h2 := h.nw
  have e : τ.now (k : Int) = k := by
    unfold Bf.now
    omega
  unfold Bf.on
  rw [e, if_neg (by omega)]
theorem AskRel.next_eq (h : AskRel W c k last τ) (hk : k ≤ 255) : (τ.on k).next = last + W := by
  rw [h.on_eq hk]
  unfold Bf.next
  have hw := h.w
  have hc := h.cf
  dsimp only
  rcases h.was with ⟨h0, h1, h2⟩ | ⟨h1, h2⟩
  · rw [if_pos h1]
    omega
  · rw [if_neg (by simp [h1]), h2, hw, hc]
    split <;> rfl
theorem AskRel.nw_eq (h : AskRel W c k last τ) (hk : k ≤ 255) : (τ.on k).nw = k := by rw [h.on_eq hk]
theorem AskRel.asks_yes (h : AskRel W c k last τ) (hk : k ≤ 255) (hge : last + W ≤ (k : Int)) : τ.asks k = true := by
  unfold Bf.asks
  rw [h.next_eq hk, h.nw_eq hk]
  simpa using hge
theorem AskRel.asks_no (h : AskRel W c k last τ) (hk : k ≤ 255) (hge : (k : Int) < last + W) : τ.asks k = false := by
  unfold Bf.asks
  rw [h.next_eq hk, h.nw_eq hk]
  simpa using hge
theorem AskRel.ask_yes (h : AskRel W c k last τ) (hk : k ≤ 255) (hge : last + W ≤ (k : Int)) : AskRel W c k k (τ.ask k) := by
  have e : τ.ask k = { τ with nw := k, ak := k, ev := true } := by
    unfold Bf.ask
    rw [h.next_eq hk, h.nw_eq hk, if_pos hge, h.on_eq hk]
  rw [e]
  exact ⟨h.w, by omega, h.cf, h.hd, by dsimp only; omega, .inr ⟨rfl, rfl⟩⟩
theorem AskRel.ask_no (h : AskRel W c k last τ) (hk : k ≤ 255) (hge : (k : Int) < last + W) : AskRel W c k last (τ.ask k) := by
  have e : τ.ask k = { τ with nw := k } := by
    unfold Bf.ask
    rw [h.next_eq hk, h.nw_eq hk, if_neg (by omega), h.on_eq hk]
  rw [e]
  refine ⟨h.w, h.lst, h.cf, h.hd, by dsimp only; omega, ?_⟩
  rcases h.was with ⟨h0, h1, h2⟩ | h1
  · omega
  · exact .inr h1
theorem AskRel.later (h : AskRel W c k last τ) (hk : k ≤ 255) (hev : τ.ev = true) : AskRel W c (k + 1) last (τ.on k) := by
  rw [h.on_eq hk]
  have := h.lst
  refine ⟨h.w, by omega, h.cf, h.hd, by dsimp only; omega, ?_⟩
  rcases h.was with ⟨h0, h1, h2⟩ | h1
  · rw [hev] at h1
    cases h1
  · exact .inr h1
theorem AskRel.ev (h : AskRel W c k last τ) (hge : (k : Int) < last + W) : τ.ev = true := by
  rcases h.was with ⟨h0, h1, h2⟩ | h1
  · omega
  · exact h1.1
theorem AskRel.next_yes (h : AskRel W c k last τ) (hk : k ≤ 255) (hge : last + W ≤ (k : Int)) : ((τ.ask k).on k).next = k + W := (h.ask_yes hk hge).next_eq hk
theorem AskRel.next_no (h : AskRel W c k last τ) (hk : k ≤ 255) (hge : (k : Int) < last + W) : ((τ.ask k).on k).next = last + W := (h.ask_no hk hge).next_eq hk
theorem AskRel.step_yes (h : AskRel W c k last τ) (hk : k ≤ 255) (hge : last + W ≤ (k : Int)) : AskRel W c (k + 1) k ((τ.ask k).on k) :=
  (h.ask_yes hk hge).later hk (by
    unfold Bf.ask
    rw [h.next_eq hk, h.nw_eq hk, if_pos hge])
theorem AskRel.step_no (h : AskRel W c k last τ) (hk : k ≤ 255) (hge : (k : Int) < last + W) : AskRel W c (k + 1) last ((τ.ask k).on k) :=
  (h.ask_no hk hge).later hk (by
    have e : τ.ask k = { τ with nw := k } := by
      unfold Bf.ask
      rw [h.next_eq hk, h.nw_eq hk, if_neg (by omega), h.on_eq hk]
    rw [e]
    exact h.ev hge)
end

set_option maxRecDepth 100000 in
set_option maxHeartbeats 800000 in
theorem tr_asks_no (n : Nat) (hn : n < 256) (w : World) : Calls Try.prog 5 #[.bool false, .int .u8 n] w fun e w' => e = .returned (.bool true) ∧ Fr [] w w' := by
  go_enter Try.func5, Try.ntmps5
  go_wp2_with fail
  refine (tr_awake w).mono ?_
  rintro e w0 ⟨rfl, hF0⟩
  have HF0 := Lib.hid hF0
  clear hF0
  go_wp2_with fail
  refine (bf_new0 w0).mono ?_
  rintro e w1 ⟨b, rfl, hB, hbw, hb, hF⟩
  have HF : Hid (Fr [] w w1) := HF0.out.trans hF
  have HB := Lib.hid hB
  have HBW : Hid (w.heap.size ≤ b) := by
    have := HF0.out.size
    show _ ≤ _
    omega
  clear hF hB hbw
  have HOK := Lib.hid Bf.Ok.zero
  go_wp2_with fail
  have HREL : Hid (AskRel 15 0 0 (-15) Bf.zero) := ⟨by simp, by omega, rfl, rfl, ⟨Int.le_refl _, Int.le_refl _⟩, .inl ⟨rfl, rfl, rfl⟩⟩
  go_loopw [8, 9] (fun l t wr => ∃ (k : Nat) (τ : Bf) (last : Int), k ≤ n % 200 ∧ t = .int .i64 k ∧ l = .int .i64 last ∧ BelAt wr b τ ∧ τ.Ok ∧ AskRel 15 0 k last τ ∧ Fr [] w wr) (fun _ t _ => n % 200 - (intOf t).toNat)
  case atStart => exact ⟨0, _, _, Nat.zero_le _, rfl, rfl, HB.out, HOK.out, HREL.out, HF.out⟩
  case round =>
    obtain ⟨k, τ, last, hk, rfl, rfl, hB, hok, hrel, hF⟩ := hrel
    have HB := Lib.hid hB
    have HOK := Lib.hid hok
    have HREL := Lib.hid hrel
    have HF := Lib.hid hF
    have hl := hrel.lst
    clear hB hok hrel hF
    have hkn : k ≤ 255 := by omega
    by_cases hlt : k < n % 200
    · have hlt' : (k : Int) < (n : Int) % 200 := by omega
      by_cases hge : last + 15 ≤ (k : Int)
      · go_wp2_with fail
        refine (bf_asked b _ τ _ HB.out HOK.out).mono ?_
        rw [HREL.out.asks_yes (by omega) hge]
        rintro e w2 ⟨rfl, hB2, hF2⟩
        have HB2 := Lib.hid hB2
        have HF2 : Hid (Fr [] w w2) := HF.out.own HBW.out hF2
        clear hB2 hF2
        go_wp2_with fail
        refine (bf_next b _ (τ.ask k) _ HB2.out (HOK.out.ask _)).mono ?_
        rw [HREL.out.next_yes (by omega) hge]
        rintro e w3 ⟨rfl, hB3, hF3⟩
        have HB3 := Lib.hid hB3
        have HF3 : Hid (Fr [] w w3) := HF2.out.own HBW.out hF3
        clear hB3 hF3
        go_wp2
        go_roundw
        case rel => exact ⟨k + 1, _, _, by omega, by go_num, rfl, HB3.out, (HOK.out.ask _).on _, HREL.out.step_yes (by omega) hge, HF3.out⟩
        case measure =>
          simp [intOf]
          omega
      · have hlt2 : (k : Int) < last + 15 := by omega
        clear hge
        go_wp2_with fail
        refine (bf_asked b _ τ _ HB.out HOK.out).mono ?_
        rw [HREL.out.asks_no (by omega) hlt2]
        rintro e w2 ⟨rfl, hB2, hF2⟩
        have HB2 := Lib.hid hB2
        have HF2 : Hid (Fr [] w w2) := HF.out.own HBW.out hF2
        clear hB2 hF2
        go_wp2_with fail
        refine (bf_next b _ (τ.ask k) _ HB2.out (HOK.out.ask _)).mono ?_
        rw [HREL.out.next_no (by omega) hlt2]
        rintro e w3 ⟨rfl, hB3, hF3⟩
        have HB3 := Lib.hid hB3
        have HF3 : Hid (Fr [] w w3) := HF2.out.own HBW.out hF3
        clear hB3 hF3
        go_wp2
        go_roundw
        case rel => exact ⟨k + 1, _, _, by omega, by go_num, rfl, HB3.out, (HOK.out.ask _).on _, HREL.out.step_no (by omega) hlt2, HF3.out⟩
        case measure =>
          simp [intOf]
          omega
    · have hlt' : ¬ (k : Int) < (n : Int) % 200 := by omega
      go_wp2
      go_returns
      exact ⟨rfl, HF.out⟩

/-- Told the same by i groups, at time 0. -/
def sureAt : Nat → Bf
  | 0 => Bf.zero
  | i + 1 => (sureAt i).hear 0 ((i + 1) * 65536) 1
theorem sureAt_ok (i : Nat) : (sureAt i).Ok := by
  induction i with
  | zero => exact Bf.Ok.zero
  | succ i ih => exact ih.hear _ _ _

set_option maxRecDepth 100000 in
set_option maxHeartbeats 800000 in
theorem tr_asks_yes (n : Nat) (hn : n < 256) (w : World) : Calls Try.prog 5 #[.bool true, .int .u8 n] w fun e w' => e = .returned (.bool true) ∧ Fr [] w w' := by
  go_enter Try.func5, Try.ntmps5
  go_wp2_with fail
  refine (tr_awake w).mono ?_
  rintro e w0 ⟨rfl, hF0⟩
  have HF0 := Lib.hid hF0
  clear hF0
  go_wp2_with fail
  refine (bf_new0 w0).mono ?_
  rintro e w1 ⟨b, rfl, hB, hbw, hb, hF⟩
  have HF : Hid (Fr [] w w1) := HF0.out.trans hF
  have HB := Lib.hid hB
  have HBW : Hid (w.heap.size ≤ b) := by
    have := HF0.out.size
    show _ ≤ _
    omega
  clear hF hB hbw
  go_wp2
  go_loopw [7] (fun t wr => ∃ i : Nat, i ≤ 4 ∧ t = .int .i64 i ∧ BelAt wr b (sureAt i) ∧ Fr [] w wr) (fun t _ => 4 - (intOf t).toNat)
  case atStart => exact ⟨0, by omega, rfl, HB.out, HF.out⟩
  case round =>
    obtain ⟨i, hi, rfl, hB1, hF1⟩ := hrel
    have HB1 := Lib.hid hB1
    have HF1 := Lib.hid hF1
    clear hB1 hF1
    by_cases h4 : i < 4
    · go_wp2_with fail
      rw [show ((i : Int) + 1) * 65536 = (((i + 1) * 65536 : Nat) : Int) from by omega]
      refine (bf_hear b _ (sureAt i) 0 ((i + 1) * 65536) 1 HB1.out (sureAt_ok i)).mono ?_
      rintro e w2 ⟨rfl, hB2, hF2⟩
      have HB2 : Hid (BelAt w2 b (sureAt (i + 1))) := hB2
      have HF2 : Hid (Fr [] w w2) := HF1.out.own HBW.out hF2
      clear hB2 hF2
      go_wp2
      go_roundw
      case rel => exact ⟨i + 1, by omega, by go_num, HB2.out, HF2.out⟩
      case measure =>
        simp [intOf]
        omega
    · have hi4 : i = 4 := by omega
      subst hi4
      clear hi h4 HB HF
      rw [show ((4 : Nat) : Int) = 4 from rfl]
      have HB : Hid (BelAt wr b (sureAt 4)) := HB1
      have HF : Hid (Fr [] w wr) := HF1
      have HOK := Lib.hid (sureAt_ok 4)
      have HREL : Hid (AskRel 90 3 0 (-90) (sureAt 4)) := by
        have e : sureAt 4 = ⟨1, 3, [1, 2, 3, 4], 0, 0, 0, false⟩ := by kernel_rfl
        show AskRel _ _ _ _ _
        rw [e]
        exact ⟨by simp, by omega, rfl, rfl, ⟨Int.le_refl _, Int.le_refl _⟩, .inl ⟨rfl, rfl, rfl⟩⟩
      go_wp2_with fail
      go_loopw [8, 9] (fun l t wr => ∃ (k : Nat) (τ : Bf) (last : Int), k ≤ n % 200 ∧ t = .int .i64 k ∧ l = .int .i64 last ∧ BelAt wr b τ ∧ τ.Ok ∧ AskRel 90 3 k last τ ∧ Fr [] w wr) (fun _ t _ => n % 200 - (intOf t).toNat)
      case atStart => exact ⟨0, _, _, Nat.zero_le _, rfl, rfl, HB.out, HOK.out, HREL.out, HF.out⟩
      case round =>
        obtain ⟨k, τ, last, hk, rfl, rfl, hB, hok, hrel, hF⟩ := hrel
        have HB := Lib.hid hB
        have HOK := Lib.hid hok
        have HREL := Lib.hid hrel
        have HF := Lib.hid hF
        have hl := hrel.lst
        clear hB hok hrel hF
        have hkn : k ≤ 255 := by omega
        by_cases hlt : k < n % 200
        · have hlt' : (k : Int) < (n : Int) % 200 := by omega
          by_cases hge : last + 90 ≤ (k : Int)
          · go_wp2_with fail
            refine (bf_asked b _ τ _ HB.out HOK.out).mono ?_
            rw [HREL.out.asks_yes (by omega) hge]
            rintro e w2 ⟨rfl, hB2, hF2⟩
            have HB2 := Lib.hid hB2
            have HF2 : Hid (Fr [] w w2) := HF.out.own HBW.out hF2
            clear hB2 hF2
            go_wp2_with fail
            refine (bf_next b _ (τ.ask k) _ HB2.out (HOK.out.ask _)).mono ?_
            rw [HREL.out.next_yes (by omega) hge]
            rintro e w3 ⟨rfl, hB3, hF3⟩
            have HB3 := Lib.hid hB3
            have HF3 : Hid (Fr [] w w3) := HF2.out.own HBW.out hF3
            clear hB3 hF3
            go_wp2
            go_roundw
            case rel => exact ⟨k + 1, _, _, by omega, by go_num, rfl, HB3.out, (HOK.out.ask _).on _, HREL.out.step_yes (by omega) hge, HF3.out⟩
            case measure =>
              simp [intOf]
              omega
          · have hlt2 : (k : Int) < last + 90 := by omega
            clear hge
            go_wp2_with fail
            refine (bf_asked b _ τ _ HB.out HOK.out).mono ?_
            rw [HREL.out.asks_no (by omega) hlt2]
            rintro e w2 ⟨rfl, hB2, hF2⟩
            have HB2 := Lib.hid hB2
            have HF2 : Hid (Fr [] w w2) := HF.out.own HBW.out hF2
            clear hB2 hF2
            go_wp2_with fail
            refine (bf_next b _ (τ.ask k) _ HB2.out (HOK.out.ask _)).mono ?_
            rw [HREL.out.next_no (by omega) hlt2]
            rintro e w3 ⟨rfl, hB3, hF3⟩
            have HB3 := Lib.hid hB3
            have HF3 : Hid (Fr [] w w3) := HF2.out.own HBW.out hF3
            clear hB3 hF3
            go_wp2
            go_roundw
            case rel => exact ⟨k + 1, _, _, by omega, by go_num, rfl, HB3.out, (HOK.out.ask _).on _, HREL.out.step_no (by omega) hlt2, HF3.out⟩
            case measure =>
              simp [intOf]
              omega
        · have hlt' : ¬ (k : Int) < (n : Int) % 200 := by omega
          go_wp2
          go_returns
          exact ⟨rfl, HF.out⟩


end Go.Proofs.Ytjfmgpelkhgodaa
