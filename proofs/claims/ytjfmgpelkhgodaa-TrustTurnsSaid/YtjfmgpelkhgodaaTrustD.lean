/- The walks of (*Belief).Status, Next, Asked; awake. No condition but the fields' ranges. -/
import Derived.Test.YtjfmgpelkhgodaaTrustC
namespace Go.Proofs.Ytjfmgpelkhgodaa
open Go.RowKit
attribute [local go_sem ↓ high] run_min_whole run_max_whole

set_option maxHeartbeats 800000 in
theorem bf_status (b : Nat) (w : World) (σ : Bf) (now : Int) (hB : BelAt w b σ) (hok : σ.Ok) :
    Calls Try.prog 16 #[.pointer (some ⟨b, 0, none⟩), .int .i64 now] w fun e w' => e = .returned (.tuple #[.int .i64 (σ.on now).st, .int .i64 (σ.on now).cf]) ∧ OnTo w b (σ.on now) w' := by
  have HB := Lib.hid hB
  clear hB
  go_enter Try.func16, Try.ntmps16
  go_wp2_with fail
  refine (bf_on b w σ now HB.out hok).mono ?_
  rintro e w1 ⟨rfl, hB1, hF1⟩
  obtain ⟨kv1, hC1, hk1, hne1⟩ := hB1
  have c0 := hC1.cell 0
  have c1 := hC1.cell 1
  simp only [bfCells, List.getElem?_cons_zero, List.getElem?_cons_succ] at c0 c1
  have HC1 := Lib.hid hC1
  have HK1 := Lib.hid hk1
  have HNE1 := Lib.hid hne1
  have HF1 := Lib.hid hF1
  clear hC1 hk1 hne1 hF1
  go_wp2
  go_quiet (fail)
  go_wp2
  go_ret2
  exact ⟨rfl, ⟨_, HC1.out.drewN _, HK1.out.fr (Fr.drewN _ _ []) (by simp), HNE1.out⟩, HF1.out.cdrewN _⟩

def Bf.next (σ : Bf) : Int := if σ.ev = false then σ.nw else if σ.cf = 3 then σ.ak + 90 else σ.ak + 15

set_option maxHeartbeats 800000 in
theorem bf_next (b : Nat) (w : World) (σ : Bf) (now : Int) (hB : BelAt w b σ) (hok : σ.Ok) :
    Calls Try.prog 18 #[.pointer (some ⟨b, 0, none⟩), .int .i64 now] w fun e w' => e = .returned (.int .i64 (σ.on now).next) ∧ OnTo w b (σ.on now) w' := by
  have h1 := hok.on now
  have HON := Lib.hid (bf_on b w σ now hB hok)
  clear hB
  generalize σ.on now = τ at *
  go_enter Try.func18, Try.ntmps18
  go_wp2_with fail
  refine HON.out.mono ?_
  rintro e w1 ⟨rfl, hB1, hF1⟩
  have HEND : Hid (OnTo w b τ w1) := ⟨hB1, hF1⟩
  obtain ⟨kv1, hC1, hk1, hne1⟩ := hB1
  have c1 := hC1.cell 1
  have c4 := hC1.cell 4
  have c5 := hC1.cell 5
  have c6 := hC1.cell 6
  simp only [bfCells, List.getElem?_cons_zero, List.getElem?_cons_succ] at c1 c4 c5 c6
  clear hC1 hk1 hne1 hF1
  have hak := h1.ak
  have hnw := h1.nw
  by_cases hev : τ.ev = false
  · have HN : Hid (τ.next = τ.nw) := by
      show _ = _
      rw [Bf.next, if_pos hev]
    rw [hev] at c6
    clear hev
    go_wp2
    go_returns
    exact ⟨by rw [HN.out]; rfl, HEND.out⟩
  · have hev' : τ.ev = true := by simpa using hev
    rw [hev'] at c6
    by_cases hc : τ.cf = 3
    · have hb : (τ.cf == 3) = true := by simp [hc]
      have HN : Hid (τ.next = τ.ak + 90) := by
        show _ = _
        rw [Bf.next, if_neg hev, if_pos hc]
      clear hev hc hev'
      go_wp2
      go_returns
      exact ⟨by rw [HN.out]; rfl, HEND.out⟩
    · have hb : (τ.cf == 3) = false := by simp [hc]
      have HN : Hid (τ.next = τ.ak + 15) := by
        show _ = _
        rw [Bf.next, if_neg hev, if_neg hc]
      clear hev hc hev'
      go_wp2
      go_returns
      exact ⟨by rw [HN.out]; rfl, HEND.out⟩

def Bf.asks (σ : Bf) (now : Int) : Bool := decide ((σ.on now).next ≤ (σ.on now).nw)
def Bf.ask (σ : Bf) (now : Int) : Bf := if (σ.on now).next ≤ (σ.on now).nw then { σ.on now with ak := (σ.on now).nw, ev := true } else σ.on now

set_option maxHeartbeats 800000 in
theorem bf_asked (b : Nat) (w : World) (σ : Bf) (now : Int) (hB : BelAt w b σ) (hok : σ.Ok) :
    Calls Try.prog 17 #[.pointer (some ⟨b, 0, none⟩), .int .i64 now] w fun e w' => e = .returned (.bool (σ.asks now)) ∧ OnTo w b (σ.ask now) w' := by
  have h1 := hok.on now
  have HON := Lib.hid (bf_next b w σ now hB hok)
  clear hB
  by_cases hd : (σ.on now).next ≤ (σ.on now).nw
  · have HA : Hid (σ.asks now = true) := by
      show _ = _
      simp [Bf.asks, hd]
    have HE : Hid (σ.ask now = { σ.on now with ak := (σ.on now).nw, ev := true }) := by
      show _ = _
      simp [Bf.ask, hd]
    generalize σ.on now = τ at *
    generalize hq : τ.next = q at *
    generalize σ.asks now = ans at *
    generalize σ.ask now = σ' at *
    go_enter Try.func17, Try.ntmps17
    go_wp2_with fail
    refine HON.out.mono ?_
    rintro e w1 ⟨rfl, hB1, hF1⟩
    clear hq
    obtain ⟨kv1, hC1, hk1, hne1⟩ := hB1
    have c4 := hC1.cell 4
    have c5 := hC1.cell 5
    have c6 := hC1.cell 6
    simp only [bfCells, List.getElem?_cons_zero, List.getElem?_cons_succ] at c4 c5 c6
    have f5 := hC1.frozen 5
    have f6 := hC1.frozen 6
    have HC1 := Lib.hid hC1
    have HK1 := Lib.hid hk1
    have HNE1 := Lib.hid hne1
    have HF1 := Lib.hid hF1
    clear hC1 hk1 hne1 hF1
    go_wp2
    go_returns
    refine ⟨by rw [HA.out]; rfl, ?_⟩
    rw [HE.out]
    refine ⟨⟨kv1, ?_, HK1.out.fr (S := [b]) (((Fr.refl _ _).cset _ _ (by simp)).cset _ _ (by simp)) (fun g hg => by simp; exact HNE1.out g hg), HNE1.out⟩, (HF1.out.cset _ _ (by simp)).cset _ _ (by simp)⟩
    exact ((HC1.out.set 5 (.int .i64 τ.nw)).set 6 (.bool true)).as rfl
  · have HA : Hid (σ.asks now = false) := by
      show _ = _
      simp [Bf.asks, hd]
    have HE : Hid (σ.ask now = σ.on now) := by
      show _ = _
      simp [Bf.ask, hd]
    generalize σ.on now = τ at *
    generalize hq : τ.next = q at *
    generalize σ.asks now = ans at *
    generalize σ.ask now = σ' at *
    go_enter Try.func17, Try.ntmps17
    go_wp2_with fail
    refine HON.out.mono ?_
    rintro e w1 ⟨rfl, hB1, hF1⟩
    clear hq
    have HEND : Hid (OnTo w b τ w1) := ⟨hB1, hF1⟩
    obtain ⟨kv1, hC1, hk1, hne1⟩ := hB1
    have c4 := hC1.cell 4
    simp only [bfCells, List.getElem?_cons_zero, List.getElem?_cons_succ] at c4
    clear hC1 hk1 hne1 hF1
    go_wp2
    go_returns
    refine ⟨by rw [HA.out]; rfl, ?_⟩
    rw [HE.out]
    exact HEND.out

theorem Bf.Ok.ask {σ : Bf} (h : σ.Ok) (now : Int) : (σ.ask now).Ok := by
  have h1 := h.on now
  unfold Bf.ask
  split
  · obtain ⟨h1, h2, h3, h4, h5, h6⟩ := h1
    exact ⟨h1, h2, h3, h4, by dsimp only; omega, h6⟩
  · exact h1
end Go.Proofs.Ytjfmgpelkhgodaa
