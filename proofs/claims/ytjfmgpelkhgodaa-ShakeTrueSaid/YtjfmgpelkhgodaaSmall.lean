/- The walk of small: are steps small enough? No condition. -/
import Derived.Test.YtjfmgpelkhgodaaDos
namespace Go.Proofs.Ytjfmgpelkhgodaa
open Go.RowKit
attribute [local go_sem ↓ high] run_min_whole run_max_whole

def smallOne (d : Dx) : Bool := decide (d.bs.length ≤ 300) && (decide (d.m.nums.length ≤ 20) && (decide (d.m.addrs.length ≤ 20) && decide (d.m.body.length ≤ 1100)))
def smallAll (D : List Dx) : Bool := (D.take 60).all smallOne
theorem smallAll_get {D : List Dx} (h : smallAll D = true) {i : Nat} {d : Dx} (hi : D[i]? = some d) (h60 : i < 60) : smallOne d = true := by
  unfold smallAll at h
  rw [List.all_eq_true] at h
  refine h d (List.mem_of_getElem? (i := i) ?_)
  rw [List.getElem?_take, if_pos h60, hi]
theorem all_take_succ {D : List Dx} {i : Nat} {d : Dx} (hi : D[i]? = some d) (h : (D.take i).all smallOne = true) (hd : smallOne d = true) : (D.take (i + 1)).all smallOne = true := by
  rw [List.take_add_one, hi]
  simp [h, hd]
theorem not_small {D : List Dx} {i : Nat} {d : Dx} (hi : D[i]? = some d) (h60 : i < 60) (hd : smallOne d = false) : smallAll D = false := by
  cases h : smallAll D
  · rfl
  · rw [smallAll_get h hi h60] at hd
    cases hd
theorem small_end {D : List Dx} {i : Nat} (h : (D.take i).all smallOne = true) (hi : D.length ≤ i ∨ 60 ≤ i) (h60 : i ≤ 60) : smallAll D = true := by
  unfold smallAll
  rcases hi with hi | hi
  · rw [List.take_of_length_le hi] at h
    rw [List.take_of_length_le (by omega)]
    exact h
  · obtain rfl : i = 60 := by omega
    exact h
def ReturnsBool (b : Bool) (w : World) (e : Ending) (w' : World) : Prop := e = .returned (.bool b) ∧ Fr [] w w'

set_option maxRecDepth 100000 in
set_option maxHeartbeats 1600000 in
theorem lw_small (w : World) (v : Value) (D : List Dx) (hD : DosAt w v D) :
    Calls Try.prog 20 #[v] w (ReturnsBool (smallAll D) w) := by
  obtain ⟨ao, cap, rfl, hm⟩ := hD.shape
  unfold maxLen at hm
  have HD := Lib.hid hD
  clear hD
  go_enter Try.func20, Try.ntmps20
  go_wp2
  go_loop [3] (fun i => ∃ k : Nat, k ≤ D.length ∧ k ≤ 60 ∧ i = .int .i64 k ∧ (D.take k).all smallOne = true) (fun i => D.length - (intOf i).toNat)
  case atStart => exact ⟨0, Nat.zero_le _, Nat.zero_le _, rfl, by simp⟩
  case round =>
    obtain ⟨k, hk, hk60, rfl, hall⟩ := hrel
    have HA := Lib.hid hall
    clear hall
    by_cases hlt : k < D.length
    · by_cases h60 : k < 60
      · obtain ⟨d, hd⟩ : ∃ d, D[k]? = some d := ⟨_, List.getElem?_eq_getElem hlt⟩
        have HK := Lib.hid hd
        clear hd
        obtain ⟨g, off, rfl, hg, hok, hc⟩ := HD.out.get HK.out
        obtain ⟨ba, bc, hbv⟩ := hok.bytes.shape
        obtain ⟨na, nc, hnv⟩ := hok.msg.nums.shape
        obtain ⟨aa, ac, hav⟩ := ads_shape hok.msg.addrs
        obtain ⟨xa, xc, hxv⟩ := hok.msg.body.shape
        rw [u8s_length] at hbv hxv
        rw [u64s_length] at hnv
        have c3 : w.cell? ⟨g, off + k * 8 + 3, none⟩ = some (.slice ba d.bs.length bc) := by rw [Nat.add_assoc, hc 3 (by omega), ← hbv]; rfl
        have c5 : w.cell? ⟨g, off + k * 8 + 5, none⟩ = some (.slice na d.m.nums.length nc) := by rw [Nat.add_assoc, hc 5 (by omega), ← hnv]; rfl
        have c6 : w.cell? ⟨g, off + k * 8 + 6, none⟩ = some (.slice aa d.m.addrs.length ac) := by rw [Nat.add_assoc, hc 6 (by omega), ← hav]; rfl
        have c7 : w.cell? ⟨g, off + k * 8 + 7, none⟩ = some (.slice xa d.m.body.length xc) := by rw [Nat.add_assoc, hc 7 (by omega), ← hxv]; rfl
        clear hc hok hbv hnv hav hxv hg
        have h60' : (k : Int) < 60 := by omega
        by_cases h1 : d.bs.length ≤ 300
        · have h1' : ¬ (300 : Int) < d.bs.length := by omega
          by_cases h2 : d.m.nums.length ≤ 20
          · have h2' : ¬ (20 : Int) < d.m.nums.length := by omega
            by_cases h3 : d.m.addrs.length ≤ 20
            · have h3' : ¬ (20 : Int) < d.m.addrs.length := by omega
              by_cases h4 : d.m.body.length ≤ 1100
              · have h4' : ¬ (1100 : Int) < d.m.body.length := by omega
                have HS : Hid (smallOne d = true) := by simp [Hid, smallOne, h1, h2, h3, h4]
                go_wp2
                go_round
                case rel => exact ⟨k + 1, by omega, by omega, by go_num, all_take_succ HK.out HA.out HS.out⟩
                case measure => simp [intOf]; omega
              · have h4' : (1100 : Int) < d.m.body.length := by omega
                rw [not_small HK.out h60 (by simp [smallOne, h1, h2, h3, h4])]
                go_wp2
                go_ret
                exact ⟨rfl, Fr.refl _ _⟩
            · have h3' : (20 : Int) < d.m.addrs.length := by omega
              rw [not_small HK.out h60 (by simp [smallOne, h1, h2, h3])]
              go_wp2
              go_ret
              exact ⟨rfl, Fr.refl _ _⟩
          · have h2' : (20 : Int) < d.m.nums.length := by omega
            rw [not_small HK.out h60 (by simp [smallOne, h1, h2])]
            go_wp2
            go_ret
            exact ⟨rfl, Fr.refl _ _⟩
        · have h1' : (300 : Int) < d.bs.length := by omega
          rw [not_small HK.out h60 (by simp [smallOne, h1])]
          go_wp2
          go_ret
          exact ⟨rfl, Fr.refl _ _⟩
      · have h60' : ¬ (k : Int) < 60 := by omega
        have HE : Hid (smallAll D = true) := small_end HA.out (.inr (by omega)) hk60
        go_wp2
        go_ret
        exact ⟨by rw [HE.out]; rfl, Fr.refl _ _⟩
    · have HE : Hid (smallAll D = true) := small_end HA.out (.inl (by omega)) hk60
      go_wp2
      go_ret
      exact ⟨by rw [HE.out]; rfl, Fr.refl _ _⟩
end Go.Proofs.Ytjfmgpelkhgodaa
