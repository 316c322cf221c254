/- The walks of wire's reader: number and body. No condition but the arguments' kinds. -/
import Derived.Test.YtjfmgpelkhgodaaWireD
namespace Go.Proofs.Ytjfmgpelkhgodaa
open Go.RowKit
attribute [local go_sem ↓ high] run_min_whole run_max_whole

/-- A reader in memory, in block b, of bytes that lie in a block before K. -/
def RdAt (w : World) (K b : Nat) (r : Rd) : Prop := ∃ bv, Cells w b 123 [bv, .bool r.bad] ∧ SlAt w bv (u8s r.b) ∧ (∀ g, bv.ownBlock = some g → g < K)
theorem RdAt.fr {S : List Nat} {w w' : World} {K b : Nat} {r : Rd} (h : RdAt w K b r) (hf : Fr S w w') (hb : b ∉ S) (hS : ∀ g, g ∈ S → K ≤ g) : RdAt w' K b r := by
  obtain ⟨bv, h1, h2, h3⟩ := h
  refine ⟨bv, h1.fr hf hb, h2.fr hf ?_, h3⟩
  intro g hg hm
  have := h3 g hg
  have := hS g hm
  omega

theorem ibeq (a b : Int) : (a == b) = decide (a = b) := by
  rw [Bool.eq_iff_iff]
  simp

theorem nbeq (a b : Nat) : decide ((a : Int) = (b : Int)) = decide (a = b) := by
  rw [Bool.eq_iff_iff]
  simp
  omega

theorem sl_parts {w : World} {g off cap : Nat} {l : List UInt8} (h : SlAt w (.slice (some ⟨g, off, none⟩) l.length cap) (u8s l)) : g < w.heap.size ∧ l.length ≤ cap ∧ cap ≤ maxLen ∧ ∀ j, j < l.length → w.cell? ⟨g, off + j, none⟩ = (u8s l)[j]? := by
  rcases h with ⟨h, _⟩ | ⟨g', off', cap', hv, hg, h1, h2, h3⟩
  · cases h
  · rw [u8s_length] at hv h1 h3
    simp at hv
    obtain ⟨⟨rfl, rfl⟩, rfl⟩ := hv
    exact ⟨hg, h1, h2, h3⟩
/-- A slice cut at its front. -/
theorem sl_drop {w : World} {g off cap : Nat} {l : List UInt8} (h : SlAt w (.slice (some ⟨g, off, none⟩) l.length cap) (u8s l)) (n : Nat) (hn : n ≤ l.length) (o' : Nat) (ho : o' = off + n ∨ l.length = n) :
    SlAt w (.slice (some ⟨g, o', none⟩) (l.length - n) (cap - n)) (u8s (l.drop n)) := by
  obtain ⟨hg, h1, h2, h3⟩ := sl_parts h
  refine .inr ⟨g, o', cap - n, ?_, hg, by rw [u8s_length]; simp; omega, by omega, fun j hj => ?_⟩
  · rw [u8s_length]
    simp
  · rw [u8s_length] at hj
    simp at hj
    rcases ho with rfl | ho
    · rw [show off + n + j = off + (n + j) from by omega, h3 (n + j) (by omega)]
      simp [u8s, List.getElem?_drop]
    · omega

/-- What number leaves behind. -/
def RdN (w w' : World) (K b : Nat) (r : Rd) (e : Ending) : Prop := e = .returned (.int .u64 r.num.1) ∧ RdAt w' K b r.num.2 ∧ Fr [b] w w'

set_option maxRecDepth 100000 in
set_option maxHeartbeats 1600000 in
theorem rd_number_sl (w : World) (K b : Nat) (l : List UInt8) (bad : Bool) (hK : K ≤ b) (g off cap : Nat) (hC : Cells w b 123 [.slice (some ⟨g, off, none⟩) l.length cap, .bool bad]) (hs : SlAt w (.slice (some ⟨g, off, none⟩) l.length cap) (u8s l)) (hg : g < K) :
    Calls Try.prog 58 #[.pointer (some ⟨b, 0, none⟩)] w fun e w' => RdN w w' K b ⟨l, bad⟩ e := by
  have HC := Lib.hid hC
  have HS := Lib.hid hs
  have c0 := hC.cell 0
  have c1 := hC.cell 1
  simp only [List.getElem?_cons_zero, List.getElem?_cons_succ] at c0 c1
  obtain ⟨k0, k1, k2, -⟩ := sl_parts hs
  have f0 := hC.frozen 0
  have f1 := hC.frozen 1
  have hgb : g ≠ b := by omega
  have HG := Lib.hid hg
  clear hC hs hg
  have hn := uget_n_le l
  have HU : Hid (uget l = ((uget l).1, (uget l).2.1, (uget l).2.2)) := rfl
  have HR : Hid (Rd.num ⟨l, bad⟩ = ((uget l).1, ⟨l.drop (uget l).2.1, bad || decide ((uget l).2.2 ≠ 0)⟩)) := rfl
  generalize (uget l).1 = v at HU HR
  generalize (uget l).2.2 = c at HU HR
  generalize (uget l).2.1 = n at HU HR hn
  unfold maxLen at k2
  have key : ∀ (w' : World) (o' : Nat), (o' = off + n ∨ l.length = n) → Cells w' b 123 [.slice (some ⟨g, o', none⟩) (l.length - n) (cap - n), .bool (bad || decide (c ≠ 0))] → Fr [b] w w' → RdN w w' K b ⟨l, bad⟩ (.returned (.int .u64 v)) := by
    intro w' o' ho hC' hF
    unfold RdN
    rw [HR.out]
    refine ⟨rfl, ⟨_, hC', (sl_drop HS.out n hn o' ho).fr hF ?_, ?_⟩, hF⟩
    · intro g' hg'
      simp [Value.ownBlock] at hg'
      subst hg'
      simpa using hgb
    · intro g' hg'
      simp [Value.ownBlock] at hg'
      subst hg'
      exact HG.out
  have KEY := Lib.hid key
  clear key HR
  cases bad
  · by_cases hcn : cap = n
    · subst hcn
      go_enter Try.func58, Try.ntmps58
      go_wp2_with fail
      refine (uv_get _ _ _ (HS.out)).mono ?_
      unfold Got
      rw [HU.out]
      rintro e w' ⟨rfl, rfl⟩
      go_wp2
      go_ret
      refine KEY.out _ off (.inr (by omega)) (((HC.out.set 1 _).set 0 _).as ?_) (((Fr.refl [b] w).cset _ _ (.inl ?_)).cset _ _ (.inl ?_))
      · simp [bne, ibeq]
        omega
      all_goals simp
    · go_enter Try.func58, Try.ntmps58
      go_wp2_with fail
      refine (uv_get _ _ _ (HS.out)).mono ?_
      unfold Got
      rw [HU.out]
      rintro e w' ⟨rfl, rfl⟩
      go_wp2
      go_ret
      refine KEY.out _ (off + n) (.inl rfl) (((HC.out.set 1 _).set 0 _).as ?_) (((Fr.refl [b] w).cset _ _ (.inl ?_)).cset _ _ (.inl ?_))
      · simp [bne, ibeq]
      all_goals simp
  · by_cases hcn : cap = n
    · subst hcn
      go_enter Try.func58, Try.ntmps58
      go_wp2_with fail
      refine (uv_get _ _ _ (HS.out)).mono ?_
      unfold Got
      rw [HU.out]
      rintro e w' ⟨rfl, rfl⟩
      go_wp2
      go_ret
      refine KEY.out _ off (.inr (by omega)) (((HC.out.set 1 _).set 0 _).as ?_) (((Fr.refl [b] w).cset _ _ (.inl ?_)).cset _ _ (.inl ?_))
      · simp
        try omega
      all_goals simp
    · go_enter Try.func58, Try.ntmps58
      go_wp2_with fail
      refine (uv_get _ _ _ (HS.out)).mono ?_
      unfold Got
      rw [HU.out]
      rintro e w' ⟨rfl, rfl⟩
      go_wp2
      go_ret
      refine KEY.out _ (off + n) (.inl rfl) (((HC.out.set 1 _).set 0 _).as ?_) (((Fr.refl [b] w).cset _ _ (.inl ?_)).cset _ _ (.inl ?_))
      · simp
      all_goals simp

set_option maxRecDepth 100000 in
set_option maxHeartbeats 1600000 in
theorem rd_number_nil (w : World) (K b : Nat) (bad : Bool) (hC : Cells w b 123 [.slice none 0 0, .bool bad]) :
    Calls Try.prog 58 #[.pointer (some ⟨b, 0, none⟩)] w fun e w' => RdN w w' K b ⟨[], bad⟩ e := by
  have HC := Lib.hid hC
  have c0 := hC.cell 0
  have c1 := hC.cell 1
  simp only [List.getElem?_cons_zero, List.getElem?_cons_succ] at c0 c1
  have f0 := hC.frozen 0
  have f1 := hC.frozen 1
  clear hC
  have HU : Hid (uget [] = (0, 0, 2)) := by show _ = _; decide
  have HR : Hid (Rd.num ⟨[], bad⟩ = (0, ⟨[], true⟩)) := by
    show _ = _
    unfold Rd.num
    rw [HU.out]
    simp
  have key : ∀ (w' : World), Cells w' b 123 [.slice none 0 0, .bool true] → Fr [b] w w' → RdN w w' K b ⟨[], bad⟩ (.returned (.int .u64 0)) := by
    intro w' hC' hF
    unfold RdN
    rw [HR.out]
    exact ⟨rfl, ⟨_, hC', SlAt.nil _, by simp [Value.ownBlock]⟩, hF⟩
  have KEY := Lib.hid key
  clear key HR
  cases bad
  all_goals
    go_enter Try.func58, Try.ntmps58
    go_wp2_with fail
    refine (uv_get _ _ _ ((show SlAt w _ (u8s []) from SlAt.nil _))).mono ?_
    unfold Got
    rw [HU.out]
    rintro e w' ⟨rfl, rfl⟩
    go_wp2
    go_ret
    refine KEY.out _ (((HC.out.set 1 _).set 0 _).as ?_) (((Fr.refl [b] w).cset _ _ (.inl ?_)).cset _ _ (.inl ?_))
    all_goals simp

set_option maxRecDepth 100000 in
set_option maxHeartbeats 1600000 in
theorem rd_number_no (w : World) (b : Nat) (bad : Bool) (ad : Addr) (hC : Cells w b 123 [.slice (some ad) 0 0, .bool bad]) :
    Calls Try.prog 58 #[.pointer (some ⟨b, 0, none⟩)] w fun e w' => e = .returned (.int .u64 0) ∧ Cells w' b 123 [.slice (some ad) 0 0, .bool true] ∧ Fr [b] w w' := by
  have HC := Lib.hid hC
  have c0 := hC.cell 0
  have c1 := hC.cell 1
  simp only [List.getElem?_cons_zero, List.getElem?_cons_succ] at c0 c1
  have f0 := hC.frozen 0
  have f1 := hC.frozen 1
  clear hC
  have HU : Hid (uget [] = (0, 0, 2)) := by show _ = _; decide
  cases bad
  all_goals
    go_enter Try.func58, Try.ntmps58
    go_wp2_with fail
    refine (uv_get_no _ ad).mono ?_
    unfold Got
    rw [HU.out]
    rintro e w' ⟨rfl, rfl⟩
    go_wp2
    go_ret
    refine ⟨rfl, ((HC.out.set 1 _).set 0 _).as ?_, ((Fr.refl [b] w).cset _ _ (.inl ?_)).cset _ _ (.inl ?_)⟩
    all_goals simp

theorem rd_number (w : World) (K b : Nat) (r : Rd) (hK : K ≤ b) (h : RdAt w K b r) :
    Calls Try.prog 58 #[.pointer (some ⟨b, 0, none⟩)] w fun e w' => RdN w w' K b r e := by
  obtain ⟨l, bad⟩ := r
  obtain ⟨bv, hC, hs, hne⟩ := h
  rcases hs with ⟨rfl, hx⟩ | ⟨g, off, cap, rfl, hg, k1, k2, k3⟩
  · have : l = [] := by simpa [u8s] using hx
    subst this
    exact rd_number_nil w K b bad hC
  · have hs : SlAt w (.slice (some ⟨g, off, none⟩) (u8s l).length cap) (u8s l) := .inr ⟨g, off, cap, rfl, hg, k1, k2, k3⟩
    dsimp only at hC hs
    rw [u8s_length] at hC hs
    exact rd_number_sl w K b l bad hK g off cap hC hs (hne g rfl)

/-- What body leaves behind: the bytes are own. -/
def RdB (w w' : World) (K b : Nat) (r : Rd) (e : Ending) : Prop := ∃ v, e = .returned v ∧ w'.ownsRow w.heap.size 5 1 v r.body.1.length (u8s r.body.1) ∧ (∃ r' : Rd, r'.bad = r.body.2 ∧ RdAt w' K b r') ∧ Fr [b] w w'

set_option maxRecDepth 100000 in
set_option maxHeartbeats 1600000 in
theorem rd_body (w : World) (K b : Nat) (r : Rd) (hK : K ≤ b) (hb : b < w.heap.size) (h : RdAt w K b r) :
    Calls Try.prog 61 #[.pointer (some ⟨b, 0, none⟩)] w fun e w' => RdB w w' K b r e := by
  obtain ⟨l, bad⟩ := r
  obtain ⟨bv, hC, hs, hne⟩ := h
  dsimp only at hC hs
  obtain ⟨ao, cap, rfl⟩ : ∃ ao cap, bv = .slice ao l.length cap := by
    rcases hs with ⟨rfl, hx⟩ | ⟨g, off, cap, rfl, _⟩
    · have : l = [] := by simpa [u8s] using hx
      subst this
      exact ⟨none, 0, rfl⟩
    · exact ⟨_, cap, by rw [u8s_length]⟩
  have HC := Lib.hid hC
  have HS := Lib.hid hs
  have HNE := Lib.hid hne
  have c0 := hC.cell 0
  have c1 := hC.cell 1
  simp only [List.getElem?_cons_zero, List.getElem?_cons_succ] at c0 c1
  have f0 := hC.frozen 0
  have f1 := hC.frozen 1
  clear hC hs hne
  have HR : Hid (Rd.body ⟨l, bad⟩ = ((fget l).1, bad || decide ((fget l).2.2 ≠ 0) || decide ((fget l).2.1 ≠ l.length))) := rfl
  have HBB : Hid (b < w.heap.size) := Lib.hid hb
  clear hb
  have key : ∀ (w1 w' : World) v (n : Nat) (c : Int), fget l = ((fget l).1, n, c) → w1.ownsRow w.heap.size 5 1 v (fget l).1.length (u8s (fget l).1) → Fr [] w w1 → Cells w1 b 123 [.slice ao l.length cap, .bool bad] → w' = w1.setCell ⟨b, 1, none⟩ (.bool (bad || decide (c ≠ 0) || decide (n ≠ l.length))) → RdB w w' K b ⟨l, bad⟩ (.returned v) := by
    rintro w1 w' v n c hf hown hF hC1 rfl
    have hF2 : Fr [b] w (w1.setCell ⟨b, 1, none⟩ (.bool (bad || decide (c ≠ 0) || decide (n ≠ l.length)))) := (hF.mono (by simp)).cset _ _ (.inl (by simp))
    refine ⟨v, rfl, ?_, ⟨⟨l, _⟩, ?_, ⟨_, (hC1.set 1 _).as (by simp; rfl), HS.out.fr hF2 ?_, HNE.out⟩⟩, hF2⟩
    · rw [HR.out]
      refine own_fr hown ((Fr.refl [b] w1).cset _ _ (.inl (by simp))) ?_
      intro g hg hm
      simp at hm
      subst hm
      rcases hown.2 with h2 | ⟨g', cap', cur, rfl, hb', _⟩
      · rw [h2.1] at hg
        simp [Value.ownBlock] at hg
      · simp [Value.ownBlock] at hg
        have := HBB.out
        omega
    · rw [HR.out, hf]
      simp
    · intro g hg hm
      have := HNE.out g hg
      simp at hm
      omega
  have KEY := Lib.hid key
  clear key HR
  cases bad
  all_goals
    go_enter Try.func61, Try.ntmps61
    go_wp2_with fail
    refine (fr_get _ _ _ HS.out).mono ?_
    rintro e w1 ⟨⟨v, rfl, hown⟩, hF⟩
    have HO := Lib.hid hown
    have HF := Lib.hid hF
    have HC1 := Lib.hid (HC.out.fr hF (by simp))
    have c0' := HC1.out.cell 0
    have c1' := HC1.out.cell 1
    simp only [List.getElem?_cons_zero, List.getElem?_cons_succ] at c0' c1'
    have f0' := HC1.out.frozen 0
    have f1' := HC1.out.frozen 1
    clear hown hF
    go_wp2
    all_goals
      go_ret
      refine KEY.out w1 _ v (fget l).2.1 (fget l).2.2 rfl HO.out HF.out HC1.out ?_
      simp [bne, ibeq, nbeq, *]
end Go.Proofs.Ytjfmgpelkhgodaa
