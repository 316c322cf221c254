/- The walk of (*Belief).Hear. No condition but the fields' ranges. -/
import Derived.Test.YtjfmgpelkhgodaaTrustB
import Derived.BigRegion
namespace Go.Proofs.Ytjfmgpelkhgodaa
open Go.RowKit
attribute [local go_sem ↓ high] run_min_whole run_max_whole

set_option maxHeartbeats 800000 in
theorem bf_hear_bad (b : Nat) (w : World) (σ : Bf) (now : Int) (by_ : Nat) (told : Int) (hB : BelAt w b σ) (hb : σ.bad now by_ told) :
    Calls Try.prog 15 #[.pointer (some ⟨b, 0, none⟩), .int .i64 now, .int .u32 by_, .int .i64 told] w fun e w' => e = .returned (.int .i64 1) ∧ w = w' := by
  obtain ⟨kv, hC, hk, hne⟩ := hB
  have c4 := hC.cell 4
  simp only [bfCells, List.getElem?_cons_zero, List.getElem?_cons_succ] at c4
  clear hk hne hC
  have HB := Lib.hid hb
  clear hb
  by_cases h1 : told < 0
  · go_enter Try.func15, Try.ntmps15
    go_wp2
    go_returns
    exact ⟨rfl, rfl⟩
  by_cases h2 : 2 < told
  · go_enter Try.func15, Try.ntmps15
    go_wp2
    go_returns
    exact ⟨rfl, rfl⟩
  by_cases h3 : by_ = 0
  · subst h3
    go_enter Try.func15, Try.ntmps15
    go_wp2
    go_returns
    exact ⟨rfl, rfl⟩
  have h3' : ((by_ : Int) == 0) = false := by simp; exact h3
  by_cases h4 : now < σ.nw
  · clear h3
    go_enter Try.func15, Try.ntmps15
    go_wp2
    go_returns
    exact ⟨rfl, rfl⟩
  by_cases h5 : 1099511627776 < now
  · clear h3
    go_enter Try.func15, Try.ntmps15
    go_wp2
    go_returns
    exact ⟨rfl, rfl⟩
  · exfalso
    have := HB.out
    unfold Bf.bad at this
    omega

/-- Behind the append: the row's end, from f on, is what is known. -/
theorem hear_end {w w2 W : World} {b g m cap f base : Nat} {σ' : Bf} {l : List Nat} (hb : b < base)
    (hown : w2.ownsRow base 27 1 (.slice (some ⟨g, 0, none⟩) (m + 1) cap) (m + 1) (l.map fun (n : Nat) => Value.int .u32 n))
    (hf : f ≤ m + 1) (hf2 : Fr [b] w2 W) (hf1 : Fr [b] w w2) (hkn : σ'.kn = l.drop f)
    (hC : Cells W b 102 (bfCells σ' (.slice (some ⟨g, f, none⟩) (m + 1 - f) (m + 1 - f)))) : OnTo w b σ' W := by
  have hlt := hown.lt g rfl
  have hc := hown.cells (g := g) rfl
  have hlen : l.length = m + 1 := by
    have := hown.1
    simpa using this
  have hmax : m + 1 ≤ maxLen := by
    rcases hown.2 with ⟨h, _⟩ | ⟨g', cap2, cur, h, _, _, hc1, hc2, _⟩
    · cases h
    · cases h
      omega
  refine ⟨⟨_, hC, ?_, ?_⟩, hf1.trans hf2⟩
  · refine .inr ⟨g, f, ?_, Nat.lt_of_lt_of_le hlt.2 hf2.size, ?_, ?_⟩
    · simp [hkn, hlen]
    · simp [hkn, hlen]
      omega
    · intro j hj
      have hj' : j < m + 1 - f := by simpa [hkn, hlen] using hj
      have hq := hc (f + j) (.int .u32 ((l.getD (f + j) 0 : Nat) : Int)) (by simp [List.getD, show f + j < l.length by omega])
      have e : (⟨g, 0, none⟩ : Addr).add (f + j) = ⟨g, f + j, none⟩ := by
        unfold Addr.add
        split <;> simp_all
      rw [e] at hq
      have hg : W.cell? ⟨g, f + j, none⟩ = w2.cell? ⟨g, f + j, none⟩ := World.cell?_of_block (w := w2) (hf2.block g hlt.2 (by simp; omega))
      rw [hg, hq]
      have hjl : f + j < l.length := by omega
      simp [hkn, List.getElem?_drop, List.getD, hjl]
  · intro g' hg'
    simp [Value.ownBlock] at hg'
    omega

theorem Try.info27 : (Try.prog.info? 27).map (fun i => (i.zero, i.size, i.bytes)) = some (some (.int .u32 0), 1, 4) := by kernel_rfl

set_option maxRecDepth 100000 in
set_option maxHeartbeats 800000 in
theorem bf_hear_good (b : Nat) (w : World) (σ : Bf) (now : Int) (by_ : Nat) (told : Int) (hB : BelAt w b σ) (hok : σ.Ok) (hb : ¬ σ.bad now by_ told) :
    Calls Try.prog 15 #[.pointer (some ⟨b, 0, none⟩), .int .i64 now, .int .u32 by_, .int .i64 told] w fun e w' => e = .returned (.int .i64 (σ.answer now by_ told)) ∧ OnTo w b (σ.hear now by_ told) w' := by
  have HB := Lib.hid hB
  obtain ⟨kv, hC, hk, hne⟩ := hB
  have c4 := hC.cell 4
  simp only [bfCells, List.getElem?_cons_zero, List.getElem?_cons_succ] at c4
  clear hk hne hC
  have hb' := hb
  unfold Bf.bad at hb'
  have h1 : 0 ≤ told := by omega
  have h2 : told ≤ 2 := by omega
  have h3 : ((by_ : Int) == 0) = false := by simp; omega
  have h4 : σ.nw ≤ now := by omega
  have h5 : now ≤ 1099511627776 := by omega
  have h0 : ¬ told < 0 := by omega
  have HNB := Lib.hid hb
  clear hb hb'
  go_enter Try.func15, Try.ntmps15
  go_wp2_with fail
  refine (bf_on b w σ now HB.out hok).mono ?_
  rintro e w1 ⟨rfl, hB1, hF1⟩
  clear c4
  obtain ⟨kv1, hC1, hk1, hne1⟩ := hB1
  have c2 := hC1.cell 2
  simp only [bfCells, List.getElem?_cons_zero, List.getElem?_cons_succ] at c2
  have HC1 := Lib.hid hC1
  have HK1 := Lib.hid hk1
  have HNE1 := Lib.hid hne1
  have HF1 := Lib.hid hF1
  clear hC1 hk1 hne1 hF1
  go_wp2_with fail
  have eg : ((by_ : Int) / 65536) = ((by_ / 65536 : Nat) : Int) := by omega
  rw [eg]
  clear eg
  generalize hgq : by_ / 65536 = gq
  have HGQ := Lib.hid hgq
  clear hgq
  refine (u32_contains _ _ (σ.on now).kn (gq) HK1.out.at_).mono ?_
  rintro e w' ⟨rfl, rfl⟩
  by_cases hm : gq ∈ (σ.on now).kn
  · have hd : decide (gq ∈ (σ.on now).kn) = true := by simp [hm]
    rw [hd]
    have HM := Lib.hid hm
    clear hm hd
    go_wp2
    go_returns
    refine ⟨?_, ?_⟩
    · rw [Bf.answer, HGQ.out, if_neg HNB.out, if_pos HM.out]
      rfl
    · rw [Bf.hear, HGQ.out, if_neg HNB.out, if_pos HM.out]
      exact ⟨⟨kv1, HC1.out, HK1.out, HNE1.out⟩, HF1.out⟩
  · have hd : decide (gq ∈ (σ.on now).kn) = false := by simp [hm]
    rw [hd]
    have HM := Lib.hid hm
    clear hm hd
    obtain ⟨ao, hkv, hnone, hcells⟩ := HK1.out.parts
    subst hkv
    have hok1 := hok.on now
    have hlen : ((σ.on now).kn.map fun (n : Nat) => Value.int .u32 n).length = (σ.on now).kn.length := by simp
    have hk8 := hok1.kn
    rw [hlen] at hnone c2
    have HCE := Lib.hid hcells
    have HNO := Lib.hid hnone
    clear hcells hnone hlen
    generalize hm' : (σ.on now).kn.length = m at *
    have HMM := Lib.hid hm'
    clear hm'
    obtain ⟨i0, hi, hz0, hz1, hz2⟩ := info_parts Try.info27
    go_wp2_with (at_builtin; refine wpList_append_grows _ rfl (.tmp 48) (.tmp 50) 100 rfl 27 i0 (.int .u32 0) 1 4 Try.underlying100 hi hz0 hz1 hz2 rfl (by decide) ao m m ((σ.on now).kn.map fun (n : Nat) => Value.int .u32 n) rfl ?hnone ?hlo ?holds ⟨w1.heap.size, 0, none⟩ 1 1 [.int .u32 gq] rfl rfl ?c1 ?c2 (by omega) (by unfold maxLen; omega) (by omega) ?grow)
    case hnone => exact HNO.out
    case hlo => simp [HMM.out]
    case holds =>
      intro b2 hb2 j u hu
      obtain ⟨q1, q2⟩ := HCE.out b2 hb2
      have := q2 j u hu
      have hlt : b2.block < w1.heap.size := q1
      rw [← this]
      exact World.cell?_of_block (w := w1) (by
        have e : (b2.add j).block = b2.block := by unfold Addr.add; split <;> rfl
        rw [e]
        exact Below.heap_alloc _ _ _ hlt)
    case c1 =>
      intro j u hj
      match j, hj with
      | 0, hj =>
        simp at hj
        subst hj
        simp [Addr.add]
    case c2 =>
      intro u hu
      simp at hu
      subst hu
      rfl
    case grow =>
      intro v' w2 hown hgrow
      obtain ⟨g, cap', rfl⟩ : ∃ g cap', v' = .slice (some ⟨g, 0, none⟩) (m + 1) cap' := by
        rcases hown.2 with ⟨_, h⟩ | ⟨g, cap', _, h, _⟩
        · omega
        · exact ⟨g, cap', h⟩
      have hfr2 : Fr [b] w w2 := (HF1.out.calloc _).cgrown hgrow (by intro k hk; cases hk)
      have hC2 := (HC1.out.alloc (.cells #[.int .u32 gq] 27)).fr (Fr.grown hgrow [] (by intro k hk; cases hk)) (by simp)
      have k0 := hC2.cell 0
      have k1 := hC2.cell 1
      have k2 := hC2.cell 2
      have k3 := hC2.cell 3
      simp only [bfCells, List.getElem?_cons_zero, List.getElem?_cons_succ] at k0 k1 k2 k3
      have f0 := hC2.frozen 0
      have f1 := hC2.frozen 1
      have f2 := hC2.frozen 2
      have f3 := hC2.frozen 3
      have HC2 := Lib.hid hC2
      have HOWN := Lib.hid hown
      have HFR2 := Lib.hid hfr2
      clear hC2 hown hfr2 hgrow c2
      have hcf := hok1.cf
      have hst := hok1.st
      go_wp2
      obtain ⟨hcap1, hcap2⟩ : m + 1 ≤ cap' ∧ cap' ≤ maxLen := by
        rcases HOWN.out.2 with ⟨h, _⟩ | ⟨g', cap2, cur, h, _, _, hc1, hc2, _⟩
        · cases h
        · cases h
          exact ⟨hc1, hc2⟩
      unfold maxLen at hcap2
      have e10 : max (0 : Int) ((m : Int) + 1 - 8) = ((m - 7 : Nat) : Int) := by omega
      rw [e10]
      clear e10
      have hf7 : m - 7 ≤ 1 := by omega
      generalize hfv : m - 7 = f at hf7 ⊢
      have HFV := Lib.hid hfv
      clear hfv
      have hfm : (f : Int) ≤ (m : Int) + 1 := by omega
      have hfm' : f ≤ m + 1 := by omega
      have hfne : ¬ m + 1 = f := by
        have := HFV.out
        omega
      go_region
      have HANS : Hid (σ.answer now by_ told = 0) := by
        show _ = _
        rw [Bf.answer, HGQ.out, if_neg HNB.out, if_neg HM.out]
      have HHEAR : Hid (σ.hear now by_ told = (σ.on now).told now gq told) := by
        show _ = _
        rw [Bf.hear, HGQ.out, if_neg HNB.out, if_neg HM.out]
      have hblt : b < w1.heap.size + 1 := Nat.lt_succ_of_lt HC1.out.lt
      have HOWN2 : Hid (w2.ownsRow (w1.heap.size + 1) 27 1 (.slice (some ⟨g, 0, none⟩) (m + 1) cap') (m + 1) (((σ.on now).kn ++ [gq]).map fun (n : Nat) => Value.int .u32 n)) := by
        have := HOWN.out
        show World.ownsRow _ _ _ _ _ _ _
        simpa using this
      have HKN : Hid (((σ.on now).kn ++ [gq]).length - 8 = f) := by
        show _ = _
        have h1 := HMM.out
        have h2 := HFV.out
        simp
        omega
      by_cases hA : (σ.on now).st = told
      · by_cases h0t : told = 0
        · have bA : ((σ.on now).st == told) = true := by simp [hA]
          have bT : (told != 0) = false := by simp [h0t]
          have bZ : ((σ.on now).st == 0) = true := by simp [hA, h0t]
          have HA := Lib.hid hA
          have H0T := Lib.hid h0t
          clear hA h0t
          have HT : Hid ((σ.on now).told now gq told = { σ.on now with kn := ((σ.on now).kn ++ [gq]).drop (((σ.on now).kn ++ [gq]).length - 8), hd := now, st := told }) := by
            show _ = _
            unfold Bf.told
            rw [if_neg (by rintro ⟨_, h⟩; exact h H0T.out), if_pos (HA.out.trans H0T.out)]
          go_wp2
          go_returns
          refine ⟨by rw [HANS.out]; rfl, ?_⟩
          rw [HHEAR.out, HT.out]
          refine hear_end hblt HOWN2.out hfm' ?_ HFR2.out ?_ ?_
          · exact (((((Fr.refl _ _).cset _ _ (by simp)).cset _ _ (by simp)).cset _ _ (by simp)).cset _ _ (by simp)).cdrew
          · simp only [HKN.out]
          · have h := ((((HC2.out.set 2 (.slice (some ⟨g, 0, none⟩) (m + 1) cap')).set 2 (.slice (some ⟨g, f, none⟩) (m + 1 - f) (m + 1 - f))).set 3 (.int .i64 now)).set 0 (.int .i64 told)).drew
            simpa [bfCells] using h
        · have bA : ((σ.on now).st == told) = true := by simp [hA]
          have bT : (told != 0) = true := by simp [h0t]
          have HA := Lib.hid hA
          have H0T := Lib.hid h0t
          clear hA h0t
          have HT : Hid ((σ.on now).told now gq told = { σ.on now with kn := ((σ.on now).kn ++ [gq]).drop (((σ.on now).kn ++ [gq]).length - 8), hd := now, cf := min ((σ.on now).cf + 1) 3 }) := by
            show _ = _
            unfold Bf.told
            rw [if_pos ⟨HA.out, H0T.out⟩]
          go_wp2
          go_returns
          refine ⟨by rw [HANS.out]; rfl, ?_⟩
          rw [HHEAR.out, HT.out]
          refine hear_end hblt HOWN2.out hfm' ?_ HFR2.out ?_ ?_
          · exact (((((Fr.refl _ _).cset _ _ (by simp)).cset _ _ (by simp)).cset _ _ (by simp)).cset _ _ (by simp)).cdrew
          · simp only [HKN.out]
          · have h := ((((HC2.out.set 2 (.slice (some ⟨g, 0, none⟩) (m + 1) cap')).set 2 (.slice (some ⟨g, f, none⟩) (m + 1 - f) (m + 1 - f))).set 3 (.int .i64 now)).set 1 (.int .i64 (min ((σ.on now).cf + 1) 3))).drew
            simpa [bfCells] using h
      · have bA : ((σ.on now).st == told) = false := by simp [hA]
        have HA := Lib.hid hA
        clear hA
        by_cases hz : (σ.on now).st = 0
        · have bZ : ((σ.on now).st == 0) = true := by simp [hz]
          have HZ := Lib.hid hz
          clear hz
          have HT : Hid ((σ.on now).told now gq told = { σ.on now with kn := ((σ.on now).kn ++ [gq]).drop (((σ.on now).kn ++ [gq]).length - 8), hd := now, st := told }) := by
            show _ = _
            unfold Bf.told
            rw [if_neg (by rintro ⟨h, _⟩; exact HA.out h), if_pos HZ.out]
          go_wp2
          go_returns
          refine ⟨by rw [HANS.out]; rfl, ?_⟩
          rw [HHEAR.out, HT.out]
          refine hear_end hblt HOWN2.out hfm' ?_ HFR2.out ?_ ?_
          · exact (((((Fr.refl _ _).cset _ _ (by simp)).cset _ _ (by simp)).cset _ _ (by simp)).cset _ _ (by simp)).cdrew
          · simp only [HKN.out]
          · have h := ((((HC2.out.set 2 (.slice (some ⟨g, 0, none⟩) (m + 1) cap')).set 2 (.slice (some ⟨g, f, none⟩) (m + 1 - f) (m + 1 - f))).set 3 (.int .i64 now)).set 0 (.int .i64 told)).drew
            simpa [bfCells] using h
        · have bZ : ((σ.on now).st == 0) = false := by simp [hz]
          have HZ := Lib.hid hz
          clear hz
          go_wp2_with fail
          have hC3 := ((((HC2.out.set 2 (.slice (some ⟨g, 0, none⟩) (m + 1) cap')).set 2 (.slice (some ⟨g, f, none⟩) (m + 1 - f) (m + 1 - f))).set 3 (.int .i64 now))).drew
          have hC4 := hC3.as (cs' := bfCells { σ.on now with hd := now } (.slice (some ⟨g, f, none⟩) (m + 1 - f) (m + 1 - f))) rfl
          refine (bf_less b _ { σ.on now with hd := now } _ told hC4 hcf.1 hcf.2).mono ?_
          rintro e w3 ⟨rfl, hw3⟩
          have HW3 := Lib.hid hw3
          have HC4 := Lib.hid hC4
          clear hw3 hC3 hC4
          go_wp2
          go_returns
          refine ⟨by rw [HANS.out]; rfl, ?_⟩
          rw [HHEAR.out]
          have hw3 := HW3.out
          by_cases hp : 0 < (σ.on now).cf
          · have HT : (σ.on now).told now gq told = { σ.on now with kn := ((σ.on now).kn ++ [gq]).drop (((σ.on now).kn ++ [gq]).length - 8), hd := now, cf := (σ.on now).cf - 1 } := by
              unfold Bf.told
              rw [if_neg (by rintro ⟨h, _⟩; exact HA.out h), if_neg HZ.out, if_pos hp]
            rw [if_pos hp] at hw3
            subst hw3
            rw [HT]
            refine hear_end hblt HOWN2.out hfm' ?_ HFR2.out ?_ ?_
            · exact (((((Fr.refl _ _).cset _ _ (by simp)).cset _ _ (by simp)).cset _ _ (by simp)).cdrew).cset _ _ (by simp)
            · simp only [HKN.out]
            · have h := HC4.out.set 1 (.int .i64 ((σ.on now).cf - 1))
              simpa [bfCells] using h
          · have HT : (σ.on now).told now gq told = { σ.on now with kn := ((σ.on now).kn ++ [gq]).drop (((σ.on now).kn ++ [gq]).length - 8), hd := now, st := told } := by
              unfold Bf.told
              rw [if_neg (by rintro ⟨h, _⟩; exact HA.out h), if_neg HZ.out, if_neg hp]
            rw [if_neg hp] at hw3
            subst hw3
            rw [HT]
            refine hear_end hblt HOWN2.out hfm' ?_ HFR2.out ?_ ?_
            · exact (((((Fr.refl _ _).cset _ _ (by simp)).cset _ _ (by simp)).cset _ _ (by simp)).cdrew).cset _ _ (by simp)
            · simp only [HKN.out]
            · have h := HC4.out.set 0 (.int .i64 told)
              simpa [bfCells] using h

theorem bf_hear (b : Nat) (w : World) (σ : Bf) (now : Int) (by_ : Nat) (told : Int) (hB : BelAt w b σ) (hok : σ.Ok) :
    Calls Try.prog 15 #[.pointer (some ⟨b, 0, none⟩), .int .i64 now, .int .u32 by_, .int .i64 told] w fun e w' => e = .returned (.int .i64 (σ.answer now by_ told)) ∧ OnTo w b (σ.hear now by_ told) w' := by
  by_cases hb : σ.bad now by_ told
  · refine (bf_hear_bad b w σ now by_ told hB hb).mono ?_
    rintro e w' ⟨rfl, rfl⟩
    rw [Bf.answer, if_pos hb, Bf.hear, if_pos hb]
    exact ⟨rfl, hB, Fr.refl _ _⟩
  · exact bf_hear_good b w σ now by_ told hB hok hb

theorem Bf.Ok.hear {σ : Bf} (h : σ.Ok) (now : Int) (by_ : Nat) (told : Int) : (σ.hear now by_ told).Ok := by
  unfold Bf.hear
  split
  · exact h
  · rename_i hb
    have h1 := h.on now
    split
    · exact h1
    · have hnw : (σ.on now).nw = now := by
        have : σ.nw ≤ now ∧ now ≤ 1099511627776 := by
          unfold Bf.bad at hb
          omega
        have e : (σ.on now).nw = σ.now now := by
          unfold Bf.on
          split <;> rfl
        rw [e, Bf.now]
        omega
      have ht : 0 ≤ told ∧ told ≤ 2 := by
        unfold Bf.bad at hb
        omega
      obtain ⟨h1, h2, h3, h4, h5, h6⟩ := h1
      have hk : (((σ.on now).kn ++ [by_ / 65536]).drop (((σ.on now).kn ++ [by_ / 65536]).length - 8)).length ≤ 8 := by
        simp
        omega
      unfold Bf.told
      split
      · exact ⟨h1, by dsimp only; omega, by dsimp only; omega, h4, h5, hk⟩
      · split
        · exact ⟨ht, h2, by dsimp only; omega, h4, h5, hk⟩
        · split
          · exact ⟨h1, by dsimp only; omega, by dsimp only; omega, h4, h5, hk⟩
          · exact ⟨ht, h2, by dsimp only; omega, h4, h5, hk⟩
end Go.Proofs.Ytjfmgpelkhgodaa
