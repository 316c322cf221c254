/- The walk of wire.FromBytes. No condition but the arguments' kinds. -/
import Derived.Deep.RegionHeld3
import Derived.Deep.AppendLies
import Derived.Deep.MidRow
import Derived.Deep.RegionLaw
import Derived.WalkSpells
import Derived.StillTactics
import Derived.OwnWalk
import Derived.Test.YtjfmgpelkhgodaaStepCall
namespace Go.Proofs.Ytjfmgpelkhgodaa
open Go.RowKit
attribute [local go_sem ↓ high] run_min_whole run_max_whole
attribute [local go_sem] Oper.semAt_some

theorem Try.info_u64 : (Try.prog.info? 40).map (fun i => (i.zero, i.size, i.bytes)) = some (some (.int .u64 0), 1, 8) := by kernel_rfl
theorem Try.info_ad : (Try.prog.info? 114).map (fun i => (i.zero, i.size, i.bytes)) = some (some (.agg #[.int .u32 0, .int .i64 0]), 2, 16) := by kernel_rfl

theorem own_ge {w : World} {base : Nat} {e : TypeId} {size : Nat} {v : Value} {n : Nat} {xs : List Value} (h : w.ownsRow base e size v n xs) {g : Nat} (hg : v.ownBlock = some g) : base ≤ g := by
  rcases h.2 with h2 | ⟨g', cap, cur, rfl, hb, _⟩
  · rw [h2.1] at hg
    simp [Value.ownBlock] at hg
  · simp [Value.ownBlock] at hg
    omega
theorem own_shape {w : World} {base : Nat} {e : TypeId} {size : Nat} {v : Value} {n : Nat} {xs : List Value} (h : w.ownsRow base e size v n xs) : ∃ ao cap, v = .slice ao n cap := by
  rcases h.2 with ⟨rfl, rfl⟩ | ⟨g', cap, cur, rfl, _⟩
  · exact ⟨none, 0, rfl⟩
  · exact ⟨_, cap, rfl⟩
theorem own_lt {w : World} {base : Nat} {e : TypeId} {size : Nat} {v : Value} {n : Nat} {xs : List Value} (h : w.ownsRow base e size v n xs) {g : Nat} (hg : v.ownBlock = some g) : g < w.heap.size := by
  rcases h.2 with h2 | ⟨g', cap, cur, rfl, _, hb, _⟩
  · rw [h2.1] at hg
    simp [Value.ownBlock] at hg
  · simp [Value.ownBlock] at hg
    subst hg
    exact (Array.getElem?_eq_some_iff.1 hb).1
theorem Cells.news {w : World} {b : Nat} {T : TypeId} {cs : List Value} (h : Cells w b T cs) : ∀ j u, cs[j]? = some u → w.cell? ((⟨b, 0, none⟩ : Addr).add j) = some u := by
  intro j u hj
  have e : (⟨b, 0, none⟩ : Addr).add j = ⟨b, j, none⟩ := by
    unfold Addr.add
    split <;> simp_all
  rw [e, h.cell j, hj]

/-- What lies at a stage of FromBytes: the result's block K, the reader behind it. -/
structure FrSt (w w1 : World) (r : Rd) : Prop where
  res : Cells w1 w.heap.size 56 [.int .i64 0, .slice none 0 0, .slice none 0 0, .slice none 0 0]
  rd : RdAt w1 w.heap.size (w.heap.size + 1) r
  fr : Fr [] w w1
theorem FrSt.size {w w1 : World} {r : Rd} (h : FrSt w w1 r) : w.heap.size + 1 < w1.heap.size := by
  obtain ⟨bv, h1, _⟩ := h.rd
  exact h1.lt
theorem FrSt.step {S : List Nat} {w w1 w2 : World} {r : Rd} (h : FrSt w w1 r) (hf : Fr S w1 w2) (hS : ∀ g, g ∈ S → w.heap.size + 1 < g) : FrSt w w2 r :=
  ⟨h.res.fr hf (fun hm => by have := hS _ hm; omega), h.rd.fr hf (fun hm => by have := hS _ hm; omega) (fun g hg => by have := hS _ hg; omega), h.fr.step hf (fun k hk => by have := hS _ hk; right; omega)⟩
theorem FrSt.num {w w1 w2 : World} {r : Rd} {e : Ending} (h : FrSt w w1 r) (hn : RdN w1 w2 w.heap.size (w.heap.size + 1) r e) : e = .returned (.int .u64 r.num.1) ∧ FrSt w w2 r.num.2 ∧ Fr [w.heap.size + 1] w1 w2 := by
  obtain ⟨h1, h2, h3⟩ := hn
  exact ⟨h1, ⟨h.res.fr h3 (by simp), h2, h.fr.step h3 (by simp)⟩, h3⟩
theorem FrSt.start (w : World) (bv : Value) (l : List UInt8) (hb : SlAt w bv (u8s l)) : FrSt w ((w.alloc (.cells #[.int .i64 0, .slice none 0 0, .slice none 0 0, .slice none 0 0] 56)).alloc (.cells #[bv, .bool false] 123)) ⟨l, false⟩ := by
  have h1 := Cells.new (w.alloc (.cells #[.int .i64 0, .slice none 0 0, .slice none 0 0, .slice none 0 0] 56)) 123 [bv, .bool false]
  rw [World.size_alloc] at h1
  have hF : Fr [] w ((w.alloc (.cells #[.int .i64 0, .slice none 0 0, .slice none 0 0, .slice none 0 0] 56)).alloc (.cells #[bv, .bool false] 123)) := ((Fr.refl [] w).calloc _).calloc _
  refine ⟨(Cells.new w 56 [.int .i64 0, .slice none 0 0, .slice none 0 0, .slice none 0 0]).alloc _, ⟨bv, h1, hb.fr hF (by simp), ?_⟩, hF⟩
  intro g hg
  rcases hb with ⟨rfl, _⟩ | ⟨g', off, cap, rfl, hg', _⟩
  · simp [Value.ownBlock] at hg
  · simp [Value.ownBlock] at hg
    omega

theorem postM_ret0 {F : Fence} {n : Nat} {P : Program} {fn : Func} {R : Ending → World → Prop} {tmps : Array Value} {w : World} {v : Value} (hr : (results fn tmps).run P w = .ok v w) (hR : R (.returned v) w) :
    bodyPostM F n P fn R .ret { tmps := tmps, defers := [] } w := ⟨v, hr, hR⟩
theorem postM_ret1 {F : Fence} {n : Nat} {P : Program} {fn : Func} {R : Ending → World → Prop} {tmps : Array Value} {w : World} {v : Value} {D : Nat} (hK : w.heap[D]? = some (.deferred (some [])))
    (hr : (results fn tmps).run P (w.putObj D (.deferred none)) = .ok v (w.putObj D (.deferred none))) (hR : R (.returned v) (w.putObj D (.deferred none))) :
    bodyPostM F n P fn R .ret { tmps := tmps, defers := [{ target := .collected D, args := #[] }] } w := ⟨by simp, .inl ⟨_, _, rfl, run_takeDeferred hK, v, hr, hR⟩⟩
theorem from_results {w : World} {b : Nat} {c0 c1 c2 c3 code : Value} {tmps : Array Value} (hC : Cells w b 56 [c0, c1, c2, c3]) (h2 : tmps[2]?.getD undef = .pointer (some ⟨b, 0, none⟩)) (h3 : tmps[3]?.getD undef = code) :
    (results Try.f27 tmps).run Try.prog w = .ok (.tuple #[.agg #[c0, c1, c2, c3], code]) w := by
  have r0 := hC.cell 0
  have r1 := hC.cell 1
  have r2 := hC.cell 2
  have r3 := hC.cell 3
  simp only [List.getElem?_cons_zero, List.getElem?_cons_succ] at r0 r1 r2 r3
  simp [results, Try.results27, go_sem, r0, r1, r2, r3, h2, h3]

theorem FromGot.none {w w1 : World} {l : List UInt8} (h : mfrom l = none) : FromGot w w1 l (.returned (.tuple #[mgV ⟨0, [], [], []⟩ (.slice none 0 0) (.slice none 0 0) (.slice none 0 0), .int .i64 3])) := by
  unfold FromGot
  rw [h]

set_option maxRecDepth 100000 in
set_option maxHeartbeats 8000000 in
theorem wr_from (w : World) (bv : Value) (l : List UInt8) (hb : SlAt w bv (u8s l)) :
    Calls Try.prog 27 #[bv] w fun e w' => FromGot w w' l e ∧ Fr [] w w' := by
  have HB := Lib.hid hb
  obtain ⟨ao, cap, hv⟩ : ∃ ao cap, bv = .slice ao l.length cap := by
    obtain ⟨ao, cap, h⟩ := sl_shape hb
    exact ⟨ao, cap, by rw [h, u8s_length]⟩
  clear hb
  subst hv
  refine (callsIn_wide (n := 1)).1 (callsIn_of_wp_marks Try.func27 rfl trivial (wpIn_wide.2 ?_) rfl)
  simp only [Try.ntmps27, List.size_toArray, List.length_cons, List.length_nil, Nat.reduceAdd, Nat.reduceSub, Array.replicate_succ, Array.replicate_zero, List.push_toArray, List.append_toArray, List.nil_append, List.cons_append]
  obtain ⟨i0, hi, hz0, hz1, hz2⟩ := info_parts Try.info_u64
  obtain ⟨i1, hj, hy0, hy1, hy2⟩ := info_parts Try.info_ad
  have EG : Hid (∀ args w, (callFunc 58 args).run Try.prog w = .ok (.enter 58 args) w) := enters_of Try.func58 (by kernel_rfl) rfl
  go_wp2_with fail
  have H0 := Lib.hid (FrSt.start w _ l HB.out)
  refine (rd_number _ _ _ ⟨l, false⟩ (by omega) H0.out.rd).mono ?_
  intro e w1 hn
  obtain ⟨rfl, h1, -⟩ := H0.out.num hn
  clear hn
  obtain ⟨k1, ⟨l1, bad1⟩, HK1⟩ : ∃ k1 r1, Hid (Rd.num ⟨l, false⟩ = (k1, r1)) := ⟨_, _, rfl⟩
  rw [HK1.out] at h1 ⊢
  obtain ⟨bv1, hc1, -, -⟩ := h1.rd
  have c1 := hc1.cell 1
  have r0 := h1.res.cell 0
  have r1 := h1.res.cell 1
  have r2 := h1.res.cell 2
  have r3 := h1.res.cell 3
  simp only [List.getElem?_cons_zero, List.getElem?_cons_succ] at c1 r0 r1 r2 r3
  have H1 := Lib.hid h1
  clear h1 hc1
  cases bad1
  rotate_left
  · have HN : Hid (mfrom l = none) := mfrom_one HK1.out (.inl rfl)
    go_wp2_with (refine wpList_store_whole rfl 56 (.tmp 2) (.tmp 22) rfl w.heap.size [.int .i64 0, .slice none 0 0, .slice none 0 0, .slice none 0 0] rfl rfl _ _ H1.out.res (by kernel_rfl) rfl (by simp [Value.oneCell']) ?_; intro w2 hc2 hf2 _; have HC2 := Lib.hid hc2; have HF2 := Lib.hid hf2; clear hc2 hf2)
    exact postM_ret0 (from_results HC2.out rfl rfl) ⟨FromGot.none HN.out, H1.out.fr.step HF2.out (by simp)⟩
  by_cases h18 : 18 < k1
  · have HN : Hid (mfrom l = none) := mfrom_one HK1.out (.inr h18)
    have h18' : (18 : Int) < (k1 : Int) := by omega
    go_wp2_with (refine wpList_store_whole rfl 56 (.tmp 2) (.tmp 22) rfl w.heap.size [.int .i64 0, .slice none 0 0, .slice none 0 0, .slice none 0 0] rfl rfl _ _ H1.out.res (by kernel_rfl) rfl (by simp [Value.oneCell']) ?_; intro w2 hc2 hf2 _; have HC2 := Lib.hid hc2; have HF2 := Lib.hid hf2; clear hc2 hf2)
    exact postM_ret0 (from_results HC2.out rfl rfl) ⟨FromGot.none HN.out, H1.out.fr.step HF2.out (by simp)⟩
  have h18' : ¬ (18 : Int) < (k1 : Int) := by omega
  have h18a : (0 : Int) ≤ (k1 : Int) := by omega
  have h18b : (k1 : Int) ≤ 9223372036854775807 := by omega
  go_wp2_with (refine wpList_store_whole rfl 56 (.tmp 6) (.tmp 25) rfl w1.heap.size [.int .i64 k1, .slice none 0 0, .slice none 0 0, .slice none 0 0] rfl rfl _ _ (heap_alloc_new w1 _) (by kernel_rfl) rfl (by simp [Value.oneCell']) ?_; intro w2 hc2 hf2 _; have HC2 := Lib.hid hc2; have HF2 : Hid (Fr [] w1 w2) := ((Fr.refl [] w1).calloc _).step hf2 (by simp); have m0 := hc2.cell 0; simp only [List.getElem?_cons_zero] at m0; clear hc2 hf2)
  refine (wr_nums w2 _).mono ?_
  rintro e w3 ⟨rfl, hf3⟩
  have HM3 := Lib.hid (HC2.out.fr hf3 (by simp))
  have H3 := Lib.hid (H1.out.step (HF2.out.trans hf3) (by simp))
  clear hf3
  go_wp2_with fail
  obtain ⟨N, HNk, hN6, hNmax⟩ : ∃ N, Hid (N = (numsOf k1).toNat) ∧ N ≤ 6 ∧ max (numsOf k1) 0 = (N : Int) := ⟨_, rfl, by have := numsOf_le k1; omega, by omega⟩
  rw [hNmax]
  clear hNmax
  obtain ⟨bm, hbm⟩ : ∃ bm, bm = w1.heap.size := ⟨_, rfl⟩
  have hbw : w.heap.size + 1 < bm := by rw [hbm]; exact H1.out.size
  rw [← hbm] at HM3 ⊢
  have hb3 : bm < w3.heap.size := HM3.out.lt
  clear hbm r0 r1 r2 r3 c1 m0
  go_loopw [30] (fun v wr => ∃ (k : Nat) (pre : List Nat) (r' : Rd) (nv : Value), k ≤ N ∧ v = .int .i64 k ∧ NLeft ⟨l1, false⟩ N k pre r' ∧ FrSt w wr r' ∧ Cells wr bm 56 [.int .i64 k1, nv, .slice none 0 0, .slice none 0 0] ∧ wr.ownsRow (bm + 1) 40 1 nv k (u64s pre))
    (fun v _ => N - (intOf v).toNat)
  case atStart => exact ⟨0, [], _, _, Nat.zero_le _, rfl, NLeft.start _ _, H3.out, HM3.out, World.ownsRow_nil _ _ _ _⟩
  case round =>
    obtain ⟨k, pre, r', nv, hk, rfl, hL, hst, hm, hown⟩ := hrel
    have HL := Lib.hid hL
    have HST := Lib.hid hst
    have HMr := Lib.hid hm
    have HO := Lib.hid hown
    have m1 := hm.cell 1
    simp only [List.getElem?_cons_succ, List.getElem?_cons_zero] at m1
    have f1 := hm.frozen 1
    have HOG : Hid (∀ g, nv.ownBlock = some g → bm + 1 ≤ g) := fun g hg => own_ge HO.out hg
    have HOB : Hid (∀ g, nv.ownBlock = some g → g ∉ [w.heap.size + 1]) := fun g hg => by
      have := HOG.out g hg
      simp
      omega
    have HOM : Hid (bm ∉ nv.ownBlock.toList) := by
      show bm ∉ _
      intro hm'
      have := HOG.out bm (by simpa using hm')
      omega
    have HK : Hid (k < N → k + 1 ≤ maxLen ∧ (k + 1) * 8 ≤ 140737488355328) := fun _ => by
      unfold maxLen
      constructor <;> omega
    clear hL hst hm hown
    by_cases hlt : k < N
    · have HL1 := Lib.hid (HL.out.next hlt)
      go_wp2_with fail
      refine wp_region_noPanic ?_
      go_region_law (first
        | (refine step_call1 rfl 58 34 121 rfl ?_ _ rfl (rd_number _ w.heap.size (w.heap.size + 1) r' ?_ ?_) ?_
           · exact EG.out
           · exact Nat.le_succ _
           · exact HST.out.rd.fr (Fr.drew wr []) (by simp) (by simp)
           intro e w4 hn
           obtain ⟨rfl, hst4, hf4⟩ := (HST.out.step (Fr.drew wr []) (by simp)).num hn
           refine ⟨_, rfl, ?_⟩
           have HST4 := Lib.hid hst4
           have HF4 : Hid (Fr [w.heap.size + 1] wr w4) := ((Fr.refl _ wr).cdrew).trans hf4
           have HM4 := Lib.hid (HMr.out.fr HF4.out (by simp; omega))
           have HO4 := Lib.hid (own_fr HO.out HF4.out HOB.out)
           have m4 := HM4.out.cell 1
           have m4a := (HM4.out.alloc (.cells #[.int .u64 (r'.num.1 : Nat)] 40)).cell 1
           simp only [List.getElem?_cons_succ, List.getElem?_cons_zero] at m4 m4a
           have f4 := HM4.out.frozen 1
           clear hn hst4 hf4)
        | (refine step_append_lies _ (by rfl) _ _ _ (by rfl) (bm + 1) 40 i0 (.int .u64 0) 1 8 Try.underlying53 hi hz0 hz1 hz2 rfl (by omega) nv k (u64s pre) (by rfl) ?_ ⟨w4.heap.size, 0, none⟩ 1 1 [.int .u64 r'.num.1] (by rfl) (by rfl) ?_ ?_ (by omega) ?_ ?_ ?_ (w4.heap.size + 1) (by simp) ?_
           · exact HO4.out.alloc _
           · exact Cells.news (Cells.new w4 _ _)
           · exact one_int _ _
           · exact (HK.out hlt).1
           · exact (HK.out hlt).2
           · have := HM4.out.lt
             simp
             omega
           intro gg cp w5 hown5 hgrow hat hlt5
           have HF5 : Hid (Fr nv.ownBlock.toList w4 w5) := ((Fr.refl _ w4).calloc _).cgrown hgrow (by
             intro q e
             simp [e])
           have HO5 := Lib.hid hown5
           have HM5 := Lib.hid (HM4.out.fr HF5.out HOM.out)
           have m5 := HM5.out.cell 1
           simp only [List.getElem?_cons_succ, List.getElem?_cons_zero] at m5
           have f5 := HM5.out.frozen 1
           clear hown5 hgrow hat hlt5))
      all_goals
        refine NoPanic.normal ?_
        go_wp2_with fail
        go_roundw
        case rel =>
          have hF6 : Fr [bm] w5 (w5.setCell ⟨bm, 1, none⟩ (.slice (some ⟨gg, 0, none⟩) (k + 1) cp)) := (Fr.refl _ _).cset _ _ (.inl (by simp))
          refine ⟨k + 1, pre ++ [r'.num.1], r'.num.2, .slice (some ⟨gg, 0, none⟩) (k + 1) cp, hlt, by simp, HL1.out, ?_, ?_, ?_⟩
          · refine (HST4.out.step HF5.out ?_).step hF6 (by simp; omega)
            intro g hg
            have := HOG.out g (by simpa using hg)
            omega
          · exact (HM5.out.set 1 _).as (by simp)
          · have h5 := HO5.out
            rw [show u64s pre ++ [.int .u64 (r'.num.1 : Nat)] = u64s (pre ++ [r'.num.1]) from by simp [u64s]] at h5
            refine own_fr h5 hF6 ?_
            intro g hg hm'
            have := own_ge h5 hg
            simp at hm'
            omega
        case measure =>
          simp [intOf]
          omega
    · obtain rfl : k = N := by omega
      have HD := Lib.hid HL.out.done
      go_wp2_with fail
      refine (rd_number _ _ _ r' (by omega) HST.out.rd).mono ?_
      intro e w4 hn
      obtain ⟨rfl, h4, hf4⟩ := HST.out.num hn
      clear hn
      obtain ⟨n, ⟨l4, bad4⟩, HK4⟩ : ∃ n r1, Hid (r'.num = (n, r1)) := ⟨_, _, rfl⟩
      rw [HK4.out] at h4 ⊢
      obtain ⟨bv4, hc4, -, -⟩ := h4.rd
      have c4 := hc4.cell 1
      simp only [List.getElem?_cons_zero, List.getElem?_cons_succ] at c4
      have H4 := Lib.hid h4
      have HM4 := Lib.hid (HMr.out.fr hf4 (by simp; omega))
      have HO4 := Lib.hid (own_fr HO.out hf4 HOB.out)
      clear h4 hc4 hf4 m1 f1 hk hlt
      have HNk' : Hid (Rd.nums (numsOf k1).toNat ⟨l1, false⟩ = (pre, r')) := by
        have := HNk.out
        rw [← this]
        exact HD.out
      cases bad4
      rotate_left
      · have HN : Hid (mfrom l = none) := mfrom_two HK1.out HNk'.out HK4.out (.inl rfl)
        go_wp2_with (refine wpList_store_whole rfl 56 (.tmp 2) (.tmp 50) rfl w.heap.size [.int .i64 0, .slice none 0 0, .slice none 0 0, .slice none 0 0] rfl rfl _ _ H4.out.res (by kernel_rfl) rfl (by simp [Value.oneCell']) ?_; intro w5 hc5 hf5 _; have HC5 := Lib.hid hc5; have HF5 := Lib.hid hf5; clear hc5 hf5)
        exact postM_ret0 (from_results HC5.out rfl rfl) ⟨FromGot.none HN.out, H4.out.fr.step HF5.out (by simp)⟩
      by_cases h8 : 8 < n
      · have HN : Hid (mfrom l = none) := mfrom_two HK1.out HNk'.out HK4.out (.inr h8)
        have h8' : (8 : Int) < (n : Int) := by omega
        go_wp2_with (refine wpList_store_whole rfl 56 (.tmp 2) (.tmp 50) rfl w.heap.size [.int .i64 0, .slice none 0 0, .slice none 0 0, .slice none 0 0] rfl rfl _ _ H4.out.res (by kernel_rfl) rfl (by simp [Value.oneCell']) ?_; intro w5 hc5 hf5 _; have HC5 := Lib.hid hc5; have HF5 := Lib.hid hf5; clear hc5 hf5)
        exact postM_ret0 (from_results HC5.out rfl rfl) ⟨FromGot.none HN.out, H4.out.fr.step HF5.out (by simp)⟩
      have h8' : ¬ (8 : Int) < (n : Int) := by omega
      have h8a : (0 : Int) ≤ (n : Int) := by omega
      have h8b : (n : Int) ≤ 9223372036854775807 := by omega
      go_wp2_with fail
      refine (rd_addrs w4 _ _).mono ?_
      rintro e w5 ⟨rfl, hw5⟩
      have HF5 : Hid (Fr [] w4 w5) := by
        rw [hw5]
        exact ((Fr.refl [] w4).calloc _).calloc _
      have HBn : Hid (Cells w5 (w4.heap.size + 1) 3 [.int .i64 n]) := by
        rw [hw5]
        have := Cells.new (w4.alloc (.cells #[.pointer (some ⟨w.heap.size + 1, 0, none⟩)] 121)) 3 [.int .i64 n]
        rw [World.size_alloc] at this
        exact this
      have HBr : Hid (Cells w5 w4.heap.size 121 [.pointer (some ⟨w.heap.size + 1, 0, none⟩)]) := by
        rw [hw5]
        exact (Cells.new w4 _ _).alloc _
      have hs5 : w5.heap.size = w4.heap.size + 2 := by
        rw [hw5]
        simp
      clear hw5
      have H5 := Lib.hid (H4.out.step HF5.out (by simp))
      have HM5 := Lib.hid (HM4.out.fr HF5.out (by simp))
      have HO5 := Lib.hid (own_fr HO4.out HF5.out (by simp))
      have hb4 : bm < w4.heap.size := HM4.out.lt
      obtain ⟨as_, r5, HK5⟩ : ∃ as_ r5, Hid (Rd.addrs n ⟨l4, false⟩ = (as_, r5)) := ⟨_, _, rfl⟩
      have HNV : Hid (∀ g, nv.ownBlock = some g → bm + 1 ≤ g ∧ g < w4.heap.size) := fun g hg => ⟨own_ge HO4.out hg, own_lt HO4.out hg⟩
      have hgives := rd_gives w.heap.size (w.heap.size + 1) (w4.heap.size + 1) w4.heap.size n ⟨l4, false⟩ (by omega) (by omega) (by omega) (by omega) w5 ⟨H5.out.rd, HBn.out, HBr.out⟩
      rw [HK5.out] at hgives
      have HG := Lib.hid hgives
      clear hgives
      go_wp2_with fail
      refine wp_rangeFunc (gf := 99) (lb := #[.pointer (some ⟨w4.heap.size + 1, 0, none⟩), .pointer (some ⟨w4.heap.size, 0, none⟩)]) rfl (enters_of Try.func99 (by kernel_rfl) rfl) HG.out (fun _ => rfl) ?hT ?hOk
        (fun ads W => Cells W w.heap.size 56 [.int .i64 0, .slice none 0 0, .slice none 0 0, .slice none 0 0] ∧ Fr [] w W ∧ W.ownsRow (bm + 1) 40 1 nv k (u64s pre) ∧
          ∃ av, Cells W bm 56 [.int .i64 k1, nv, av, .slice none 0 0] ∧ AdsOwn W (w5.heap.size + 2) av ads)
        ?hI ?hZ ?h0 ?round ?done
      case hT =>
        intro g hg
        simp at hg
        omega
      case hOk =>
        intro g hg
        exact ⟨by omega, by omega, by omega, by omega⟩
      case hI =>
        rintro ads A B ⟨i1, i2, i3, av, i4, i5⟩ hf
        refine ⟨i1.fr hf (by simp; omega), i2.step hf (by simp; omega), own_fr i3 hf ?_, av, i4.fr hf (by simp; omega), own_fr i5 hf ?_⟩
        · intro g hg hm
          have := HNV.out g hg
          simp at hm
          omega
        · intro g hg hm
          have := own_ge i5 hg
          simp at hm
          omega
      case hZ =>
        intro ads A B hz hf
        exact hz.fr hf (by simp; omega) (by simp; omega)
      case h0 => exact ⟨H5.out.res, H5.out.fr, HO5.out, _, HM5.out, World.ownsRow_nil _ _ _ _⟩
      case round =>
        rintro l ads x W hsz ⟨i1, i2, i3, av, i4, i5⟩ hlen
        obtain ⟨aa, ca, hav⟩ := own_shape i5
        subst hav
        have I1 := Lib.hid i1
        have I2 := Lib.hid i2
        have I3 := Lib.hid i3
        have I4 := Lib.hid i4
        have I5 := Lib.hid i5
        have HLEN := Lib.hid hlen
        clear i1 i2 i3 i4 i5 hlen
        unfold adV
        gi_wp2
        obtain ⟨W1, hW1⟩ : ∃ W1, W.alloc (.cells #[.int .u32 (x.host : Nat), .int .i64 x.port] 114) = W1 := ⟨_, rfl⟩
        rw [hW1]
        have hf1 : Fr [] W W1 := by
          rw [← hW1]
          exact (Fr.refl [] W).calloc _
        have hx1 : Cells W1 W.heap.size 114 [.int .u32 (x.host : Nat), .int .i64 x.port] := by
          rw [← hW1]
          exact Cells.new _ _ _
        have hz1 : W1.heap.size = W.heap.size + 1 := by
          rw [← hW1]
          simp
        refine ⟨hf1, fun W2 hf2 => ?_⟩
        have hz2 : W1.heap.size ≤ W2.heap.size := hf2.size
        have hlb : bm < W.heap.size := I4.out.lt
        have HX2 : Hid (Cells W2 W.heap.size 114 [.int .u32 (x.host : Nat), .int .i64 x.port]) := hx1.fr hf2 (by simp; omega)
        have J1 := Lib.hid ((I1.out.fr hf1 (by simp)).fr hf2 (by simp; omega))
        have J2 : Hid (Fr [] w W2) := (I2.out.trans hf1).step hf2 (by simp; omega)
        have J3 : Hid (W2.ownsRow (bm + 1) 40 1 nv k (u64s pre)) := own_fr (own_fr I3.out hf1 (by simp)) hf2 (fun g hg hm => by have := HNV.out g hg; simp at hm; omega)
        have J4 := Lib.hid ((I4.out.fr hf1 (by simp)).fr hf2 (by simp; omega))
        have J5 : Hid (AdsOwn W2 (w5.heap.size + 2) (.slice aa ads.length ca) ads) := own_fr (own_fr I5.out hf1 (by simp)) hf2 (fun g hg hm => by have := own_ge I5.out hg; simp at hm; omega)
        have x0 := HX2.out.cell 0
        have x1 := HX2.out.cell 1
        have m2 := J4.out.cell 2
        have m2a := (J4.out.alloc (.cells #[.int .u32 (x.host : Nat), .int .i64 x.port] 114)).cell 2
        simp only [List.getElem?_cons_succ, List.getElem?_cons_zero] at x0 x1 m2 m2a
        clear hW1 hf1 hx1 hf2
        gi_wp2_with (gi_at_builtin; refine wpListIn_append_own _ rfl (.tmp 57) (.tmp 59) 54 rfl (w5.heap.size + 2) 114 i1 (.agg #[.int .u32 0, .int .i64 0]) 2 16 Try.underlying54 hj hy0 hy1 hy2 rfl (by decide) (.slice aa ads.length ca) ads.length (ads.flatMap fun a => [.int .u32 (a.host : Nat), .int .i64 a.port]) rfl ?s1 ⟨W2.heap.size, 0, none⟩ 1 1 [.int .u32 (x.host : Nat), .int .i64 x.port] rfl rfl ?s2 ?s3 ?s4 ?s5 ?s6 ?s7)
        case s1 => exact J5.out.alloc _
        case s2 => exact Cells.news (Cells.new W2 _ _)
        case s3 => simp [Value.oneCell']
        case s4 =>
          have := HLEN.out
          unfold maxLen
          omega
        case s5 =>
          have := HLEN.out
          omega
        case s6 =>
          simp
          omega
        intro v' W3 hown' hgrow hne
        obtain ⟨a3, c3, rfl⟩ := own_shape hown'
        have hf3 : Fr ((Value.slice aa ads.length ca).ownBlock.toList) W2 W3 := ((Fr.refl _ W2).calloc _).cgrown hgrow (by
          intro q e
          simp [e])
        have hag : ∀ g, g ∈ (Value.slice aa ads.length ca).ownBlock.toList → w4.heap.size + 4 ≤ g := by
          intro g hg
          have := own_ge J5.out (g := g) (by simpa using hg)
          omega
        have HF3 := Lib.hid hf3
        have HAG := Lib.hid hag
        have L1 := Lib.hid (J1.out.fr hf3 (fun hm => by have := hag _ hm; omega))
        have L2 : Hid (Fr [] w W3) := J2.out.step hf3 (fun g hm => by have := hag _ hm; have := J2.out.size; right; omega)
        have L3 : Hid (W3.ownsRow (bm + 1) 40 1 nv k (u64s pre)) := own_fr J3.out hf3 (fun g hg hm => by have := HNV.out g hg; have := hag _ hm; omega)
        have L4 := Lib.hid (J4.out.fr hf3 (fun hm => by have := hag _ hm; omega))
        have L5 : Hid (AdsOwn W3 (w4.heap.size + 2 + 2) (.slice a3 (ads.length + 1) c3) (ads ++ [x])) := by
          show World.ownsRow _ _ _ _ _ _ _
          rw [List.length_append]
          simpa using hown'
        have m3 := L4.out.cell 2
        simp only [List.getElem?_cons_succ, List.getElem?_cons_zero] at m3
        have f3 := L4.out.frozen 2
        clear hown' hgrow hne hf3 hag
        gi_wp2
        have hf4 : Fr [bm] W3 (W3.setCell ⟨bm, 2, none⟩ (.slice a3 (ads.length + 1) c3)) := (Fr.refl _ _).cset _ _ (.inl (by simp))
        refine ⟨(Kp.of HF3.out ?_).trans (Kp.of hf4 ?_), L1.out.fr hf4 (by simp; omega), L2.out.step hf4 (by simp; omega), own_fr L3.out hf4 ?_, _, (L4.out.set 2 _).as (by simp; rfl), ?_⟩
        · intro g hg
          have := HAG.out g hg
          exact ⟨⟨by omega, by omega, by omega, by omega⟩, by omega, by omega⟩
        · intro g hg
          simp at hg
          exact ⟨⟨by omega, by omega, by omega, by omega⟩, by omega, by omega⟩
        · intro g hg hm
          have := HNV.out g hg
          simp at hm
          omega
        · rw [hs5]
          refine own_fr L5.out hf4 ?_
          intro g hg hm
          have := own_ge L5.out hg
          simp at hm
          omega
      case done =>
        rintro xs W rfl ⟨i1, i2, i3, av, i4, i5⟩ hz hK
        have hDW : w5.heap.size < W.heap.size := (Array.getElem?_eq_some_iff.1 hK).1
        have I1 := Lib.hid i1
        have I2 := Lib.hid i2
        have I3 := Lib.hid i3
        have I4 := Lib.hid i4
        have I5 := Lib.hid i5
        have HZ := Lib.hid hz
        have HKD := Lib.hid hK
        clear i1 i2 i3 i4 i5 hz hK
        go_wp2_with fail
        refine (rd_body W w.heap.size (w.heap.size + 1) r5 (by omega) (by omega) HZ.out).mono ?_
        rintro e W6 ⟨vb, rfl, hbo, ⟨r6, hr6, hrd6⟩, hf6⟩
        have hz6 : W.heap.size ≤ W6.heap.size := hf6.size
        obtain ⟨ab, cb, rfl⟩ := own_shape hbo
        have HM6 := Lib.hid (I4.out.fr hf6 (by simp; omega))
        obtain ⟨W7, hW7⟩ : ∃ W7, W6.setCell ⟨bm, 3, none⟩ (.slice ab r5.body.1.length cb) = W7 := ⟨_, rfl⟩
        have hf7 : Fr [bm] W6 W7 := by
          rw [← hW7]
          exact (Fr.refl _ _).cset _ _ (.inl (by simp))
        have hz7 : W7.heap.size = W6.heap.size := by
          rw [← hW7]
          simp [World.setCell]
        have HM7 : Hid (Cells W7 bm 56 [.int .i64 k1, nv, av, .slice ab r5.body.1.length cb]) := by
          rw [← hW7]
          exact (HM6.out.set 3 _).as (by simp)
        have R7 := Lib.hid ((I1.out.fr hf6 (by simp)).fr hf7 (by simp; omega))
        have F7 : Hid (Fr [] w W7) := (I2.out.step hf6 (by simp)).step hf7 (by simp; omega)
        have HRD7 := Lib.hid (hrd6.fr hf7 (by simp; omega) (by simp; omega))
        have N7 : Hid (W7.ownsRow (bm + 1) 40 1 nv k (u64s pre)) := own_fr (own_fr I3.out hf6 (fun g hg hm => by have := HNV.out g hg; simp at hm; omega)) hf7 (fun g hg hm => by have := HNV.out g hg; simp at hm; omega)
        have A7 : Hid (AdsOwn W7 (w5.heap.size + 2) av xs) := own_fr (own_fr I5.out hf6 (fun g hg hm => by have := own_ge I5.out hg; simp at hm; omega)) hf7 (fun g hg hm => by have := own_ge I5.out hg; simp at hm; omega)
        have B7 : Hid (W7.ownsRow W.heap.size 5 1 (.slice ab r5.body.1.length cb) r5.body.1.length (u8s r5.body.1)) := own_fr hbo hf7 (fun g hg hm => by have := own_ge hbo hg; simp at hm; omega)
        have D7 : Hid (W7.heap[w5.heap.size]? = some (.deferred (some []))) := (hf7.block _ (by omega) (by simp; omega)).trans ((hf6.block _ (by omega) (by simp; omega)).trans HKD.out)
        have m3 := HM6.out.cell 3
        simp only [List.getElem?_cons_succ, List.getElem?_cons_zero] at m3
        have f3 := HM6.out.frozen 3
        obtain ⟨bv7, hc7, -, -⟩ := HRD7.out
        rw [hr6] at hc7
        have c7 := hc7.cell 1
        have q0 := HM7.out.cell 0
        have q1 := HM7.out.cell 1
        have q2 := HM7.out.cell 2
        have q3 := HM7.out.cell 3
        simp only [List.getElem?_cons_succ, List.getElem?_cons_zero] at c7 q0 q1 q2 q3
        clear hbo hr6 hrd6 hf6 hf7 hc7
        by_cases hbad : r5.body.2 = true
        · rw [hbad] at c7
          have HN : Hid (mfrom l = none) := mfrom_three HK1.out HNk'.out HK4.out HK5.out (.inl hbad)
          clear hbad
          go_wp2_with (refine wpList_store_whole rfl 56 (.tmp 2) (.tmp 74) rfl w.heap.size [.int .i64 0, .slice none 0 0, .slice none 0 0, .slice none 0 0] rfl rfl _ _ R7.out (by kernel_rfl) rfl (by simp [Value.oneCell']) ?_; intro W8 hc8 hf8 _; have HC8 := Lib.hid hc8; have HF8 := Lib.hid hf8; clear hc8 hf8)
          have hz8 : W7.heap.size ≤ W8.heap.size := HF8.out.size
          exact postM_ret1 ((HF8.out.block _ (by omega) (by simp; omega)).trans (by have := D7.out; rw [hs5] at this; exact this)) (from_results (HC8.out.fr (Fr.putObj _ _ _) (by simp; omega)) rfl rfl) ⟨FromGot.none HN.out, (F7.out.step HF8.out (by simp)).step (Fr.putObj _ _ _) (by simp; omega)⟩
        · have hbad' : r5.body.2 = false := by simpa using hbad
          rw [hbad'] at c7
          have HBF := Lib.hid hbad'
          clear hbad hbad'
          obtain ⟨an, cn, hnv⟩ := own_shape N7.out
          obtain ⟨aa, ca, hav⟩ := own_shape A7.out
          subst hnv hav
          have HMA : Hid (MsgAt W7 (.slice an k cn) (.slice aa xs.length ca) (.slice ab r5.body.1.length cb) ⟨k1, pre, xs, r5.body.1⟩) := by
            refine ⟨(sl_of_own N7.out).ex, ads_of_own A7.out, (sl_of_own B7.out).ex, ⟨?_, ?_⟩⟩
            · intro v hv
              have := Rd.nums_lt (numsOf k1).toNat ⟨l1, false⟩ v (by rw [HNk'.out]; exact hv)
              omega
            · intro a ha
              exact Rd.addrs_host n ⟨l4, false⟩ a (by rw [HK5.out]; exact ha)
          go_wp2_with fail
          refine (wr_may W7 ⟨k1, pre, xs, r5.body.1⟩ _ _ _ HMA.out).mono ?_
          rintro e W7b ⟨rfl, hf7b⟩
          have R7b := Lib.hid (R7.out.fr hf7b (by simp))
          have M7b := Lib.hid (HM7.out.fr hf7b (by simp))
          have F7b := Lib.hid (F7.out.trans hf7b)
          have D7b := Lib.hid ((hf7b.block _ (by omega) (by simp)).trans D7.out)
          have N7b := Lib.hid (own_fr N7.out hf7b (by simp))
          have A7b : Hid (AdsOwn W7b (w5.heap.size + 2) (.slice aa xs.length ca) xs) := own_fr A7.out hf7b (by simp)
          have B7b := Lib.hid (own_fr B7.out hf7b (by simp))
          have hz7b : W7.heap.size ≤ W7b.heap.size := hf7b.size
          have p0 := M7b.out.cell 0
          have p1 := M7b.out.cell 1
          have p2 := M7b.out.cell 2
          have p3 := M7b.out.cell 3
          simp only [List.getElem?_cons_succ, List.getElem?_cons_zero] at p0 p1 p2 p3
          clear hf7b
          by_cases hm : mmay ⟨k1, pre, xs, r5.body.1⟩
          · have HS := Lib.hid (mfrom_four HK1.out HNk'.out HK4.out HK5.out rfl (by omega) rfl (by omega) HBF.out hm)
            have hd := decide_eq_true hm
            rw [hd]
            clear hd hm
            go_wp2_with (refine wpList_store_whole rfl 56 (.tmp 2) (.tmp 75) rfl w.heap.size [.int .i64 k1, .slice an k cn, .slice aa xs.length ca, .slice ab r5.body.1.length cb] rfl rfl _ _ R7b.out (by kernel_rfl) rfl (by simp [Value.oneCell']) ?_; intro W8 hc8 hf8 _; have HC8 := Lib.hid hc8; have HF8 := Lib.hid hf8; clear hc8 hf8)
            have hz8 : W7b.heap.size ≤ W8.heap.size := HF8.out.size
            refine postM_ret1 ((HF8.out.block _ (by omega) (by simp; omega)).trans (by have := D7b.out; rw [hs5] at this; exact this)) (from_results (HC8.out.fr (Fr.putObj _ _ _) (by simp; omega)) rfl rfl) ⟨?_, (F7b.out.step HF8.out (by simp)).step (Fr.putObj _ _ _) (by simp; omega)⟩
            unfold FromGot
            rw [HS.out]
            have hlen : pre.length = k := HL.out.2
            have ho : ∀ {base : Nat} {ty : TypeId} {size : Nat} {v : Value} {m : Nat} {ys : List Value}, W7b.ownsRow base ty size v m ys → w.heap.size < base → (∀ g, v.ownBlock = some g → g ≠ w4.heap.size + 2) → (W8.putObj (w4.heap.size + 2) (.deferred none)).ownsRow w.heap.size ty size v m ys := by
              intro base ty size v m ys h hb hg
              refine own_base (own_fr (own_fr h HF8.out ?_) (Fr.putObj _ _ _) ?_) (Nat.le_of_lt hb)
              · intro g hgo hmem
                have := own_ge h hgo
                simp at hmem
                omega
              · intro g hgo hmem
                have := hg g hgo
                simp at hmem
                omega
            refine ⟨_, _, _, rfl, ?_, ?_, ?_⟩
            · have := ho N7b.out (by omega) (fun g hg => by have := (HNV.out g hg).2; omega)
              rw [hlen]
              exact this
            · exact ho A7b.out (by omega) (fun g hg => by have := own_ge A7b.out hg; omega)
            · exact ho B7b.out (by omega) (fun g hg => by have := own_ge B7b.out hg; omega)
          · have HN : Hid (mfrom l = none) := mfrom_three HK1.out HNk'.out HK4.out HK5.out (.inr hm)
            have hd := decide_eq_false hm
            rw [hd]
            clear hd hm
            go_wp2_with (refine wpList_store_whole rfl 56 (.tmp 2) (.tmp 74) rfl w.heap.size [.int .i64 0, .slice none 0 0, .slice none 0 0, .slice none 0 0] rfl rfl _ _ R7b.out (by kernel_rfl) rfl (by simp [Value.oneCell']) ?_; intro W8 hc8 hf8 _; have HC8 := Lib.hid hc8; have HF8 := Lib.hid hf8; clear hc8 hf8)
            have hz8 : W7b.heap.size ≤ W8.heap.size := HF8.out.size
            exact postM_ret1 ((HF8.out.block _ (by omega) (by simp; omega)).trans (by have := D7b.out; rw [hs5] at this; exact this)) (from_results (HC8.out.fr (Fr.putObj _ _ _) (by simp; omega)) rfl rfl) ⟨FromGot.none HN.out, (F7b.out.step HF8.out (by simp)).step (Fr.putObj _ _ _) (by simp; omega)⟩

set_option maxRecDepth 100000 in
set_option maxHeartbeats 1600000 in
theorem wr_from_no (w : World) (ad : Addr) :
    Calls Try.prog 27 #[.slice (some ad) 0 0] w fun e w' => FromGot w w' [] e ∧ Fr [] w w' := by
  refine (callsIn_wide (n := 1)).1 (callsIn_of_wp_marks Try.func27 rfl trivial (wpIn_wide.2 ?_) rfl)
  simp only [Try.ntmps27, List.size_toArray, List.length_cons, List.length_nil, Nat.reduceAdd, Nat.reduceSub, Array.replicate_succ, Array.replicate_zero, List.push_toArray, List.append_toArray, List.nil_append, List.cons_append]
  go_wp2_with fail
  have hc0 : Cells ((w.alloc (.cells #[.int .i64 0, .slice none 0 0, .slice none 0 0, .slice none 0 0] 56)).alloc (.cells #[.slice (some ad) 0 0, .bool false] 123)) (w.heap.size + 1) 123 [.slice (some ad) 0 0, .bool false] := by
    have h := Cells.new (w.alloc (.cells #[.int .i64 0, .slice none 0 0, .slice none 0 0, .slice none 0 0] 56)) 123 [.slice (some ad) 0 0, .bool false]
    rw [World.size_alloc] at h
    exact h
  have hr0 : Cells ((w.alloc (.cells #[.int .i64 0, .slice none 0 0, .slice none 0 0, .slice none 0 0] 56)).alloc (.cells #[.slice (some ad) 0 0, .bool false] 123)) w.heap.size 56 [.int .i64 0, .slice none 0 0, .slice none 0 0, .slice none 0 0] := (Cells.new w 56 [.int .i64 0, .slice none 0 0, .slice none 0 0, .slice none 0 0]).alloc _
  have hf0 : Fr [] w ((w.alloc (.cells #[.int .i64 0, .slice none 0 0, .slice none 0 0, .slice none 0 0] 56)).alloc (.cells #[.slice (some ad) 0 0, .bool false] 123)) := ((Fr.refl [] w).calloc _).calloc _
  have HR0 := Lib.hid hr0
  have HF0 := Lib.hid hf0
  refine (rd_number_no _ (w.heap.size + 1) false ad hc0).mono ?_
  rintro e w1 ⟨rfl, hc1, hf1⟩
  have HR1 := Lib.hid (HR0.out.fr hf1 (by simp))
  have HF1 : Hid (Fr [] w w1) := HF0.out.step hf1 (by simp)
  have c1 := hc1.cell 1
  simp only [List.getElem?_cons_zero, List.getElem?_cons_succ] at c1
  clear hc0 hr0 hf0 hc1 hf1
  have HN : Hid (mfrom [] = none) := mfrom_nil
  go_wp2_with (refine wpList_store_whole rfl 56 (.tmp 2) (.tmp 22) rfl w.heap.size [.int .i64 0, .slice none 0 0, .slice none 0 0, .slice none 0 0] rfl rfl _ _ HR1.out (by kernel_rfl) rfl (by simp [Value.oneCell']) ?_; intro w2 hc2 hf2 _; have HC2 := Lib.hid hc2; have HF2 := Lib.hid hf2; clear hc2 hf2)
  exact postM_ret0 (from_results HC2.out rfl rfl) ⟨FromGot.none HN.out, HF1.out.step HF2.out (by simp)⟩

theorem wr_from_ex (w : World) (bv : Value) (l : List UInt8) (hb : SlEx w bv (u8s l)) :
    Calls Try.prog 27 #[bv] w fun e w' => FromGot w w' l e ∧ Fr [] w w' := by
  rcases hb with hb | ⟨ad, rfl, hx⟩
  · exact wr_from w bv l hb
  · have : l = [] := by simpa [u8s] using hx
    subst this
    exact wr_from_no w ad
end Go.Proofs.Ytjfmgpelkhgodaa
