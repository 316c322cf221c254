/- The walks of package notary: New, Count, Mint, Check. -/
import Derived.BigRegion
import Derived.Test.YtjfmgpelkhgodaaNotA
namespace Go.Proofs.Ytjfmgpelkhgodaa
open Go.RowKit
attribute [local go_sem ↓ high] run_min_whole run_max_whole

theorem Try.info_en : (Try.prog.info? 119).map (fun i => (i.zero, i.size, i.bytes)) = some (some (.agg #[.int .i64 0, .string .empty]), 2, 24) := by kernel_rfl

theorem own_type {w : World} {base : Nat} {e : TypeId} {size : Nat} {v : Value} {n : Nat} {xs : List Value} (h : w.ownsRow base e size v n xs) {g : Nat} (hg : v.ownBlock = some g) : ∃ cur, w.heap[g]? = some (.cells cur e (0, 0)) := by
  rcases h.2 with h2 | ⟨g', cap, cur, rfl, _, hb, _⟩
  · rw [h2.1] at hg
    simp [Value.ownBlock] at hg
  · simp [Value.ownBlock] at hg
    subst hg
    exact ⟨cur, hb⟩
theorem NotIn.nm {w : World} {b mb : Nat} {lv : Value} {L : List En} (h : NotIn w b mb lv L) : lv.ownBlock ≠ some mb := by
  intro hm
  obtain ⟨cur, hc⟩ := own_type h.list hm
  rw [h.map] at hc
  cases hc
theorem NotIn.bm {w : World} {b mb : Nat} {lv : Value} {L : List En} (h : NotIn w b mb lv L) : b ≠ mb := by
  rintro rfl
  have := h.cells
  unfold Cells at this
  rw [h.map] at this
  cases this
theorem NotIn.fr {S : List Nat} {w w' : World} {b mb : Nat} {lv : Value} {L : List En} (h : NotIn w b mb lv L) (hf : Fr S w w') (hS : ∀ g, g ∈ S → g ∉ NBlocks b mb lv) : NotIn w' b mb lv L :=
  ⟨h.cells.fr hf (fun hm => hS _ hm (by simp [NBlocks])), (hf.block mb (Array.getElem?_eq_some_iff.1 h.map).1 (fun hm => hS _ hm (by simp [NBlocks]))).trans h.map,
    own_fr h.list hf (fun g hg hm => hS _ hm (by simp [NBlocks, hg])), h.nb, h.nodup, h.wf⟩

set_option maxRecDepth 100000 in
set_option maxHeartbeats 1600000 in
theorem not_new (w : World) : Calls Try.prog 22 #[] w fun e w' => e = .returned (.pointer (some ⟨w.heap.size + 1, 0, none⟩)) ∧ NotIn w' (w.heap.size + 1) w.heap.size (.slice none 0 0) [] ∧ Fr [] w w' := by
  go_enter Try.func22, Try.ntmps22
  have hmm := @run_makeMap Try.prog
  go_wp2
  go_ret
  have hF : Fr [] w ((w.alloc (.map #[] 0)).alloc (.cells #[.map (some w.heap.size), .slice none 0 0] 108)) := ((Fr.refl [] w).calloc _).calloc _
  refine ⟨by simp, ⟨?_, ?_, World.ownsRow_nil _ _ _ _, by simp [Value.ownBlock], List.nodup_nil, by simp⟩, hF⟩
  · have := Cells.new (w.alloc (.map #[] 0)) 108 [.map (some w.heap.size), .slice none 0 0]
    rw [World.size_alloc] at this
    exact this
  · exact (Below.heap_alloc _ _ _ (by simp)).trans (World.alloc_heap_new w _)

theorem run_conv {w : World} {v : Value} {l : List UInt8} (h : SlEx w v (u8s l)) : (convert 52 9 v).run Try.prog w = .ok (bstr l) w := by
  have hr := run_str h
  obtain ⟨ao, cap, hv⟩ := h.shape
  subst hv
  clear h
  unfold convert
  simp only [Sem.run_bind, run_underlying Try.underlying52, run_underlying Try.underlying9, run_underlying Try.underlying5, Result.andThen_ok, hr]
set_option maxRecDepth 100000 in
set_option maxHeartbeats 1600000 in
theorem not_count (w : World) (b mb : Nat) (lv : Value) (L : List En) (h : NotIn w b mb lv L) : Calls Try.prog 30 #[.pointer (some ⟨b, 0, none⟩)] w fun e w' => e = .returned (.int .i64 L.length) ∧ Fr [] w w' := by
  have c1 := h.cells.cell 1
  simp only [List.getElem?_cons_zero, List.getElem?_cons_succ] at c1
  obtain ⟨ao, cap, rfl⟩ := own_shape h.list
  clear h
  go_enter Try.func30, Try.ntmps30
  go_wp2
  go_ret
  exact ⟨rfl, Fr.refl _ _⟩

def mint (L : List En) (p : Int) (t : List UInt8) : List En × Nat × Int :=
  if p < 1 ∨ 2147483647 < p then (L, 0, 1) else if (p, t) ∈ L then (L, L.idxOf (p, t) + 1, 0) else (L ++ [(p, t)], L.length + 1, 0)
/-- What Mint leaves behind. -/
def Minted (w w' : World) (b mb : Nat) (lv : Value) (L : List En) (p : Int) (t : List UInt8) (e : Ending) : Prop :=
  e = .returned (.tuple #[.int .u64 (mint L p t).2.1, .int .i64 (mint L p t).2.2]) ∧ Fr (NBlocks b mb lv) w w' ∧ ∃ lv', NotIn w' b mb lv' (mint L p t).1 ∧ (∀ g, lv'.ownBlock = some g → lv.ownBlock = some g ∨ w.heap.size ≤ g)

set_option maxRecDepth 100000 in
set_option maxHeartbeats 4000000 in
theorem not_mint (w : World) (b mb : Nat) (lv : Value) (L : List En) (p : Int) (tv : Value) (t : List UInt8) (hN : NotIn w b mb lv L) (ht : SlEx w tv (u8s t)) (hp : (Lit.int .i64 p).wf = true) (htl : t.length ≤ 100000) (hlen : L.length ≤ 100000) :
    Calls Try.prog 26 #[.pointer (some ⟨b, 0, none⟩), .int .i64 p, tv] w fun e w' => Minted w w' b mb lv L p t e := by
  have HN := Lib.hid hN
  have HT := Lib.hid ht
  by_cases hbad : p < 1 ∨ 2147483647 < p
  · have HM : Hid (mint L p t = (L, 0, 1)) := by
      show _ = _
      unfold mint
      rw [if_pos hbad]
    have key : Minted w w b mb lv L p t (.returned (.tuple #[.int .u64 0, .int .i64 1])) := by
      unfold Minted
      rw [HM.out]
      exact ⟨rfl, Fr.refl _ _, lv, hN, fun g hg => .inl hg⟩
    have KEY := Lib.hid key
    clear key hN ht hp
    by_cases h1 : p < 1
    · clear hbad
      go_enter Try.func26, Try.ntmps26
      go_wp2
      go_ret2
      exact KEY.out
    · have h2 : 2147483647 < p := by omega
      clear hbad
      go_enter Try.func26, Try.ntmps26
      go_wp2
      go_ret2
      exact KEY.out
  · have h1 : ¬ p < 1 := by omega
    have h2 : ¬ 2147483647 < p := by omega
    have HB := Lib.hid hbad
    clear hbad
    have HE : Hid (En.Wf (p, t)) := ⟨hp, by unfold maxLen; show t.length ≤ _; omega⟩
    have hstr := run_conv ht
    unfold bstr at hstr
    clear hp ht
    go_enter Try.func26, Try.ntmps26
    go_wp2_with fail
    obtain ⟨w1, hw1⟩ : ∃ w1, w.alloc (.cells #[.int .i64 p, .string ⟨t.toArray⟩] 119) = w1 := ⟨_, rfl⟩
    rw [hw1]
    have HF1 : Hid (Fr [] w w1) := by
      rw [← hw1]
      exact (Fr.refl [] w).calloc _
    have HE1 : Hid (Cells w1 w.heap.size 119 [.int .i64 p, .string ⟨t.toArray⟩]) := by
      rw [← hw1]
      exact Cells.new _ _ _
    have hz1 : w1.heap.size = w.heap.size + 1 := by
      rw [← hw1]
      simp
    have HN1 := Lib.hid (HN.out.fr HF1.out (by simp))
    clear hw1 hN hstr
    have c0 := HN1.out.cells.cell 0
    have c1 := HN1.out.cells.cell 1
    have f1 := HN1.out.cells.frozen 1
    have e0 := HE1.out.cell 0
    have e1 := HE1.out.cell 1
    simp only [List.getElem?_cons_zero, List.getElem?_cons_succ] at c0 c1 e0 e1
    have hlk := run_nlook (w := w1.drew) HN1.out.map HN1.out.nodup HN1.out.wf (p, t) HE.out
    simp only [enV, bstr, nlook] at hlk
    by_cases hmem : (p, t) ∈ L
    · rw [if_pos hmem] at hlk
      have HM : Hid (mint L p t = (L, L.idxOf (p, t) + 1, 0)) := by
        show _ = _
        unfold mint
        rw [if_neg HB.out, if_pos hmem]
      clear hmem
      go_region
      go_wp2
      go_ret2
      unfold Minted
      rw [HM.out]
      exact ⟨rfl, (HF1.out.cdrew).mono (by simp), lv, HN1.out.fr (Fr.drew w1 []) (by simp), fun g hg => .inl hg⟩
    · rw [if_neg hmem] at hlk
      have HM : Hid (mint L p t = (L ++ [(p, t)], L.length + 1, 0)) := by
        show _ = _
        unfold mint
        rw [if_neg HB.out, if_neg hmem]
      have HMEM := Lib.hid hmem
      clear hmem
      go_region
      clear hlk
      go_wp2_with fail
      obtain ⟨i0, hi, hy0, hy1, hy2⟩ := info_parts Try.info_en
      obtain ⟨w2, hw2⟩ : ∃ w2, w1.drew = w2 := ⟨_, rfl⟩
      rw [hw2]
      have hf2 : Fr [] w1 w2 := by
        rw [← hw2]
        exact Fr.drew w1 []
      have hz2 : Hid (w2.heap.size = w.heap.size + 1) := by
        rw [← hw2]
        exact hz1
      have HF2 := Lib.hid (HF1.out.trans hf2)
      have HN2 := Lib.hid (HN1.out.fr hf2 (by simp))
      have HE2 := Lib.hid (HE1.out.fr hf2 (by simp))
      clear hw2 hf2 c0 c1 f1 e0 e1 hz1
      have c0 := HN2.out.cells.cell 0
      have c1 := HN2.out.cells.cell 1
      have c1a := (HN2.out.cells.alloc (.cells #[.int .i64 p, .string ⟨t.toArray⟩] 119)).cell 1
      have f1 := HN2.out.cells.frozen 1
      have e0 := HE2.out.cell 0
      have e1 := HE2.out.cell 1
      simp only [List.getElem?_cons_zero, List.getElem?_cons_succ] at c0 c1 c1a e0 e1
      have HLB : Hid (∀ g, lv.ownBlock = some g → g < w.heap.size) := fun g hg => own_lt HN.out.list hg
      have hbw : b < w.heap.size := HN.out.cells.lt
      have HBD : Hid (L.length + 1 ≤ maxLen ∧ (L.length + 1) * 24 ≤ 140737488355328) := by
        show _ ∧ _
        unfold maxLen
        omega
      go_region_law (first
        | (refine step_append_lies _ (by rfl) _ _ _ (by rfl) 1 119 i0 (.agg #[.int .i64 0, .string ByteArray.empty]) 2 24 Try.underlying106 hi hy0 hy1 hy2 rfl (by omega) lv L.length (L.flatMap fun e => [.int .i64 e.1, bstr e.2]) (by rfl) ?_ ⟨w2.heap.size, 0, none⟩ 1 1 [.int .i64 p, .string ⟨t.toArray⟩] (by rfl) (by rfl) ?_ ?_ (by omega) ?_ ?_ ?_ (w2.heap.size + 1) (by simp) ?_
           · exact (HN2.out.list.alloc _).drew
           · exact Cells.news (w := (w2.alloc _).drew) (Cells.new w2 _ _)
           · simp [Value.oneCell']
           · exact HBD.out.1
           · exact HBD.out.2
           · simp
           intro gg cp w5 hown5 hgrow hat hlt5
           have HO5 := Lib.hid hown5
           have HG5 := Lib.hid hgrow
           have HA5 := Lib.hid hat
           have HC5 : Hid (Cells w5 b 108 [.map (some mb), lv]) := (hgrow.block b (by have := HN2.out.cells.lt; simp; omega) (Ne.symm HN2.out.nb)).trans (HN2.out.cells.alloc _)
           have m5 := HC5.out.cell 1
           simp only [List.getElem?_cons_zero, List.getElem?_cons_succ] at m5
           have f5 := HC5.out.frozen 1
           clear hown5 hgrow hat))
      all_goals
        obtain ⟨w6, hw6⟩ : ∃ w6, w5.setCell ⟨b, 1, none⟩ (.slice (some ⟨gg, 0, none⟩) (L.length + 1) cp) = w6 := ⟨_, rfl⟩
        have hnm : lv.ownBlock ≠ some mb := HN2.out.nm
        have hbm : b ≠ mb := HN2.out.bm
        have hgb : gg ≠ b := by
          rintro rfl
          obtain ⟨cur, hc⟩ := own_type HO5.out rfl
          have := HC5.out
          unfold Cells at this
          rw [this] at hc
          cases hc
        have hz5 : w2.heap.size ≤ w5.heap.size := by
          have := HG5.out.size
          simp at this
          omega
        have hf5 : Fr lv.ownBlock.toList w2 w5 := (((Fr.refl _ w2).calloc _).cdrew).cgrown HG5.out (by
          intro q e
          simp [e])
        have hf6 : Fr [b] w5 w6 := by
          rw [← hw6]
          exact (Fr.refl _ _).cset _ _ (.inl (by simp))
        have HZ2 := hz2.out
        have HC6 : Hid (Cells w6 b 108 [.map (some mb), .slice (some ⟨gg, 0, none⟩) (L.length + 1) cp]) := by
          rw [← hw6]
          exact (HC5.out.set 1 _).as (by simp)
        have HM6 : Hid (w6.heap[mb]? = some (.map (enEntries L).toArray L.length)) :=
          (hf6.block mb (Nat.lt_of_lt_of_le (Array.getElem?_eq_some_iff.1 HN2.out.map).1 hz5) (by simpa using Ne.symm hbm)).trans ((hf5.block mb (Array.getElem?_eq_some_iff.1 HN2.out.map).1 (by simpa using hnm)).trans HN2.out.map)
        have HO6 : Hid (w6.ownsRow 1 119 2 (.slice (some ⟨gg, 0, none⟩) (L.length + 1) cp) (L.length + 1) ((L ++ [(p, t)]).flatMap fun e => [.int .i64 e.1, bstr e.2])) := by
          have h := HO5.out
          refine own_as (own_fr h hf6 ?_) (by simp [bstr])
          intro g hg hm
          simp [Value.ownBlock] at hg
          simp at hm
          omega
        have HE6 : Hid (Cells w6 w.heap.size 119 [.int .i64 p, .string ⟨t.toArray⟩]) := (HE2.out.fr hf5 (by
          intro hm
          have := HLB.out w.heap.size (by simpa using hm)
          omega)).fr hf6 (by simp; omega)
        have HF6 : Hid (Fr (NBlocks b mb lv) w w6) := ((HF2.out.mono (by simp)).step hf5 (by
          intro q hq
          left
          simp at hq
          simp [NBlocks, hq])).step hf6 (by simp [NBlocks])
        have q0 := HC6.out.cell 0
        have q1 := HC6.out.cell 1
        have u0 := HE6.out.cell 0
        have u1 := HE6.out.cell 1
        simp only [List.getElem?_cons_zero, List.getElem?_cons_succ] at q0 q1 u0 u1
        have hput := run_nput (w := w6.drew) HM6.out HN2.out.wf (p, t) HE.out HMEM.out
        simp only [enV, bstr] at hput
        rw [show ((L.length + 1 : Nat) : Int) = (L.length : Int) + 1 from by omega] at hput
        have b1 : (0 : Int) ≤ (L.length : Int) + 1 := by omega
        have b2 : (L.length : Int) + 1 ≤ 18446744073709551615 := by omega
        clear hnm hbm hgb hz5 hf5 hf6 HZ2 c0 c1 c1a f1 e0 e1 m5 f5
        go_wp2_with fail
        go_region
        go_wp2_with fail
        go_ret2
        unfold Minted
        rw [HM.out]
        have hf7 : Fr [mb] w6.drew (w6.drew.putObj mb (.map (enEntries (L ++ [(p, t)])).toArray (L.length + 1))) := Fr.putObj _ _ _
        have hbm := HN2.out.bm
        have hgm : gg ≠ mb := by
          rintro rfl
          obtain ⟨cur, hc⟩ := own_type HO6.out rfl
          rw [HM6.out] at hc
          cases hc
        have hgb : gg ≠ b := by
          rintro rfl
          obtain ⟨cur, hc⟩ := own_type HO6.out rfl
          have := HC6.out
          unfold Cells at this
          rw [this] at hc
          cases hc
        refine ⟨by simp, (HF6.out.cdrew).step hf7 (by simp [NBlocks]), .slice (some ⟨gg, 0, none⟩) (L.length + 1) cp, ⟨?_, ?_, ?_, ?_, ?_, ?_⟩, ?_⟩
        · exact (HC6.out.drew).fr hf7 (by simpa using hbm)
        · rw [List.length_append]
          exact World.putObj_heap_same (Array.getElem?_eq_some_iff.1 HM6.out).1
        · rw [List.length_append]
          exact own_fr (S := [mb]) HO6.out.drew hf7 (by simpa [Value.ownBlock] using hgm)
        · simpa [Value.ownBlock] using hgb
        · rw [List.nodup_append]
          refine ⟨HN2.out.nodup, by simp, ?_⟩
          intro a ha c hc
          simp at hc
          subst hc
          rintro rfl
          exact HMEM.out ha
        · intro e he
          rcases List.mem_append.1 he with he | he
          · exact HN2.out.wf e he
          · simp at he
            subst he
            exact HE.out
        · intro g hg
          simp [Value.ownBlock] at hg
          subst hg
          rcases HA5.out with h | h
          · exact .inl h
          · right
            have := hz2.out
            omega
end Go.Proofs.Ytjfmgpelkhgodaa
