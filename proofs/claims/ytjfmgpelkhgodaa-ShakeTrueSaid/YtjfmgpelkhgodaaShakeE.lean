/- The walks of shake.New, Call. -/
import Derived.Test.YtjfmgpelkhgodaaShakeD
namespace Go.Proofs.Ytjfmgpelkhgodaa
open Go.RowKit
attribute [local go_sem ↓ high] run_min_whole run_max_whole

theorem step_call2 {P : Program} {ops : Array Oper} {o : Oper} {a : Act} {w : World} {K : Act → World → Prop} {Q : Exit → Act → World → Prop} {E : Prop} (hgd : o.guard = none) (f : FuncId) (x y : Tmp) (t u : TypeId)
    (ho : o.op = .call { callee := .value (.func f), args := #[.tmp x, .tmp y], argTypes := #[t, u] }) (he : ∀ args w, (callFunc f args).run P w = .ok (.enter f args) w) (v v' : Value) (hx : a.tmps[x]?.getD undef = v) (hy : a.tmps[y]?.getD undef = v')
    {R : Ending → World → Prop} (hc : Calls P f #[v, v'] w R) (h : ∀ e w', R e w' → ∃ u, e = .returned u ∧ K (a.put o.dst u) w') :
    if Region.wanted o (yielded ops a.tmps) = true then Oper.wp P o a w K Q else E := by
  have hw : Region.wanted o (yielded ops a.tmps) = true := by simp [Region.wanted, hgd]
  rw [if_pos hw]
  obtain ⟨dst, op, type, pos, after, guard⟩ := o
  simp only at ho hgd h
  subst ho hgd
  unfold Oper.wp
  simp [go_sem, hx, hy, he]
  refine hc.mono ?_
  intro e w' hR
  obtain ⟨u, rfl, hK⟩ := h e w' hR
  exact hK

theorem NotIn.blt {w : World} {b mb : Nat} {lv : Value} {L : List En} (h : NotIn w b mb lv L) : ∀ q, q ∈ NBlocks b mb lv → q < w.heap.size := fun q hq => by
  simp [NBlocks] at hq
  rcases hq with rfl | rfl | hq
  · exact h.cells.lt
  · exact (Array.getElem?_eq_some_iff.1 h.map).1
  · exact own_lt h.list hq

theorem SentAt.finish {w w1 w2 w3 : World} {b mb : Nat} {lv : Value} {L' : List En} {bs : List UInt8} {v : Value} {r : Nat} (h : SentAt w1 w2 b mb lv L' bs v) (hf : Fr [] w w1) (hf3 : Fr [r] w2 w3) (hr : w.heap.size ≤ r) (hr2 : r < w1.heap.size) (hN : ∀ q, q ∈ NBlocks b mb lv → q < w.heap.size) :
    SentAt w w3 b mb lv L' bs v := by
  obtain ⟨h1, h2, h3, lv', h4, h5⟩ := h
  refine ⟨own_base (own_fr h1 hf3 (fun g hg hm => by have := own_ge h1 hg; simp at hm; omega)) hf.size, h2, (((hf.mono (by simp)).trans h3).step hf3 (by simp; omega)), lv', h4.fr hf3 ?_, fun g hg => ?_⟩
  · intro g hg hm
    simp at hg
    subst hg
    simp [NBlocks] at hm
    rcases hm with hm | hm | hm
    · have := hN g (by simp [NBlocks, hm])
      omega
    · have := hN g (by simp [NBlocks, hm])
      omega
    · rcases h5 g hm with h | h
      · have := hN g (by simp [NBlocks, h])
        omega
      · omega
  · rcases h5 g hg with h | h
    · exact .inl h
    · exact .inr (Nat.le_trans hf.size h)

def skMay (own other : Int) (nonce : Nat) : Bool := mayPeer own && mayPeer other && decide (own ≠ other) && decide (1 ≤ nonce) && decide (nonce ≤ 9223372036854775807)

/-- What is called, and what is sent. -/
def called (L : List En) (s : Sk) : Sk × (List En × List UInt8) :=
  if s.state = 0 then ({ s with state := 1 }, made L 1 s.own [] [s.other, s.nonce]) else (s, (L, []))
def SkSent (w w' : World) (b mb : Nat) (lv : Value) (s : Sk) (r : List En × List UInt8) (e : Ending) : Prop := ∃ v, e = .returned (.tuple #[skV s, v]) ∧ SentAt w w' b mb lv r.1 r.2 v

set_option maxRecDepth 100000 in
set_option maxHeartbeats 1600000 in
theorem sk_call (w : World) (b mb : Nat) (lv : Value) (L : List En) (s : Sk) (hs : s.Wf) (hN : NotIn w b mb lv L) (hlen : L.length ≤ 100000) :
    Calls Try.prog 23 #[skV s, .pointer (some ⟨b, 0, none⟩)] w fun e w' => SkSent w w' b mb lv (called L s).1 (called L s).2 e := by
  have HN := Lib.hid hN
  have HS := Lib.hid hs
  clear hN hs
  by_cases h1 : s.state = 0
  · have HA : Hid (called L s = ({ s with state := 1 }, made L 1 s.own [] [s.other, s.nonce])) := by
      show _ = _
      unfold called
      rw [if_pos h1]
    rw [HA.out]
    unfold skV
    rw [h1]
    clear h1
    go_enter Try.func23, Try.ntmps23
    go_wp2_with fail
    obtain ⟨w1, hw1⟩ : ∃ w1, (w.alloc (.cells #[.int .i64 1, .int .i64 s.own, .int .i64 s.other, .int .u64 s.nonce, .int .u64 s.echo] 46)).alloc (.cells #[.int .i64 0, .int .i64 0, .int .i64 0, .int .u64 0, .int .u64 0] 46) = w1 := ⟨_, rfl⟩
    rw [hw1]
    have hf1 : Fr [] w w1 := by
      rw [← hw1]
      exact ((Fr.refl [] w).calloc _).calloc _
    have hA1 : Cells w1 w.heap.size 46 [.int .i64 1, .int .i64 s.own, .int .i64 s.other, .int .u64 s.nonce, .int .u64 s.echo] := by
      rw [← hw1]
      exact (Cells.new w _ _).alloc _
    have hB1 : Cells w1 (w.heap.size + 1) 46 [.int .i64 0, .int .i64 0, .int .i64 0, .int .u64 0, .int .u64 0] := by
      rw [← hw1]
      have := Cells.new (w.alloc (.cells #[.int .i64 1, .int .i64 s.own, .int .i64 s.other, .int .u64 s.nonce, .int .u64 s.echo] 46)) 46 [.int .i64 0, .int .i64 0, .int .i64 0, .int .u64 0, .int .u64 0]
      rw [World.size_alloc] at this
      exact this
    have HF1 := Lib.hid hf1
    have HA1 := Lib.hid hA1
    have HB1 := Lib.hid hB1
    have HNL : Hid (∀ q, q ∈ NBlocks b mb lv → q < w.heap.size) := NotIn.blt HN.out
    have a0 := hA1.cell 0
    have a1 := hA1.cell 1
    have a2 := hA1.cell 2
    have a3 := hA1.cell 3
    have a4 := hA1.cell 4
    simp only [List.getElem?_cons_zero, List.getElem?_cons_succ] at a0 a1 a2 a3 a4
    clear hw1 hf1 hA1 hB1
    have EG : Hid (∀ args w, (callFunc 51 args).run Try.prog w = .ok (.enter 51 args) w) := enters_of Try.func51 (by kernel_rfl) rfl
    go_region_law (first
      | (refine step_call2 rfl 51 12 13 46 49 rfl ?_ (skV ⟨1, s.own, s.other, s.nonce, s.echo⟩) (.pointer (some ⟨b, 0, none⟩)) (by rfl) (by rfl) (sk_hello w1.drew b mb lv L ⟨1, s.own, s.other, s.nonce, s.echo⟩ ?_ ?_ hlen) ?_
         · exact EG.out
         · exact ⟨HS.out.own, HS.out.other, HS.out.nonce, HS.out.echo⟩
         · exact HN.out.fr (HF1.out.cdrew) (by simp)
         rintro e w2 ⟨v2, rfl, hs2⟩
         refine ⟨v2, rfl, ?_⟩
         have HS2 := Lib.hid hs2
         have hf2 := hs2.2.2.1
         have HA2 := Lib.hid (HA1.out.drew.fr hf2 (fun hm => by have := HNL.out _ hm; omega))
         have HB2 := Lib.hid (HB1.out.drew.fr hf2 (fun hm => by have := HNL.out _ hm; omega))
         have x0 := HA2.out.cell 0
         have x1 := HA2.out.cell 1
         have x2 := HA2.out.cell 2
         have x3 := HA2.out.cell 3
         have x4 := HA2.out.cell 4
         have y0 := HB2.out.cell 0
         have y1 := HB2.out.cell 1
         have y2 := HB2.out.cell 2
         have y3 := HB2.out.cell 3
         have y4 := HB2.out.cell 4
         simp only [List.getElem?_cons_zero, List.getElem?_cons_succ] at x0 x1 x2 x3 x4 y0 y1 y2 y3 y4
         have z0 := HB2.out.frozen 0
         have z1 := HB2.out.frozen 1
         have z2 := HB2.out.frozen 2
         have z3 := HB2.out.frozen 3
         have z4 := HB2.out.frozen 4
         clear hs2 hf2))
    all_goals
      go_wp2_with fail
      refine bodyPost_ret (v := .tuple #[.agg #[.int .i64 1, .int .i64 s.own, .int .i64 s.other, .int .u64 s.nonce, .int .u64 s.echo], v2]) (by simp [results, Try.results23, go_sem, y0, y1, y2, y3, y4]) rfl ?_
      refine ⟨v2, rfl, SentAt.finish (r := w.heap.size + 1) HS2.out HF1.out.cdrew ?_ (by omega) HB1.out.lt HNL.out⟩
      exact (((((Fr.refl _ w2).cset _ _ (.inl (by simp))).cset _ _ (.inl (by simp))).cset _ _ (.inl (by simp))).cset _ _ (.inl (by simp))).cset _ _ (.inl (by simp))
  · have HA : Hid (called L s = (s, (L, []))) := by
      show _ = _
      unfold called
      rw [if_neg h1]
    rw [HA.out]
    unfold skV
    go_enter Try.func23, Try.ntmps23
    go_wp2_with fail
    refine bodyPost_ret (v := .tuple #[.agg #[.int .i64 s.state, .int .i64 s.own, .int .i64 s.other, .int .u64 s.nonce, .int .u64 s.echo], .slice none 0 0]) (by simp [results, Try.results23, go_sem]) rfl ?_
    have hf : Fr [] w ((w.alloc (.cells #[.int .i64 s.state, .int .i64 s.own, .int .i64 s.other, .int .u64 s.nonce, .int .u64 s.echo] 46)).alloc (.cells #[.int .i64 s.state, .int .i64 s.own, .int .i64 s.other, .int .u64 s.nonce, .int .u64 s.echo] 46)) := ((Fr.refl [] w).calloc _).calloc _
    exact ⟨_, rfl, World.ownsRow_nil _ _ _ _, by simp, hf.mono (by simp), lv, HN.out.fr hf (by simp), fun g hg => .inl hg⟩
end Go.Proofs.Ytjfmgpelkhgodaa
