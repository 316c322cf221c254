/- The walks of shake.hearHello, hearAnswer. -/
import Derived.Test.YtjfmgpelkhgodaaShakeG
namespace Go.Proofs.Ytjfmgpelkhgodaa
open Go.RowKit
attribute [local go_sem ↓ high] run_min_whole run_max_whole

set_option maxRecDepth 100000 in
set_option maxHeartbeats 8000000 in
theorem sk_hearHello (w : World) (b mb : Nat) (lv : Value) (L : List En) (s : Sk) (m : Mg) (nv av bv : Value) (hs : s.Wf) (hN : NotIn w b mb lv L) (h : MsgAt w nv av bv m) (hl : 3 ≤ m.nums.length) (hlen : L.length ≤ 100000) :
    Calls Try.prog 52 #[skV s, .pointer (some ⟨b, 0, none⟩), mgV m nv av bv] w fun e w' => SkSent w w' b mb lv (hearHello L s m).1 (hearHello L s m).2 e := by
  have HN := Lib.hid hN
  have HS := Lib.hid hs
  have H := Lib.hid h
  have HNL : Hid (∀ q, q ∈ NBlocks b mb lv → q < w.heap.size) := NotIn.blt hN
  obtain ⟨na, nc, hnv⟩ := h.nums.shape
  obtain ⟨aa, ac, hav⟩ := ads_shape h.addrs
  obtain ⟨ba, bc, hbv⟩ := h.body.shape
  rw [u64s_length] at hnv
  rw [u8s_length] at hbv
  clear h hN hs
  subst hnv hav hbv
  obtain ⟨g, off, hna, hg, hc2⟩ := sl_some (k := 2) H.out.nums (by simp [u64s]; omega)
  subst hna
  obtain ⟨x, hx⟩ : ∃ x, m.nums[2]? = some x := ⟨_, List.getElem?_eq_getElem (by omega)⟩
  have HX : Hid (m.nums.getD 2 0 = x) := by
    show _ = _
    simp [List.getD, hx]
  have hxlt : x < 18446744073709551616 := H.out.wf.nums x (List.mem_of_getElem? hx)
  have HXL := Lib.hid hxlt
  simp only [u64s, List.getElem?_map, hx, Option.map_some] at hc2
  clear hx hxlt
  have hi1 : (2 : Int) < (m.nums.length : Int) := by omega
  have hc2 : ∀ o1 o2 o3, (((w.alloc o1).alloc o2).alloc o3).cell? ⟨g, off + 2, none⟩ = some (.int .u64 x) := fun o1 o2 o3 => (World.cell?_of_block (w := w) ((((Fr.refl [] w).calloc o1).calloc o2).calloc o3 |>.block g hg (by simp))).trans hc2
  clear hl
  by_cases h0 : x = 0
  · have HV : Hid (hearHello L s m = (s, (L, []))) := by
      show _ = _
      unfold hearHello
      rw [HX.out, if_pos h0]
    rw [HV.out]
    have hx0 : ((x : Int) == 0) = true := by simp [h0]
    clear h0
    unfold skV mgV
    go_enter Try.func52, Try.ntmps52
    go_wp2_with fail
    refine bodyPost_ret (v := .tuple #[.agg #[.int .i64 s.state, .int .i64 s.own, .int .i64 s.other, .int .u64 s.nonce, .int .u64 s.echo], .slice none 0 0]) (by simp [results, Try.results52, go_sem]) rfl ?_
    have hf : Fr [] w ((((w.alloc (.cells #[.int .i64 s.state, .int .i64 s.own, .int .i64 s.other, .int .u64 s.nonce, .int .u64 s.echo] 46)).alloc (.cells #[.int .i64 m.kind, .slice (some ⟨g, off, none⟩) m.nums.length nc, .slice aa m.addrs.length ac, .slice ba m.body.length bc] 56)).alloc (.cells #[.int .i64 s.state, .int .i64 s.own, .int .i64 s.other, .int .u64 s.nonce, .int .u64 s.echo] 46))) := (((Fr.refl [] w).calloc _).calloc _).calloc _
    exact ⟨_, rfl, World.ownsRow_nil _ _ _ _, by simp, hf.mono (by simp), lv, HN.out.fr hf (by simp), fun g hg => .inl hg⟩
  have hx0 : ((x : Int) == 0) = false := by
    rw [beq_eq_false_iff_ne]
    omega
  by_cases h1 : s.state = 0
  · have HV : Hid (hearHello L s m = ({ s with state := 2, echo := x }, made L 2 s.own [] [s.other, s.nonce, x])) := by
      show _ = _
      unfold hearHello
      rw [HX.out, if_neg h0, if_pos (.inl h1)]
    rw [HV.out]
    have HEC : Hid (x < 18446744073709551616) := HXL.out
    unfold skV mgV
    rw [h1]
    clear h1 h0
    go_enter Try.func52, Try.ntmps52
    go_wp2_with fail
    obtain ⟨w1, hw1⟩ : ∃ w1, (((w.alloc (.cells #[.int .i64 2, .int .i64 s.own, .int .i64 s.other, .int .u64 s.nonce, .int .u64 x] 46)).alloc (.cells #[.int .i64 m.kind, .slice (some ⟨g, off, none⟩) m.nums.length nc, .slice aa m.addrs.length ac, .slice ba m.body.length bc] 56)).alloc (.cells #[.int .i64 0, .int .i64 0, .int .i64 0, .int .u64 0, .int .u64 0] 46)) = w1 := ⟨_, rfl⟩
    rw [hw1]
    have hf1 : Fr [] w w1 := by
      rw [← hw1]
      exact (((Fr.refl [] w).calloc _).calloc _).calloc _
    have hA1 : Cells w1 w.heap.size 46 [.int .i64 2, .int .i64 s.own, .int .i64 s.other, .int .u64 s.nonce, .int .u64 x] := by
      rw [← hw1]
      exact ((Cells.new w _ _).alloc _).alloc _
    have hB1 : Cells w1 (w.heap.size + 1 + 1) 46 [.int .i64 0, .int .i64 0, .int .i64 0, .int .u64 0, .int .u64 0] := by
      rw [← hw1]
      have := Cells.new ((w.alloc (.cells #[.int .i64 2, .int .i64 s.own, .int .i64 s.other, .int .u64 s.nonce, .int .u64 x] 46)).alloc (.cells #[.int .i64 m.kind, .slice (some ⟨g, off, none⟩) m.nums.length nc, .slice aa m.addrs.length ac, .slice ba m.body.length bc] 56)) 46 [.int .i64 0, .int .i64 0, .int .i64 0, .int .u64 0, .int .u64 0]
      rw [World.size_alloc, World.size_alloc] at this
      exact this
    have HF1 := Lib.hid hf1
    have HA1 := Lib.hid hA1
    have HB1 := Lib.hid hB1
    have a0 := hA1.cell 0
    have a1 := hA1.cell 1
    have a2 := hA1.cell 2
    have a3 := hA1.cell 3
    have a4 := hA1.cell 4
    simp only [List.getElem?_cons_zero, List.getElem?_cons_succ] at a0 a1 a2 a3 a4
    clear hw1 hf1 hA1 hB1
    have EG : Hid (∀ args w, (callFunc 64 args).run Try.prog w = .ok (.enter 64 args) w) := enters_of Try.func64 (by kernel_rfl) rfl
    go_region_law (first
      | (refine step_callN rfl 64 #[.tmp 36, .tmp 37, .const (.slice none 0 0)] _ rfl EG.out #[skV ⟨2, s.own, s.other, s.nonce, x⟩, .pointer (some ⟨b, 0, none⟩), .slice none 0 0] (by rfl) (sk_answer w1.drew b mb lv L ⟨2, s.own, s.other, s.nonce, x⟩ ⟨HS.out.own, HS.out.other, HS.out.nonce, HEC.out⟩ (.slice none 0 0) [] (HN.out.fr (HF1.out.cdrew) (by simp)) (SlAt.nil _) (by simp [Value.ownBlock]) hlen) ?_
         rintro e w2 ⟨v2, rfl, hs2⟩
         refine ⟨v2, rfl, ?_⟩
         have HS2 := Lib.hid hs2
         have hf2 := hs2.2.2.1
         have HA2 := Lib.hid (HA1.out.drew.fr hf2 (fun hm => by have := HNL.out _ hm; omega))
         have HB2 := Lib.hid (HB1.out.drew.fr hf2 (fun hm => by have := HNL.out _ hm; omega))
         have x0 := HA2.out.cell 0
         have x1 := HA2.out.cell 1
         have x2 := HA2.out.cell 2
         have x3 := HA2.out.cell 3
         have x4 := HA2.out.cell 4
         have y0 := HB2.out.cell 0
         have y1 := HB2.out.cell 1
         have y2 := HB2.out.cell 2
         have y3 := HB2.out.cell 3
         have y4 := HB2.out.cell 4
         simp only [List.getElem?_cons_zero, List.getElem?_cons_succ] at x0 x1 x2 x3 x4 y0 y1 y2 y3 y4
         have z0 := HB2.out.frozen 0
         have z1 := HB2.out.frozen 1
         have z2 := HB2.out.frozen 2
         have z3 := HB2.out.frozen 3
         have z4 := HB2.out.frozen 4
         clear hs2 hf2))
    all_goals
      go_wp2_with fail
      refine bodyPost_ret (v := .tuple #[.agg #[.int .i64 2, .int .i64 s.own, .int .i64 s.other, .int .u64 s.nonce, .int .u64 x], v2]) (by simp [results, Try.results52, go_sem, y0, y1, y2, y3, y4]) rfl ?_
      refine ⟨v2, rfl, SentAt.finish (r := w.heap.size + 1 + 1) HS2.out HF1.out.cdrew ?_ (by omega) HB1.out.lt HNL.out⟩
      exact (((((Fr.refl _ w2).cset _ _ (.inl (by simp))).cset _ _ (.inl (by simp))).cset _ _ (.inl (by simp))).cset _ _ (.inl (by simp))).cset _ _ (.inl (by simp))
  by_cases h2 : s.state = 1
  · have HV : Hid (hearHello L s m = ({ s with state := 2, echo := x }, made L 2 s.own [] [s.other, s.nonce, x])) := by
      show _ = _
      unfold hearHello
      rw [HX.out, if_neg h0, if_pos (.inr h2)]
    rw [HV.out]
    have HEC : Hid (x < 18446744073709551616) := HXL.out
    unfold skV mgV
    rw [h2]
    clear h2 h0
    go_enter Try.func52, Try.ntmps52
    go_wp2_with fail
    obtain ⟨w1, hw1⟩ : ∃ w1, (((w.alloc (.cells #[.int .i64 2, .int .i64 s.own, .int .i64 s.other, .int .u64 s.nonce, .int .u64 x] 46)).alloc (.cells #[.int .i64 m.kind, .slice (some ⟨g, off, none⟩) m.nums.length nc, .slice aa m.addrs.length ac, .slice ba m.body.length bc] 56)).alloc (.cells #[.int .i64 0, .int .i64 0, .int .i64 0, .int .u64 0, .int .u64 0] 46)) = w1 := ⟨_, rfl⟩
    rw [hw1]
    have hf1 : Fr [] w w1 := by
      rw [← hw1]
      exact (((Fr.refl [] w).calloc _).calloc _).calloc _
    have hA1 : Cells w1 w.heap.size 46 [.int .i64 2, .int .i64 s.own, .int .i64 s.other, .int .u64 s.nonce, .int .u64 x] := by
      rw [← hw1]
      exact ((Cells.new w _ _).alloc _).alloc _
    have hB1 : Cells w1 (w.heap.size + 1 + 1) 46 [.int .i64 0, .int .i64 0, .int .i64 0, .int .u64 0, .int .u64 0] := by
      rw [← hw1]
      have := Cells.new ((w.alloc (.cells #[.int .i64 2, .int .i64 s.own, .int .i64 s.other, .int .u64 s.nonce, .int .u64 x] 46)).alloc (.cells #[.int .i64 m.kind, .slice (some ⟨g, off, none⟩) m.nums.length nc, .slice aa m.addrs.length ac, .slice ba m.body.length bc] 56)) 46 [.int .i64 0, .int .i64 0, .int .i64 0, .int .u64 0, .int .u64 0]
      rw [World.size_alloc, World.size_alloc] at this
      exact this
    have HF1 := Lib.hid hf1
    have HA1 := Lib.hid hA1
    have HB1 := Lib.hid hB1
    have a0 := hA1.cell 0
    have a1 := hA1.cell 1
    have a2 := hA1.cell 2
    have a3 := hA1.cell 3
    have a4 := hA1.cell 4
    simp only [List.getElem?_cons_zero, List.getElem?_cons_succ] at a0 a1 a2 a3 a4
    clear hw1 hf1 hA1 hB1
    have EG : Hid (∀ args w, (callFunc 64 args).run Try.prog w = .ok (.enter 64 args) w) := enters_of Try.func64 (by kernel_rfl) rfl
    go_region_law (first
      | (refine step_callN rfl 64 #[.tmp 36, .tmp 37, .const (.slice none 0 0)] _ rfl EG.out #[skV ⟨2, s.own, s.other, s.nonce, x⟩, .pointer (some ⟨b, 0, none⟩), .slice none 0 0] (by rfl) (sk_answer w1.drew b mb lv L ⟨2, s.own, s.other, s.nonce, x⟩ ⟨HS.out.own, HS.out.other, HS.out.nonce, HEC.out⟩ (.slice none 0 0) [] (HN.out.fr (HF1.out.cdrew) (by simp)) (SlAt.nil _) (by simp [Value.ownBlock]) hlen) ?_
         rintro e w2 ⟨v2, rfl, hs2⟩
         refine ⟨v2, rfl, ?_⟩
         have HS2 := Lib.hid hs2
         have hf2 := hs2.2.2.1
         have HA2 := Lib.hid (HA1.out.drew.fr hf2 (fun hm => by have := HNL.out _ hm; omega))
         have HB2 := Lib.hid (HB1.out.drew.fr hf2 (fun hm => by have := HNL.out _ hm; omega))
         have x0 := HA2.out.cell 0
         have x1 := HA2.out.cell 1
         have x2 := HA2.out.cell 2
         have x3 := HA2.out.cell 3
         have x4 := HA2.out.cell 4
         have y0 := HB2.out.cell 0
         have y1 := HB2.out.cell 1
         have y2 := HB2.out.cell 2
         have y3 := HB2.out.cell 3
         have y4 := HB2.out.cell 4
         simp only [List.getElem?_cons_zero, List.getElem?_cons_succ] at x0 x1 x2 x3 x4 y0 y1 y2 y3 y4
         have z0 := HB2.out.frozen 0
         have z1 := HB2.out.frozen 1
         have z2 := HB2.out.frozen 2
         have z3 := HB2.out.frozen 3
         have z4 := HB2.out.frozen 4
         clear hs2 hf2))
    all_goals
      go_wp2_with fail
      refine bodyPost_ret (v := .tuple #[.agg #[.int .i64 2, .int .i64 s.own, .int .i64 s.other, .int .u64 s.nonce, .int .u64 x], v2]) (by simp [results, Try.results52, go_sem, y0, y1, y2, y3, y4]) rfl ?_
      refine ⟨v2, rfl, SentAt.finish (r := w.heap.size + 1 + 1) HS2.out HF1.out.cdrew ?_ (by omega) HB1.out.lt HNL.out⟩
      exact (((((Fr.refl _ w2).cset _ _ (.inl (by simp))).cset _ _ (.inl (by simp))).cset _ _ (.inl (by simp))).cset _ _ (.inl (by simp))).cset _ _ (.inl (by simp))
  have b1 : (s.state == 0) = false := by
    rw [beq_eq_false_iff_ne]
    exact h1
  have b2 : (s.state == 1) = false := by
    rw [beq_eq_false_iff_ne]
    exact h2
  by_cases h3 : s.echo = x
  · have HV : Hid (hearHello L s m = (s, made L 2 s.own [] [s.other, s.nonce, s.echo])) := by
      show _ = _
      unfold hearHello
      rw [HX.out, if_neg h0, if_neg (by rintro (h | h); exact h1 h; exact h2 h), if_neg (by simpa using h3)]
    rw [HV.out]
    have HEC : Hid (s.echo < 18446744073709551616) := HS.out.echo
    have b3 : ((s.echo : Int) != (x : Int)) = false := by simp [h3]
    unfold skV mgV
    clear h1 h2 h3 h0
    go_enter Try.func52, Try.ntmps52
    go_wp2_with fail
    obtain ⟨w1, hw1⟩ : ∃ w1, (((w.alloc (.cells #[.int .i64 s.state, .int .i64 s.own, .int .i64 s.other, .int .u64 s.nonce, .int .u64 s.echo] 46)).alloc (.cells #[.int .i64 m.kind, .slice (some ⟨g, off, none⟩) m.nums.length nc, .slice aa m.addrs.length ac, .slice ba m.body.length bc] 56)).alloc (.cells #[.int .i64 0, .int .i64 0, .int .i64 0, .int .u64 0, .int .u64 0] 46)) = w1 := ⟨_, rfl⟩
    rw [hw1]
    have hf1 : Fr [] w w1 := by
      rw [← hw1]
      exact (((Fr.refl [] w).calloc _).calloc _).calloc _
    have hA1 : Cells w1 w.heap.size 46 [.int .i64 s.state, .int .i64 s.own, .int .i64 s.other, .int .u64 s.nonce, .int .u64 s.echo] := by
      rw [← hw1]
      exact ((Cells.new w _ _).alloc _).alloc _
    have hB1 : Cells w1 (w.heap.size + 1 + 1) 46 [.int .i64 0, .int .i64 0, .int .i64 0, .int .u64 0, .int .u64 0] := by
      rw [← hw1]
      have := Cells.new ((w.alloc (.cells #[.int .i64 s.state, .int .i64 s.own, .int .i64 s.other, .int .u64 s.nonce, .int .u64 s.echo] 46)).alloc (.cells #[.int .i64 m.kind, .slice (some ⟨g, off, none⟩) m.nums.length nc, .slice aa m.addrs.length ac, .slice ba m.body.length bc] 56)) 46 [.int .i64 0, .int .i64 0, .int .i64 0, .int .u64 0, .int .u64 0]
      rw [World.size_alloc, World.size_alloc] at this
      exact this
    have HF1 := Lib.hid hf1
    have HA1 := Lib.hid hA1
    have HB1 := Lib.hid hB1
    have a0 := hA1.cell 0
    have a1 := hA1.cell 1
    have a2 := hA1.cell 2
    have a3 := hA1.cell 3
    have a4 := hA1.cell 4
    simp only [List.getElem?_cons_zero, List.getElem?_cons_succ] at a0 a1 a2 a3 a4
    clear hw1 hf1 hA1 hB1
    have EG : Hid (∀ args w, (callFunc 64 args).run Try.prog w = .ok (.enter 64 args) w) := enters_of Try.func64 (by kernel_rfl) rfl
    go_region_law (first
      | (refine step_callN rfl 64 #[.tmp 36, .tmp 37, .const (.slice none 0 0)] _ rfl EG.out #[skV ⟨s.state, s.own, s.other, s.nonce, s.echo⟩, .pointer (some ⟨b, 0, none⟩), .slice none 0 0] (by rfl) (sk_answer w1.drew b mb lv L ⟨s.state, s.own, s.other, s.nonce, s.echo⟩ ⟨HS.out.own, HS.out.other, HS.out.nonce, HEC.out⟩ (.slice none 0 0) [] (HN.out.fr (HF1.out.cdrew) (by simp)) (SlAt.nil _) (by simp [Value.ownBlock]) hlen) ?_
         rintro e w2 ⟨v2, rfl, hs2⟩
         refine ⟨v2, rfl, ?_⟩
         have HS2 := Lib.hid hs2
         have hf2 := hs2.2.2.1
         have HA2 := Lib.hid (HA1.out.drew.fr hf2 (fun hm => by have := HNL.out _ hm; omega))
         have HB2 := Lib.hid (HB1.out.drew.fr hf2 (fun hm => by have := HNL.out _ hm; omega))
         have x0 := HA2.out.cell 0
         have x1 := HA2.out.cell 1
         have x2 := HA2.out.cell 2
         have x3 := HA2.out.cell 3
         have x4 := HA2.out.cell 4
         have y0 := HB2.out.cell 0
         have y1 := HB2.out.cell 1
         have y2 := HB2.out.cell 2
         have y3 := HB2.out.cell 3
         have y4 := HB2.out.cell 4
         simp only [List.getElem?_cons_zero, List.getElem?_cons_succ] at x0 x1 x2 x3 x4 y0 y1 y2 y3 y4
         have z0 := HB2.out.frozen 0
         have z1 := HB2.out.frozen 1
         have z2 := HB2.out.frozen 2
         have z3 := HB2.out.frozen 3
         have z4 := HB2.out.frozen 4
         clear hs2 hf2))
    all_goals
      go_wp2_with fail
      refine bodyPost_ret (v := .tuple #[.agg #[.int .i64 s.state, .int .i64 s.own, .int .i64 s.other, .int .u64 s.nonce, .int .u64 s.echo], v2]) (by simp [results, Try.results52, go_sem, y0, y1, y2, y3, y4]) rfl ?_
      refine ⟨v2, rfl, SentAt.finish (r := w.heap.size + 1 + 1) HS2.out HF1.out.cdrew ?_ (by omega) HB1.out.lt HNL.out⟩
      exact (((((Fr.refl _ w2).cset _ _ (.inl (by simp))).cset _ _ (.inl (by simp))).cset _ _ (.inl (by simp))).cset _ _ (.inl (by simp))).cset _ _ (.inl (by simp))
  · have HV : Hid (hearHello L s m = (s, (L, []))) := by
      show _ = _
      unfold hearHello
      rw [HX.out, if_neg h0, if_neg (by rintro (h | h); exact h1 h; exact h2 h), if_pos h3]
    rw [HV.out]
    have b3 : ((s.echo : Int) != (x : Int)) = true := by
      rw [bne_iff_ne]
      omega
    unfold skV mgV
    clear h1 h2 h3 h0
    go_enter Try.func52, Try.ntmps52
    go_wp2_with fail
    refine bodyPost_ret (v := .tuple #[.agg #[.int .i64 s.state, .int .i64 s.own, .int .i64 s.other, .int .u64 s.nonce, .int .u64 s.echo], .slice none 0 0]) (by simp [results, Try.results52, go_sem]) rfl ?_
    have hf : Fr [] w ((((w.alloc (.cells #[.int .i64 s.state, .int .i64 s.own, .int .i64 s.other, .int .u64 s.nonce, .int .u64 s.echo] 46)).alloc (.cells #[.int .i64 m.kind, .slice (some ⟨g, off, none⟩) m.nums.length nc, .slice aa m.addrs.length ac, .slice ba m.body.length bc] 56)).alloc (.cells #[.int .i64 s.state, .int .i64 s.own, .int .i64 s.other, .int .u64 s.nonce, .int .u64 s.echo] 46))) := (((Fr.refl [] w).calloc _).calloc _).calloc _
    exact ⟨_, rfl, World.ownsRow_nil _ _ _ _, by simp, hf.mono (by simp), lv, HN.out.fr hf (by simp), fun g hg => .inl hg⟩
end Go.Proofs.Ytjfmgpelkhgodaa
