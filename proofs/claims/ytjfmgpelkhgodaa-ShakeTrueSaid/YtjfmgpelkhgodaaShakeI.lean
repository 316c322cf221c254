/- The walk of shake.hearAnswer. -/
import Derived.Test.YtjfmgpelkhgodaaShakeH
namespace Go.Proofs.Ytjfmgpelkhgodaa
open Go.RowKit
attribute [local go_sem ↓ high] run_min_whole run_max_whole
theorem SkSent.none {w w' : World} {b mb : Nat} {lv : Value} {L : List En} {s : Sk} (hN : NotIn w b mb lv L) (hf : Fr [] w w') : SkSent w w' b mb lv s (L, []) (.returned (.tuple #[skV s, .slice none 0 0])) :=
  ⟨_, rfl, World.ownsRow_nil _ _ _ _, by simp, hf.mono (by simp), lv, hN.fr hf (by simp), fun g hg => .inl hg⟩

set_option maxRecDepth 100000 in
set_option maxHeartbeats 2000000 in
theorem ha_1 (w : World) (b mb : Nat) (lv : Value) (L : List En) (s : Sk) (m : Mg) (g off nc : Nat) (aa ba : Option Addr) (ac bc x3 x : Nat) (HS : Hid s.Wf) (HN : Hid (NotIn w b mb lv L)) (HNL : Hid (∀ q, q ∈ NBlocks b mb lv → q < w.heap.size)) (hlen : L.length ≤ 100000) (HEC : Hid (x < 18446744073709551616))
    (hi1 : (2 : Int) < (m.nums.length : Int)) (hi3 : (3 : Int) < (m.nums.length : Int))
    (hc2 : ∀ o1 o2 o3, (((w.alloc o1).alloc o2).alloc o3).cell? ⟨g, off + 2, none⟩ = some (.int .u64 x)) (hc3 : ∀ o1 o2 o3, (((w.alloc o1).alloc o2).alloc o3).cell? ⟨g, off + 3, none⟩ = some (.int .u64 x3)) (d1 : ((x3 : Int) != (s.nonce : Int)) = true) :
    Calls Try.prog 53 #[.agg #[.int .i64 s.state, .int .i64 s.own, .int .i64 s.other, .int .u64 s.nonce, .int .u64 s.echo], .pointer (some ⟨b, 0, none⟩), .agg #[.int .i64 m.kind, .slice (some ⟨g, off, none⟩) m.nums.length nc, .slice aa m.addrs.length ac, .slice ba m.body.length bc]] w fun e w' => SkSent w w' b mb lv s (L, []) e := by
  have u := And.intro HS (And.intro HNL (And.intro hlen HEC))
  clear u HS HNL hlen HEC
  go_enter Try.func53, Try.ntmps53
  go_wp2_with fail
  go_quiet (fail)
  obtain ⟨w1, hw1⟩ : ∃ w1, ((((w.alloc (.cells #[.int .i64 s.state, .int .i64 s.own, .int .i64 s.other, .int .u64 s.nonce, .int .u64 s.echo] 46)).alloc (.cells #[.int .i64 m.kind, .slice (some ⟨g, off, none⟩) m.nums.length nc, .slice aa m.addrs.length ac, .slice ba m.body.length bc] 56)).alloc (.cells #[.int .i64 0, .int .i64 0, .int .i64 0, .int .u64 0, .int .u64 0] 46)).drewN nq) = w1 := ⟨_, rfl⟩
  rw [hw1]
  have hf1 : Fr [] w w1 := by
    rw [← hw1]
    exact ((((Fr.refl [] w).calloc _).calloc _).calloc _).cdrewN nq
  have hA1 : Cells w1 w.heap.size 46 [.int .i64 s.state, .int .i64 s.own, .int .i64 s.other, .int .u64 s.nonce, .int .u64 s.echo] := by
    rw [← hw1]
    exact (((Cells.new w _ _).alloc _).alloc _).drewN nq
  have hM1 : Cells w1 (w.heap.size + 1) 56 [.int .i64 m.kind, .slice (some ⟨g, off, none⟩) m.nums.length nc, .slice aa m.addrs.length ac, .slice ba m.body.length bc] := by
    rw [← hw1]
    have := Cells.new (w.alloc (.cells #[.int .i64 s.state, .int .i64 s.own, .int .i64 s.other, .int .u64 s.nonce, .int .u64 s.echo] 46)) 56 [.int .i64 m.kind, .slice (some ⟨g, off, none⟩) m.nums.length nc, .slice aa m.addrs.length ac, .slice ba m.body.length bc]
    rw [World.size_alloc] at this
    exact (this.alloc _).drewN nq
  have hB1 : Cells w1 (w.heap.size + 1 + 1) 46 [.int .i64 0, .int .i64 0, .int .i64 0, .int .u64 0, .int .u64 0] := by
    rw [← hw1]
    have := Cells.new ((w.alloc (.cells #[.int .i64 s.state, .int .i64 s.own, .int .i64 s.other, .int .u64 s.nonce, .int .u64 s.echo] 46)).alloc (.cells #[.int .i64 m.kind, .slice (some ⟨g, off, none⟩) m.nums.length nc, .slice aa m.addrs.length ac, .slice ba m.body.length bc] 56)) 46 [.int .i64 0, .int .i64 0, .int .i64 0, .int .u64 0, .int .u64 0]
    rw [World.size_alloc, World.size_alloc] at this
    exact this.drewN nq
  have HF1 := Lib.hid hf1
  have HA1 := Lib.hid hA1
  have HM1 := Lib.hid hM1
  have HB1 := Lib.hid hB1
  have a0 := hA1.cell 0
  have a1 := hA1.cell 1
  have a2 := hA1.cell 2
  have a3 := hA1.cell 3
  have a4 := hA1.cell 4
  have y0 := hB1.cell 0
  have y1 := hB1.cell 1
  have y2 := hB1.cell 2
  have y3 := hB1.cell 3
  have y4 := hB1.cell 4
  have m3 := hM1.cell 3
  simp only [List.getElem?_cons_zero, List.getElem?_cons_succ] at a0 a1 a2 a3 a4 y0 y1 y2 y3 y4 m3
  have e0 := hA1.frozen 0
  have e4 := hA1.frozen 4
  have z0 := hB1.frozen 0
  have z1 := hB1.frozen 1
  have z2 := hB1.frozen 2
  have z3 := hB1.frozen 3
  have z4 := hB1.frozen 4
  clear hw1 hf1 hA1 hB1 hM1 hc2 hc3
  go_wp2_with fail
  refine bodyPost_ret (v := .tuple #[.agg #[.int .i64 s.state, .int .i64 s.own, .int .i64 s.other, .int .u64 s.nonce, .int .u64 s.echo], .slice none 0 0]) (by simp [results, Try.results53, go_sem, y0, y1, y2, y3, y4]) rfl ?_
  exact SkSent.none HN.out (HF1.out.step ((((((Fr.refl [w.heap.size, w.heap.size + 1 + 1] w1).cset _ _ (.inl (by simp))).cset _ _ (.inl (by simp))).cset _ _ (.inl (by simp))).cset _ _ (.inl (by simp))).cset _ _ (.inl (by simp))) (by simp; omega))

set_option maxRecDepth 100000 in
set_option maxHeartbeats 2000000 in
theorem ha_2 (w : World) (b mb : Nat) (lv : Value) (L : List En) (s : Sk) (m : Mg) (g off nc : Nat) (aa ba : Option Addr) (ac bc x3 x : Nat) (HS : Hid s.Wf) (HN : Hid (NotIn w b mb lv L)) (HNL : Hid (∀ q, q ∈ NBlocks b mb lv → q < w.heap.size)) (hlen : L.length ≤ 100000) (HEC : Hid (x < 18446744073709551616))
    (hi1 : (2 : Int) < (m.nums.length : Int)) (hi3 : (3 : Int) < (m.nums.length : Int))
    (hc2 : ∀ o1 o2 o3, (((w.alloc o1).alloc o2).alloc o3).cell? ⟨g, off + 2, none⟩ = some (.int .u64 x)) (hc3 : ∀ o1 o2 o3, (((w.alloc o1).alloc o2).alloc o3).cell? ⟨g, off + 3, none⟩ = some (.int .u64 x3)) (d1 : ((x3 : Int) != (s.nonce : Int)) = false) (d2 : ((x : Int) == 0) = true) :
    Calls Try.prog 53 #[.agg #[.int .i64 s.state, .int .i64 s.own, .int .i64 s.other, .int .u64 s.nonce, .int .u64 s.echo], .pointer (some ⟨b, 0, none⟩), .agg #[.int .i64 m.kind, .slice (some ⟨g, off, none⟩) m.nums.length nc, .slice aa m.addrs.length ac, .slice ba m.body.length bc]] w fun e w' => SkSent w w' b mb lv s (L, []) e := by
  have u := And.intro HS (And.intro HNL (And.intro hlen HEC))
  clear u HS HNL hlen HEC
  go_enter Try.func53, Try.ntmps53
  go_wp2_with fail
  go_quiet (fail)
  obtain ⟨w1, hw1⟩ : ∃ w1, ((((w.alloc (.cells #[.int .i64 s.state, .int .i64 s.own, .int .i64 s.other, .int .u64 s.nonce, .int .u64 s.echo] 46)).alloc (.cells #[.int .i64 m.kind, .slice (some ⟨g, off, none⟩) m.nums.length nc, .slice aa m.addrs.length ac, .slice ba m.body.length bc] 56)).alloc (.cells #[.int .i64 0, .int .i64 0, .int .i64 0, .int .u64 0, .int .u64 0] 46)).drewN nq) = w1 := ⟨_, rfl⟩
  rw [hw1]
  have hf1 : Fr [] w w1 := by
    rw [← hw1]
    exact ((((Fr.refl [] w).calloc _).calloc _).calloc _).cdrewN nq
  have hA1 : Cells w1 w.heap.size 46 [.int .i64 s.state, .int .i64 s.own, .int .i64 s.other, .int .u64 s.nonce, .int .u64 s.echo] := by
    rw [← hw1]
    exact (((Cells.new w _ _).alloc _).alloc _).drewN nq
  have hM1 : Cells w1 (w.heap.size + 1) 56 [.int .i64 m.kind, .slice (some ⟨g, off, none⟩) m.nums.length nc, .slice aa m.addrs.length ac, .slice ba m.body.length bc] := by
    rw [← hw1]
    have := Cells.new (w.alloc (.cells #[.int .i64 s.state, .int .i64 s.own, .int .i64 s.other, .int .u64 s.nonce, .int .u64 s.echo] 46)) 56 [.int .i64 m.kind, .slice (some ⟨g, off, none⟩) m.nums.length nc, .slice aa m.addrs.length ac, .slice ba m.body.length bc]
    rw [World.size_alloc] at this
    exact (this.alloc _).drewN nq
  have hB1 : Cells w1 (w.heap.size + 1 + 1) 46 [.int .i64 0, .int .i64 0, .int .i64 0, .int .u64 0, .int .u64 0] := by
    rw [← hw1]
    have := Cells.new ((w.alloc (.cells #[.int .i64 s.state, .int .i64 s.own, .int .i64 s.other, .int .u64 s.nonce, .int .u64 s.echo] 46)).alloc (.cells #[.int .i64 m.kind, .slice (some ⟨g, off, none⟩) m.nums.length nc, .slice aa m.addrs.length ac, .slice ba m.body.length bc] 56)) 46 [.int .i64 0, .int .i64 0, .int .i64 0, .int .u64 0, .int .u64 0]
    rw [World.size_alloc, World.size_alloc] at this
    exact this.drewN nq
  have HF1 := Lib.hid hf1
  have HA1 := Lib.hid hA1
  have HM1 := Lib.hid hM1
  have HB1 := Lib.hid hB1
  have a0 := hA1.cell 0
  have a1 := hA1.cell 1
  have a2 := hA1.cell 2
  have a3 := hA1.cell 3
  have a4 := hA1.cell 4
  have y0 := hB1.cell 0
  have y1 := hB1.cell 1
  have y2 := hB1.cell 2
  have y3 := hB1.cell 3
  have y4 := hB1.cell 4
  have m3 := hM1.cell 3
  simp only [List.getElem?_cons_zero, List.getElem?_cons_succ] at a0 a1 a2 a3 a4 y0 y1 y2 y3 y4 m3
  have e0 := hA1.frozen 0
  have e4 := hA1.frozen 4
  have z0 := hB1.frozen 0
  have z1 := hB1.frozen 1
  have z2 := hB1.frozen 2
  have z3 := hB1.frozen 3
  have z4 := hB1.frozen 4
  clear hw1 hf1 hA1 hB1 hM1 hc2 hc3
  go_wp2_with fail
  refine bodyPost_ret (v := .tuple #[.agg #[.int .i64 s.state, .int .i64 s.own, .int .i64 s.other, .int .u64 s.nonce, .int .u64 s.echo], .slice none 0 0]) (by simp [results, Try.results53, go_sem, y0, y1, y2, y3, y4]) rfl ?_
  exact SkSent.none HN.out (HF1.out.step ((((((Fr.refl [w.heap.size, w.heap.size + 1 + 1] w1).cset _ _ (.inl (by simp))).cset _ _ (.inl (by simp))).cset _ _ (.inl (by simp))).cset _ _ (.inl (by simp))).cset _ _ (.inl (by simp))) (by simp; omega))

set_option maxRecDepth 100000 in
set_option maxHeartbeats 2000000 in
theorem ha_3 (w : World) (b mb : Nat) (lv : Value) (L : List En) (s : Sk) (m : Mg) (g off nc : Nat) (aa ba : Option Addr) (ac bc x3 x : Nat) (HS : Hid s.Wf) (HN : Hid (NotIn w b mb lv L)) (HNL : Hid (∀ q, q ∈ NBlocks b mb lv → q < w.heap.size)) (hlen : L.length ≤ 100000) (HEC : Hid (x < 18446744073709551616))
    (hi1 : (2 : Int) < (m.nums.length : Int)) (hi3 : (3 : Int) < (m.nums.length : Int))
    (hc2 : ∀ o1 o2 o3, (((w.alloc o1).alloc o2).alloc o3).cell? ⟨g, off + 2, none⟩ = some (.int .u64 x)) (hc3 : ∀ o1 o2 o3, (((w.alloc o1).alloc o2).alloc o3).cell? ⟨g, off + 3, none⟩ = some (.int .u64 x3)) (d1 : ((x3 : Int) != (s.nonce : Int)) = false) (d2 : ((x : Int) == 0) = false) (d3 : (s.state == 0) = true) :
    Calls Try.prog 53 #[.agg #[.int .i64 s.state, .int .i64 s.own, .int .i64 s.other, .int .u64 s.nonce, .int .u64 s.echo], .pointer (some ⟨b, 0, none⟩), .agg #[.int .i64 m.kind, .slice (some ⟨g, off, none⟩) m.nums.length nc, .slice aa m.addrs.length ac, .slice ba m.body.length bc]] w fun e w' => SkSent w w' b mb lv s (L, []) e := by
  have u := And.intro HS (And.intro HNL (And.intro hlen HEC))
  clear u HS HNL hlen HEC
  go_enter Try.func53, Try.ntmps53
  go_wp2_with fail
  go_quiet (fail)
  obtain ⟨w1, hw1⟩ : ∃ w1, ((((w.alloc (.cells #[.int .i64 s.state, .int .i64 s.own, .int .i64 s.other, .int .u64 s.nonce, .int .u64 s.echo] 46)).alloc (.cells #[.int .i64 m.kind, .slice (some ⟨g, off, none⟩) m.nums.length nc, .slice aa m.addrs.length ac, .slice ba m.body.length bc] 56)).alloc (.cells #[.int .i64 0, .int .i64 0, .int .i64 0, .int .u64 0, .int .u64 0] 46)).drewN nq) = w1 := ⟨_, rfl⟩
  rw [hw1]
  have hf1 : Fr [] w w1 := by
    rw [← hw1]
    exact ((((Fr.refl [] w).calloc _).calloc _).calloc _).cdrewN nq
  have hA1 : Cells w1 w.heap.size 46 [.int .i64 s.state, .int .i64 s.own, .int .i64 s.other, .int .u64 s.nonce, .int .u64 s.echo] := by
    rw [← hw1]
    exact (((Cells.new w _ _).alloc _).alloc _).drewN nq
  have hM1 : Cells w1 (w.heap.size + 1) 56 [.int .i64 m.kind, .slice (some ⟨g, off, none⟩) m.nums.length nc, .slice aa m.addrs.length ac, .slice ba m.body.length bc] := by
    rw [← hw1]
    have := Cells.new (w.alloc (.cells #[.int .i64 s.state, .int .i64 s.own, .int .i64 s.other, .int .u64 s.nonce, .int .u64 s.echo] 46)) 56 [.int .i64 m.kind, .slice (some ⟨g, off, none⟩) m.nums.length nc, .slice aa m.addrs.length ac, .slice ba m.body.length bc]
    rw [World.size_alloc] at this
    exact (this.alloc _).drewN nq
  have hB1 : Cells w1 (w.heap.size + 1 + 1) 46 [.int .i64 0, .int .i64 0, .int .i64 0, .int .u64 0, .int .u64 0] := by
    rw [← hw1]
    have := Cells.new ((w.alloc (.cells #[.int .i64 s.state, .int .i64 s.own, .int .i64 s.other, .int .u64 s.nonce, .int .u64 s.echo] 46)).alloc (.cells #[.int .i64 m.kind, .slice (some ⟨g, off, none⟩) m.nums.length nc, .slice aa m.addrs.length ac, .slice ba m.body.length bc] 56)) 46 [.int .i64 0, .int .i64 0, .int .i64 0, .int .u64 0, .int .u64 0]
    rw [World.size_alloc, World.size_alloc] at this
    exact this.drewN nq
  have HF1 := Lib.hid hf1
  have HA1 := Lib.hid hA1
  have HM1 := Lib.hid hM1
  have HB1 := Lib.hid hB1
  have a0 := hA1.cell 0
  have a1 := hA1.cell 1
  have a2 := hA1.cell 2
  have a3 := hA1.cell 3
  have a4 := hA1.cell 4
  have y0 := hB1.cell 0
  have y1 := hB1.cell 1
  have y2 := hB1.cell 2
  have y3 := hB1.cell 3
  have y4 := hB1.cell 4
  have m3 := hM1.cell 3
  simp only [List.getElem?_cons_zero, List.getElem?_cons_succ] at a0 a1 a2 a3 a4 y0 y1 y2 y3 y4 m3
  have e0 := hA1.frozen 0
  have e4 := hA1.frozen 4
  have z0 := hB1.frozen 0
  have z1 := hB1.frozen 1
  have z2 := hB1.frozen 2
  have z3 := hB1.frozen 3
  have z4 := hB1.frozen 4
  clear hw1 hf1 hA1 hB1 hM1 hc2 hc3
  go_wp2_with fail
  refine bodyPost_ret (v := .tuple #[.agg #[.int .i64 s.state, .int .i64 s.own, .int .i64 s.other, .int .u64 s.nonce, .int .u64 s.echo], .slice none 0 0]) (by simp [results, Try.results53, go_sem, y0, y1, y2, y3, y4]) rfl ?_
  exact SkSent.none HN.out (HF1.out.step ((((((Fr.refl [w.heap.size, w.heap.size + 1 + 1] w1).cset _ _ (.inl (by simp))).cset _ _ (.inl (by simp))).cset _ _ (.inl (by simp))).cset _ _ (.inl (by simp))).cset _ _ (.inl (by simp))) (by simp; omega))

set_option maxRecDepth 100000 in
set_option maxHeartbeats 2000000 in
theorem ha_4 (w : World) (b mb : Nat) (lv : Value) (L : List En) (s : Sk) (m : Mg) (g off nc : Nat) (aa ba : Option Addr) (ac bc x3 x : Nat) (HS : Hid s.Wf) (HN : Hid (NotIn w b mb lv L)) (HNL : Hid (∀ q, q ∈ NBlocks b mb lv → q < w.heap.size)) (hlen : L.length ≤ 100000) (HEC : Hid (x < 18446744073709551616))
    (hi1 : (2 : Int) < (m.nums.length : Int)) (hi3 : (3 : Int) < (m.nums.length : Int))
    (hc2 : ∀ o1 o2 o3, (((w.alloc o1).alloc o2).alloc o3).cell? ⟨g, off + 2, none⟩ = some (.int .u64 x)) (hc3 : ∀ o1 o2 o3, (((w.alloc o1).alloc o2).alloc o3).cell? ⟨g, off + 3, none⟩ = some (.int .u64 x3)) (d1 : ((x3 : Int) != (s.nonce : Int)) = false) (d2 : ((x : Int) == 0) = false) (d3 : (s.state == 0) = false) (d4 : (s.state != 1) = true) (d5 : ((x : Int) != (s.echo : Int)) = true) :
    Calls Try.prog 53 #[.agg #[.int .i64 s.state, .int .i64 s.own, .int .i64 s.other, .int .u64 s.nonce, .int .u64 s.echo], .pointer (some ⟨b, 0, none⟩), .agg #[.int .i64 m.kind, .slice (some ⟨g, off, none⟩) m.nums.length nc, .slice aa m.addrs.length ac, .slice ba m.body.length bc]] w fun e w' => SkSent w w' b mb lv s (L, []) e := by
  have u := And.intro HS (And.intro HNL (And.intro hlen HEC))
  clear u HS HNL hlen HEC
  go_enter Try.func53, Try.ntmps53
  go_wp2_with fail
  go_quiet (fail)
  obtain ⟨w1, hw1⟩ : ∃ w1, ((((w.alloc (.cells #[.int .i64 s.state, .int .i64 s.own, .int .i64 s.other, .int .u64 s.nonce, .int .u64 s.echo] 46)).alloc (.cells #[.int .i64 m.kind, .slice (some ⟨g, off, none⟩) m.nums.length nc, .slice aa m.addrs.length ac, .slice ba m.body.length bc] 56)).alloc (.cells #[.int .i64 0, .int .i64 0, .int .i64 0, .int .u64 0, .int .u64 0] 46)).drewN nq) = w1 := ⟨_, rfl⟩
  rw [hw1]
  have hf1 : Fr [] w w1 := by
    rw [← hw1]
    exact ((((Fr.refl [] w).calloc _).calloc _).calloc _).cdrewN nq
  have hA1 : Cells w1 w.heap.size 46 [.int .i64 s.state, .int .i64 s.own, .int .i64 s.other, .int .u64 s.nonce, .int .u64 s.echo] := by
    rw [← hw1]
    exact (((Cells.new w _ _).alloc _).alloc _).drewN nq
  have hM1 : Cells w1 (w.heap.size + 1) 56 [.int .i64 m.kind, .slice (some ⟨g, off, none⟩) m.nums.length nc, .slice aa m.addrs.length ac, .slice ba m.body.length bc] := by
    rw [← hw1]
    have := Cells.new (w.alloc (.cells #[.int .i64 s.state, .int .i64 s.own, .int .i64 s.other, .int .u64 s.nonce, .int .u64 s.echo] 46)) 56 [.int .i64 m.kind, .slice (some ⟨g, off, none⟩) m.nums.length nc, .slice aa m.addrs.length ac, .slice ba m.body.length bc]
    rw [World.size_alloc] at this
    exact (this.alloc _).drewN nq
  have hB1 : Cells w1 (w.heap.size + 1 + 1) 46 [.int .i64 0, .int .i64 0, .int .i64 0, .int .u64 0, .int .u64 0] := by
    rw [← hw1]
    have := Cells.new ((w.alloc (.cells #[.int .i64 s.state, .int .i64 s.own, .int .i64 s.other, .int .u64 s.nonce, .int .u64 s.echo] 46)).alloc (.cells #[.int .i64 m.kind, .slice (some ⟨g, off, none⟩) m.nums.length nc, .slice aa m.addrs.length ac, .slice ba m.body.length bc] 56)) 46 [.int .i64 0, .int .i64 0, .int .i64 0, .int .u64 0, .int .u64 0]
    rw [World.size_alloc, World.size_alloc] at this
    exact this.drewN nq
  have HF1 := Lib.hid hf1
  have HA1 := Lib.hid hA1
  have HM1 := Lib.hid hM1
  have HB1 := Lib.hid hB1
  have a0 := hA1.cell 0
  have a1 := hA1.cell 1
  have a2 := hA1.cell 2
  have a3 := hA1.cell 3
  have a4 := hA1.cell 4
  have y0 := hB1.cell 0
  have y1 := hB1.cell 1
  have y2 := hB1.cell 2
  have y3 := hB1.cell 3
  have y4 := hB1.cell 4
  have m3 := hM1.cell 3
  simp only [List.getElem?_cons_zero, List.getElem?_cons_succ] at a0 a1 a2 a3 a4 y0 y1 y2 y3 y4 m3
  have e0 := hA1.frozen 0
  have e4 := hA1.frozen 4
  have z0 := hB1.frozen 0
  have z1 := hB1.frozen 1
  have z2 := hB1.frozen 2
  have z3 := hB1.frozen 3
  have z4 := hB1.frozen 4
  clear hw1 hf1 hA1 hB1 hM1 hc2 hc3
  go_wp2_with fail
  refine bodyPost_ret (v := .tuple #[.agg #[.int .i64 s.state, .int .i64 s.own, .int .i64 s.other, .int .u64 s.nonce, .int .u64 s.echo], .slice none 0 0]) (by simp [results, Try.results53, go_sem, y0, y1, y2, y3, y4]) rfl ?_
  exact SkSent.none HN.out (HF1.out.step ((((((Fr.refl [w.heap.size, w.heap.size + 1 + 1] w1).cset _ _ (.inl (by simp))).cset _ _ (.inl (by simp))).cset _ _ (.inl (by simp))).cset _ _ (.inl (by simp))).cset _ _ (.inl (by simp))) (by simp; omega))

set_option maxRecDepth 100000 in
set_option maxHeartbeats 2000000 in
theorem ha_5 (w : World) (b mb : Nat) (lv : Value) (L : List En) (s : Sk) (m : Mg) (g off nc : Nat) (aa ba : Option Addr) (ac bc x3 x : Nat) (HS : Hid s.Wf) (HN : Hid (NotIn w b mb lv L)) (HNL : Hid (∀ q, q ∈ NBlocks b mb lv → q < w.heap.size)) (hlen : L.length ≤ 100000) (HEC : Hid (x < 18446744073709551616))
    (hi1 : (2 : Int) < (m.nums.length : Int)) (hi3 : (3 : Int) < (m.nums.length : Int))
    (hc2 : ∀ o1 o2 o3, (((w.alloc o1).alloc o2).alloc o3).cell? ⟨g, off + 2, none⟩ = some (.int .u64 x)) (hc3 : ∀ o1 o2 o3, (((w.alloc o1).alloc o2).alloc o3).cell? ⟨g, off + 3, none⟩ = some (.int .u64 x3)) (d1 : ((x3 : Int) != (s.nonce : Int)) = false) (d2 : ((x : Int) == 0) = false) (d6 : 0 < m.body.length) :
    Calls Try.prog 53 #[.agg #[.int .i64 1, .int .i64 s.own, .int .i64 s.other, .int .u64 s.nonce, .int .u64 s.echo], .pointer (some ⟨b, 0, none⟩), .agg #[.int .i64 m.kind, .slice (some ⟨g, off, none⟩) m.nums.length nc, .slice aa m.addrs.length ac, .slice ba m.body.length bc]] w fun e w' => SkSent w w' b mb lv { s with state := 3, echo := x } (L, []) e := by
  have u := And.intro HS (And.intro HNL (And.intro hlen HEC))
  clear u HS HNL hlen HEC
  go_enter Try.func53, Try.ntmps53
  go_wp2_with fail
  go_quiet (fail)
  obtain ⟨w1, hw1⟩ : ∃ w1, ((((w.alloc (.cells #[.int .i64 1, .int .i64 s.own, .int .i64 s.other, .int .u64 s.nonce, .int .u64 s.echo] 46)).alloc (.cells #[.int .i64 m.kind, .slice (some ⟨g, off, none⟩) m.nums.length nc, .slice aa m.addrs.length ac, .slice ba m.body.length bc] 56)).alloc (.cells #[.int .i64 0, .int .i64 0, .int .i64 0, .int .u64 0, .int .u64 0] 46)).drewN nq) = w1 := ⟨_, rfl⟩
  rw [hw1]
  have hf1 : Fr [] w w1 := by
    rw [← hw1]
    exact ((((Fr.refl [] w).calloc _).calloc _).calloc _).cdrewN nq
  have hA1 : Cells w1 w.heap.size 46 [.int .i64 1, .int .i64 s.own, .int .i64 s.other, .int .u64 s.nonce, .int .u64 s.echo] := by
    rw [← hw1]
    exact (((Cells.new w _ _).alloc _).alloc _).drewN nq
  have hM1 : Cells w1 (w.heap.size + 1) 56 [.int .i64 m.kind, .slice (some ⟨g, off, none⟩) m.nums.length nc, .slice aa m.addrs.length ac, .slice ba m.body.length bc] := by
    rw [← hw1]
    have := Cells.new (w.alloc (.cells #[.int .i64 1, .int .i64 s.own, .int .i64 s.other, .int .u64 s.nonce, .int .u64 s.echo] 46)) 56 [.int .i64 m.kind, .slice (some ⟨g, off, none⟩) m.nums.length nc, .slice aa m.addrs.length ac, .slice ba m.body.length bc]
    rw [World.size_alloc] at this
    exact (this.alloc _).drewN nq
  have hB1 : Cells w1 (w.heap.size + 1 + 1) 46 [.int .i64 0, .int .i64 0, .int .i64 0, .int .u64 0, .int .u64 0] := by
    rw [← hw1]
    have := Cells.new ((w.alloc (.cells #[.int .i64 1, .int .i64 s.own, .int .i64 s.other, .int .u64 s.nonce, .int .u64 s.echo] 46)).alloc (.cells #[.int .i64 m.kind, .slice (some ⟨g, off, none⟩) m.nums.length nc, .slice aa m.addrs.length ac, .slice ba m.body.length bc] 56)) 46 [.int .i64 0, .int .i64 0, .int .i64 0, .int .u64 0, .int .u64 0]
    rw [World.size_alloc, World.size_alloc] at this
    exact this.drewN nq
  have HF1 := Lib.hid hf1
  have HA1 := Lib.hid hA1
  have HM1 := Lib.hid hM1
  have HB1 := Lib.hid hB1
  have a0 := hA1.cell 0
  have a1 := hA1.cell 1
  have a2 := hA1.cell 2
  have a3 := hA1.cell 3
  have a4 := hA1.cell 4
  have y0 := hB1.cell 0
  have y1 := hB1.cell 1
  have y2 := hB1.cell 2
  have y3 := hB1.cell 3
  have y4 := hB1.cell 4
  have m3 := hM1.cell 3
  simp only [List.getElem?_cons_zero, List.getElem?_cons_succ] at a0 a1 a2 a3 a4 y0 y1 y2 y3 y4 m3
  have e0 := hA1.frozen 0
  have e4 := hA1.frozen 4
  have z0 := hB1.frozen 0
  have z1 := hB1.frozen 1
  have z2 := hB1.frozen 2
  have z3 := hB1.frozen 3
  have z4 := hB1.frozen 4
  clear hw1 hf1 hA1 hB1 hM1 hc2 hc3
  go_wp2_with fail
  refine bodyPost_ret (v := .tuple #[.agg #[.int .i64 3, .int .i64 s.own, .int .i64 s.other, .int .u64 s.nonce, .int .u64 x], .slice none 0 0]) (by simp [results, Try.results53, go_sem, y0, y1, y2, y3, y4]) rfl ?_
  exact SkSent.none HN.out (HF1.out.step ((((((((Fr.refl [w.heap.size, w.heap.size + 1 + 1] w1).cset _ _ (.inl (by simp))).cset _ _ (.inl (by simp))).cset _ _ (.inl (by simp))).cset _ _ (.inl (by simp))).cset _ _ (.inl (by simp))).cset _ _ (.inl (by simp))).cset _ _ (.inl (by simp))) (by simp; omega))

set_option maxRecDepth 100000 in
set_option maxHeartbeats 2000000 in
theorem ha_6 (w : World) (b mb : Nat) (lv : Value) (L : List En) (s : Sk) (m : Mg) (g off nc : Nat) (aa ba : Option Addr) (ac bc x3 x : Nat) (HS : Hid s.Wf) (HN : Hid (NotIn w b mb lv L)) (HNL : Hid (∀ q, q ∈ NBlocks b mb lv → q < w.heap.size)) (hlen : L.length ≤ 100000) (HEC : Hid (x < 18446744073709551616))
    (hi1 : (2 : Int) < (m.nums.length : Int)) (hi3 : (3 : Int) < (m.nums.length : Int))
    (hc2 : ∀ o1 o2 o3, (((w.alloc o1).alloc o2).alloc o3).cell? ⟨g, off + 2, none⟩ = some (.int .u64 x)) (hc3 : ∀ o1 o2 o3, (((w.alloc o1).alloc o2).alloc o3).cell? ⟨g, off + 3, none⟩ = some (.int .u64 x3)) (d1 : ((x3 : Int) != (s.nonce : Int)) = false) (d2 : ((x : Int) == 0) = false) (d3 : (s.state == 0) = false) (d4 : (s.state != 1) = true) (d5 : ((x : Int) != (s.echo : Int)) = false) (d6 : 0 < m.body.length) :
    Calls Try.prog 53 #[.agg #[.int .i64 s.state, .int .i64 s.own, .int .i64 s.other, .int .u64 s.nonce, .int .u64 s.echo], .pointer (some ⟨b, 0, none⟩), .agg #[.int .i64 m.kind, .slice (some ⟨g, off, none⟩) m.nums.length nc, .slice aa m.addrs.length ac, .slice ba m.body.length bc]] w fun e w' => SkSent w w' b mb lv { s with state := 3, echo := x } (L, []) e := by
  have u := And.intro HS (And.intro HNL (And.intro hlen HEC))
  clear u HS HNL hlen HEC
  go_enter Try.func53, Try.ntmps53
  go_wp2_with fail
  go_quiet (fail)
  obtain ⟨w1, hw1⟩ : ∃ w1, ((((w.alloc (.cells #[.int .i64 s.state, .int .i64 s.own, .int .i64 s.other, .int .u64 s.nonce, .int .u64 s.echo] 46)).alloc (.cells #[.int .i64 m.kind, .slice (some ⟨g, off, none⟩) m.nums.length nc, .slice aa m.addrs.length ac, .slice ba m.body.length bc] 56)).alloc (.cells #[.int .i64 0, .int .i64 0, .int .i64 0, .int .u64 0, .int .u64 0] 46)).drewN nq) = w1 := ⟨_, rfl⟩
  rw [hw1]
  have hf1 : Fr [] w w1 := by
    rw [← hw1]
    exact ((((Fr.refl [] w).calloc _).calloc _).calloc _).cdrewN nq
  have hA1 : Cells w1 w.heap.size 46 [.int .i64 s.state, .int .i64 s.own, .int .i64 s.other, .int .u64 s.nonce, .int .u64 s.echo] := by
    rw [← hw1]
    exact (((Cells.new w _ _).alloc _).alloc _).drewN nq
  have hM1 : Cells w1 (w.heap.size + 1) 56 [.int .i64 m.kind, .slice (some ⟨g, off, none⟩) m.nums.length nc, .slice aa m.addrs.length ac, .slice ba m.body.length bc] := by
    rw [← hw1]
    have := Cells.new (w.alloc (.cells #[.int .i64 s.state, .int .i64 s.own, .int .i64 s.other, .int .u64 s.nonce, .int .u64 s.echo] 46)) 56 [.int .i64 m.kind, .slice (some ⟨g, off, none⟩) m.nums.length nc, .slice aa m.addrs.length ac, .slice ba m.body.length bc]
    rw [World.size_alloc] at this
    exact (this.alloc _).drewN nq
  have hB1 : Cells w1 (w.heap.size + 1 + 1) 46 [.int .i64 0, .int .i64 0, .int .i64 0, .int .u64 0, .int .u64 0] := by
    rw [← hw1]
    have := Cells.new ((w.alloc (.cells #[.int .i64 s.state, .int .i64 s.own, .int .i64 s.other, .int .u64 s.nonce, .int .u64 s.echo] 46)).alloc (.cells #[.int .i64 m.kind, .slice (some ⟨g, off, none⟩) m.nums.length nc, .slice aa m.addrs.length ac, .slice ba m.body.length bc] 56)) 46 [.int .i64 0, .int .i64 0, .int .i64 0, .int .u64 0, .int .u64 0]
    rw [World.size_alloc, World.size_alloc] at this
    exact this.drewN nq
  have HF1 := Lib.hid hf1
  have HA1 := Lib.hid hA1
  have HM1 := Lib.hid hM1
  have HB1 := Lib.hid hB1
  have a0 := hA1.cell 0
  have a1 := hA1.cell 1
  have a2 := hA1.cell 2
  have a3 := hA1.cell 3
  have a4 := hA1.cell 4
  have y0 := hB1.cell 0
  have y1 := hB1.cell 1
  have y2 := hB1.cell 2
  have y3 := hB1.cell 3
  have y4 := hB1.cell 4
  have m3 := hM1.cell 3
  simp only [List.getElem?_cons_zero, List.getElem?_cons_succ] at a0 a1 a2 a3 a4 y0 y1 y2 y3 y4 m3
  have e0 := hA1.frozen 0
  have e4 := hA1.frozen 4
  have z0 := hB1.frozen 0
  have z1 := hB1.frozen 1
  have z2 := hB1.frozen 2
  have z3 := hB1.frozen 3
  have z4 := hB1.frozen 4
  clear hw1 hf1 hA1 hB1 hM1 hc2 hc3
  go_wp2_with fail
  refine bodyPost_ret (v := .tuple #[.agg #[.int .i64 3, .int .i64 s.own, .int .i64 s.other, .int .u64 s.nonce, .int .u64 x], .slice none 0 0]) (by simp [results, Try.results53, go_sem, y0, y1, y2, y3, y4]) rfl ?_
  exact SkSent.none HN.out (HF1.out.step ((((((((Fr.refl [w.heap.size, w.heap.size + 1 + 1] w1).cset _ _ (.inl (by simp))).cset _ _ (.inl (by simp))).cset _ _ (.inl (by simp))).cset _ _ (.inl (by simp))).cset _ _ (.inl (by simp))).cset _ _ (.inl (by simp))).cset _ _ (.inl (by simp))) (by simp; omega))

set_option maxRecDepth 100000 in
set_option maxHeartbeats 2000000 in
theorem ha_7 (w : World) (b mb : Nat) (lv : Value) (L : List En) (s : Sk) (m : Mg) (g off nc : Nat) (aa ba : Option Addr) (ac bc x3 x : Nat) (HS : Hid s.Wf) (HN : Hid (NotIn w b mb lv L)) (HNL : Hid (∀ q, q ∈ NBlocks b mb lv → q < w.heap.size)) (hlen : L.length ≤ 100000) (HEC : Hid (x < 18446744073709551616))
    (hi1 : (2 : Int) < (m.nums.length : Int)) (hi3 : (3 : Int) < (m.nums.length : Int))
    (hc2 : ∀ o1 o2 o3, (((w.alloc o1).alloc o2).alloc o3).cell? ⟨g, off + 2, none⟩ = some (.int .u64 x)) (hc3 : ∀ o1 o2 o3, (((w.alloc o1).alloc o2).alloc o3).cell? ⟨g, off + 3, none⟩ = some (.int .u64 x3)) (d1 : ((x3 : Int) != (s.nonce : Int)) = false) (d2 : ((x : Int) == 0) = false) (d6 : ¬ 0 < m.body.length) :
    Calls Try.prog 53 #[.agg #[.int .i64 1, .int .i64 s.own, .int .i64 s.other, .int .u64 s.nonce, .int .u64 s.echo], .pointer (some ⟨b, 0, none⟩), .agg #[.int .i64 m.kind, .slice (some ⟨g, off, none⟩) m.nums.length nc, .slice aa m.addrs.length ac, .slice ba m.body.length bc]] w fun e w' => SkSent w w' b mb lv { s with state := 3, echo := x } (made L 2 s.own [1] [s.other, s.nonce, x]) e := by
  go_enter Try.func53, Try.ntmps53
  go_wp2_with fail
  go_quiet (fail)
  obtain ⟨w1, hw1⟩ : ∃ w1, ((((w.alloc (.cells #[.int .i64 1, .int .i64 s.own, .int .i64 s.other, .int .u64 s.nonce, .int .u64 s.echo] 46)).alloc (.cells #[.int .i64 m.kind, .slice (some ⟨g, off, none⟩) m.nums.length nc, .slice aa m.addrs.length ac, .slice ba m.body.length bc] 56)).alloc (.cells #[.int .i64 0, .int .i64 0, .int .i64 0, .int .u64 0, .int .u64 0] 46)).drewN nq) = w1 := ⟨_, rfl⟩
  rw [hw1]
  have hf1 : Fr [] w w1 := by
    rw [← hw1]
    exact ((((Fr.refl [] w).calloc _).calloc _).calloc _).cdrewN nq
  have hA1 : Cells w1 w.heap.size 46 [.int .i64 1, .int .i64 s.own, .int .i64 s.other, .int .u64 s.nonce, .int .u64 s.echo] := by
    rw [← hw1]
    exact (((Cells.new w _ _).alloc _).alloc _).drewN nq
  have hM1 : Cells w1 (w.heap.size + 1) 56 [.int .i64 m.kind, .slice (some ⟨g, off, none⟩) m.nums.length nc, .slice aa m.addrs.length ac, .slice ba m.body.length bc] := by
    rw [← hw1]
    have := Cells.new (w.alloc (.cells #[.int .i64 1, .int .i64 s.own, .int .i64 s.other, .int .u64 s.nonce, .int .u64 s.echo] 46)) 56 [.int .i64 m.kind, .slice (some ⟨g, off, none⟩) m.nums.length nc, .slice aa m.addrs.length ac, .slice ba m.body.length bc]
    rw [World.size_alloc] at this
    exact (this.alloc _).drewN nq
  have hB1 : Cells w1 (w.heap.size + 1 + 1) 46 [.int .i64 0, .int .i64 0, .int .i64 0, .int .u64 0, .int .u64 0] := by
    rw [← hw1]
    have := Cells.new ((w.alloc (.cells #[.int .i64 1, .int .i64 s.own, .int .i64 s.other, .int .u64 s.nonce, .int .u64 s.echo] 46)).alloc (.cells #[.int .i64 m.kind, .slice (some ⟨g, off, none⟩) m.nums.length nc, .slice aa m.addrs.length ac, .slice ba m.body.length bc] 56)) 46 [.int .i64 0, .int .i64 0, .int .i64 0, .int .u64 0, .int .u64 0]
    rw [World.size_alloc, World.size_alloc] at this
    exact this.drewN nq
  have HF1 := Lib.hid hf1
  have HA1 := Lib.hid hA1
  have HM1 := Lib.hid hM1
  have HB1 := Lib.hid hB1
  have a0 := hA1.cell 0
  have a1 := hA1.cell 1
  have a2 := hA1.cell 2
  have a3 := hA1.cell 3
  have a4 := hA1.cell 4
  have y0 := hB1.cell 0
  have y1 := hB1.cell 1
  have y2 := hB1.cell 2
  have y3 := hB1.cell 3
  have y4 := hB1.cell 4
  have m3 := hM1.cell 3
  simp only [List.getElem?_cons_zero, List.getElem?_cons_succ] at a0 a1 a2 a3 a4 y0 y1 y2 y3 y4 m3
  have e0 := hA1.frozen 0
  have e4 := hA1.frozen 4
  have z0 := hB1.frozen 0
  have z1 := hB1.frozen 1
  have z2 := hB1.frozen 2
  have z3 := hB1.frozen 3
  have z4 := hB1.frozen 4
  clear hw1 hf1 hA1 hB1 hM1 hc2 hc3
  go_wp2_with fail
  obtain ⟨w2, hw2⟩ : ∃ w2, (w1.setCell ⟨w.heap.size, 0, none⟩ (.int .i64 3)).setCell ⟨w.heap.size, 4, none⟩ (.int .u64 x) = w2 := ⟨_, rfl⟩
  rw [hw2]
  have hf2 : Fr [w.heap.size] w1 w2 := by
    rw [← hw2]
    exact ((Fr.refl _ _).cset _ _ (.inl (by simp))).cset _ _ (.inl (by simp))
  have hA2 : Cells w2 w.heap.size 46 [.int .i64 3, .int .i64 s.own, .int .i64 s.other, .int .u64 s.nonce, .int .u64 x] := by
    rw [← hw2]
    exact ((HA1.out.set 0 _).set 4 _).as (by simp)
  have HB2 := Lib.hid (HB1.out.fr hf2 (by simp; omega))
  have HF2 := Lib.hid (HF1.out.step hf2 (by simp))
  have HA2 := Lib.hid hA2
  clear hw2 hf2 hA2 a0 a1 a2 a3 a4 y0 y1 y2 y3 y4 m3 e0 e4 z0 z1 z2 z3 z4
  have a0 := HA2.out.cell 0
  have a1 := HA2.out.cell 1
  have a2 := HA2.out.cell 2
  have a3 := HA2.out.cell 3
  have a4 := HA2.out.cell 4
  simp only [List.getElem?_cons_zero, List.getElem?_cons_succ] at a0 a1 a2 a3 a4
  have EG : Hid (∀ args w, (callFunc 64 args).run Try.prog w = .ok (.enter 64 args) w) := enters_of Try.func64 (by kernel_rfl) rfl
  have EG0 : Hid (∀ args w, (callFunc 90 args).run Try.prog w = .ok (.enter 90 args) w) := enters_of Try.func90 (by kernel_rfl) rfl
  have hz1 : w.heap.size + 1 + 1 < w2.heap.size := HB2.out.lt
  go_region_law (first
    | (refine step_callN rfl 90 #[] _ rfl EG0.out #[] (by rfl) (sk_last w2.drew) ?_
       rintro e w9 ⟨v9, rfl, ho9, hf9⟩
       refine ⟨v9, rfl, ?_⟩
       have HO9 := Lib.hid ho9
       have HF9 := Lib.hid hf9
       have HA9 := Lib.hid (HA2.out.drew.fr hf9 (by simp))
       have HB9 := Lib.hid (HB2.out.drew.fr hf9 (by simp))
       have b0 := HA9.out.cell 0
       have b1 := HA9.out.cell 1
       have b2 := HA9.out.cell 2
       have b3 := HA9.out.cell 3
       have b4 := HA9.out.cell 4
       simp only [List.getElem?_cons_zero, List.getElem?_cons_succ] at b0 b1 b2 b3 b4
       clear ho9 hf9)
    | (refine step_callN rfl 64 #[.tmp 51, .tmp 52, .tmp 53] _ rfl EG.out #[skV ⟨3, s.own, s.other, s.nonce, x⟩, .pointer (some ⟨b, 0, none⟩), v9] (by rfl) (sk_answer w9 b mb lv L ⟨3, s.own, s.other, s.nonce, x⟩ ⟨HS.out.own, HS.out.other, HS.out.nonce, HEC.out⟩ v9 [1] (HN.out.fr ((HF2.out.cdrew).trans HF9.out) (by simp)) (sl_of_own HO9.out) (fun g hg hm => by have h1 : w2.heap.size ≤ g := own_ge HO9.out hg; have h2 := HNL.out _ hm; have h3 := HF2.out.size; omega) hlen) ?_
       rintro e w2 ⟨v2, rfl, hs2⟩
       refine ⟨v2, rfl, ?_⟩
       have HS2 := Lib.hid hs2
       have hf2 := hs2.2.2.1
       have HA2 := Lib.hid (HA9.out.fr hf2 (fun hm => by have := HNL.out _ hm; omega))
       have HB2 := Lib.hid (HB9.out.fr hf2 (fun hm => by have := HNL.out _ hm; omega))
       have x0 := HA2.out.cell 0
       have x1 := HA2.out.cell 1
       have x2 := HA2.out.cell 2
       have x3 := HA2.out.cell 3
       have x4 := HA2.out.cell 4
       have y0 := HB2.out.cell 0
       have y1 := HB2.out.cell 1
       have y2 := HB2.out.cell 2
       have y3 := HB2.out.cell 3
       have y4 := HB2.out.cell 4
       simp only [List.getElem?_cons_zero, List.getElem?_cons_succ] at x0 x1 x2 x3 x4 y0 y1 y2 y3 y4
       have z0 := HB2.out.frozen 0
       have z1 := HB2.out.frozen 1
       have z2 := HB2.out.frozen 2
       have z3 := HB2.out.frozen 3
       have z4 := HB2.out.frozen 4
       clear hs2 hf2))
  all_goals
    go_wp2_with fail
    refine bodyPost_ret (v := .tuple #[.agg #[.int .i64 3, .int .i64 s.own, .int .i64 s.other, .int .u64 s.nonce, .int .u64 x], v2]) (by simp [results, Try.results53, go_sem, y0, y1, y2, y3, y4]) rfl ?_
    refine ⟨v2, rfl, SentAt.finish (r := w.heap.size + 1 + 1) HS2.out ((HF2.out.cdrew).trans HF9.out) ?_ (by omega) HB9.out.lt HNL.out⟩
    exact (((((Fr.refl _ w2).cset _ _ (.inl (by simp))).cset _ _ (.inl (by simp))).cset _ _ (.inl (by simp))).cset _ _ (.inl (by simp))).cset _ _ (.inl (by simp))

set_option maxRecDepth 100000 in
set_option maxHeartbeats 2000000 in
theorem ha_8 (w : World) (b mb : Nat) (lv : Value) (L : List En) (s : Sk) (m : Mg) (g off nc : Nat) (aa ba : Option Addr) (ac bc x3 x : Nat) (HS : Hid s.Wf) (HN : Hid (NotIn w b mb lv L)) (HNL : Hid (∀ q, q ∈ NBlocks b mb lv → q < w.heap.size)) (hlen : L.length ≤ 100000) (HEC : Hid (x < 18446744073709551616))
    (hi1 : (2 : Int) < (m.nums.length : Int)) (hi3 : (3 : Int) < (m.nums.length : Int))
    (hc2 : ∀ o1 o2 o3, (((w.alloc o1).alloc o2).alloc o3).cell? ⟨g, off + 2, none⟩ = some (.int .u64 x)) (hc3 : ∀ o1 o2 o3, (((w.alloc o1).alloc o2).alloc o3).cell? ⟨g, off + 3, none⟩ = some (.int .u64 x3)) (d1 : ((x3 : Int) != (s.nonce : Int)) = false) (d2 : ((x : Int) == 0) = false) (d3 : (s.state == 0) = false) (d4 : (s.state != 1) = true) (d5 : ((x : Int) != (s.echo : Int)) = false) (d6 : ¬ 0 < m.body.length) :
    Calls Try.prog 53 #[.agg #[.int .i64 s.state, .int .i64 s.own, .int .i64 s.other, .int .u64 s.nonce, .int .u64 s.echo], .pointer (some ⟨b, 0, none⟩), .agg #[.int .i64 m.kind, .slice (some ⟨g, off, none⟩) m.nums.length nc, .slice aa m.addrs.length ac, .slice ba m.body.length bc]] w fun e w' => SkSent w w' b mb lv { s with state := 3, echo := x } (made L 2 s.own [1] [s.other, s.nonce, x]) e := by
  go_enter Try.func53, Try.ntmps53
  go_wp2_with fail
  go_quiet (fail)
  obtain ⟨w1, hw1⟩ : ∃ w1, ((((w.alloc (.cells #[.int .i64 s.state, .int .i64 s.own, .int .i64 s.other, .int .u64 s.nonce, .int .u64 s.echo] 46)).alloc (.cells #[.int .i64 m.kind, .slice (some ⟨g, off, none⟩) m.nums.length nc, .slice aa m.addrs.length ac, .slice ba m.body.length bc] 56)).alloc (.cells #[.int .i64 0, .int .i64 0, .int .i64 0, .int .u64 0, .int .u64 0] 46)).drewN nq) = w1 := ⟨_, rfl⟩
  rw [hw1]
  have hf1 : Fr [] w w1 := by
    rw [← hw1]
    exact ((((Fr.refl [] w).calloc _).calloc _).calloc _).cdrewN nq
  have hA1 : Cells w1 w.heap.size 46 [.int .i64 s.state, .int .i64 s.own, .int .i64 s.other, .int .u64 s.nonce, .int .u64 s.echo] := by
    rw [← hw1]
    exact (((Cells.new w _ _).alloc _).alloc _).drewN nq
  have hM1 : Cells w1 (w.heap.size + 1) 56 [.int .i64 m.kind, .slice (some ⟨g, off, none⟩) m.nums.length nc, .slice aa m.addrs.length ac, .slice ba m.body.length bc] := by
    rw [← hw1]
    have := Cells.new (w.alloc (.cells #[.int .i64 s.state, .int .i64 s.own, .int .i64 s.other, .int .u64 s.nonce, .int .u64 s.echo] 46)) 56 [.int .i64 m.kind, .slice (some ⟨g, off, none⟩) m.nums.length nc, .slice aa m.addrs.length ac, .slice ba m.body.length bc]
    rw [World.size_alloc] at this
    exact (this.alloc _).drewN nq
  have hB1 : Cells w1 (w.heap.size + 1 + 1) 46 [.int .i64 0, .int .i64 0, .int .i64 0, .int .u64 0, .int .u64 0] := by
    rw [← hw1]
    have := Cells.new ((w.alloc (.cells #[.int .i64 s.state, .int .i64 s.own, .int .i64 s.other, .int .u64 s.nonce, .int .u64 s.echo] 46)).alloc (.cells #[.int .i64 m.kind, .slice (some ⟨g, off, none⟩) m.nums.length nc, .slice aa m.addrs.length ac, .slice ba m.body.length bc] 56)) 46 [.int .i64 0, .int .i64 0, .int .i64 0, .int .u64 0, .int .u64 0]
    rw [World.size_alloc, World.size_alloc] at this
    exact this.drewN nq
  have HF1 := Lib.hid hf1
  have HA1 := Lib.hid hA1
  have HM1 := Lib.hid hM1
  have HB1 := Lib.hid hB1
  have a0 := hA1.cell 0
  have a1 := hA1.cell 1
  have a2 := hA1.cell 2
  have a3 := hA1.cell 3
  have a4 := hA1.cell 4
  have y0 := hB1.cell 0
  have y1 := hB1.cell 1
  have y2 := hB1.cell 2
  have y3 := hB1.cell 3
  have y4 := hB1.cell 4
  have m3 := hM1.cell 3
  simp only [List.getElem?_cons_zero, List.getElem?_cons_succ] at a0 a1 a2 a3 a4 y0 y1 y2 y3 y4 m3
  have e0 := hA1.frozen 0
  have e4 := hA1.frozen 4
  have z0 := hB1.frozen 0
  have z1 := hB1.frozen 1
  have z2 := hB1.frozen 2
  have z3 := hB1.frozen 3
  have z4 := hB1.frozen 4
  clear hw1 hf1 hA1 hB1 hM1 hc2 hc3
  go_wp2_with fail
  obtain ⟨w2, hw2⟩ : ∃ w2, (w1.setCell ⟨w.heap.size, 0, none⟩ (.int .i64 3)).setCell ⟨w.heap.size, 4, none⟩ (.int .u64 x) = w2 := ⟨_, rfl⟩
  rw [hw2]
  have hf2 : Fr [w.heap.size] w1 w2 := by
    rw [← hw2]
    exact ((Fr.refl _ _).cset _ _ (.inl (by simp))).cset _ _ (.inl (by simp))
  have hA2 : Cells w2 w.heap.size 46 [.int .i64 3, .int .i64 s.own, .int .i64 s.other, .int .u64 s.nonce, .int .u64 x] := by
    rw [← hw2]
    exact ((HA1.out.set 0 _).set 4 _).as (by simp)
  have HB2 := Lib.hid (HB1.out.fr hf2 (by simp; omega))
  have HF2 := Lib.hid (HF1.out.step hf2 (by simp))
  have HA2 := Lib.hid hA2
  clear hw2 hf2 hA2 a0 a1 a2 a3 a4 y0 y1 y2 y3 y4 m3 e0 e4 z0 z1 z2 z3 z4
  have a0 := HA2.out.cell 0
  have a1 := HA2.out.cell 1
  have a2 := HA2.out.cell 2
  have a3 := HA2.out.cell 3
  have a4 := HA2.out.cell 4
  simp only [List.getElem?_cons_zero, List.getElem?_cons_succ] at a0 a1 a2 a3 a4
  have EG : Hid (∀ args w, (callFunc 64 args).run Try.prog w = .ok (.enter 64 args) w) := enters_of Try.func64 (by kernel_rfl) rfl
  have EG0 : Hid (∀ args w, (callFunc 90 args).run Try.prog w = .ok (.enter 90 args) w) := enters_of Try.func90 (by kernel_rfl) rfl
  have hz1 : w.heap.size + 1 + 1 < w2.heap.size := HB2.out.lt
  go_region_law (first
    | (refine step_callN rfl 90 #[] _ rfl EG0.out #[] (by rfl) (sk_last w2.drew) ?_
       rintro e w9 ⟨v9, rfl, ho9, hf9⟩
       refine ⟨v9, rfl, ?_⟩
       have HO9 := Lib.hid ho9
       have HF9 := Lib.hid hf9
       have HA9 := Lib.hid (HA2.out.drew.fr hf9 (by simp))
       have HB9 := Lib.hid (HB2.out.drew.fr hf9 (by simp))
       have b0 := HA9.out.cell 0
       have b1 := HA9.out.cell 1
       have b2 := HA9.out.cell 2
       have b3 := HA9.out.cell 3
       have b4 := HA9.out.cell 4
       simp only [List.getElem?_cons_zero, List.getElem?_cons_succ] at b0 b1 b2 b3 b4
       clear ho9 hf9)
    | (refine step_callN rfl 64 #[.tmp 51, .tmp 52, .tmp 53] _ rfl EG.out #[skV ⟨3, s.own, s.other, s.nonce, x⟩, .pointer (some ⟨b, 0, none⟩), v9] (by rfl) (sk_answer w9 b mb lv L ⟨3, s.own, s.other, s.nonce, x⟩ ⟨HS.out.own, HS.out.other, HS.out.nonce, HEC.out⟩ v9 [1] (HN.out.fr ((HF2.out.cdrew).trans HF9.out) (by simp)) (sl_of_own HO9.out) (fun g hg hm => by have h1 : w2.heap.size ≤ g := own_ge HO9.out hg; have h2 := HNL.out _ hm; have h3 := HF2.out.size; omega) hlen) ?_
       rintro e w2 ⟨v2, rfl, hs2⟩
       refine ⟨v2, rfl, ?_⟩
       have HS2 := Lib.hid hs2
       have hf2 := hs2.2.2.1
       have HA2 := Lib.hid (HA9.out.fr hf2 (fun hm => by have := HNL.out _ hm; omega))
       have HB2 := Lib.hid (HB9.out.fr hf2 (fun hm => by have := HNL.out _ hm; omega))
       have x0 := HA2.out.cell 0
       have x1 := HA2.out.cell 1
       have x2 := HA2.out.cell 2
       have x3 := HA2.out.cell 3
       have x4 := HA2.out.cell 4
       have y0 := HB2.out.cell 0
       have y1 := HB2.out.cell 1
       have y2 := HB2.out.cell 2
       have y3 := HB2.out.cell 3
       have y4 := HB2.out.cell 4
       simp only [List.getElem?_cons_zero, List.getElem?_cons_succ] at x0 x1 x2 x3 x4 y0 y1 y2 y3 y4
       have z0 := HB2.out.frozen 0
       have z1 := HB2.out.frozen 1
       have z2 := HB2.out.frozen 2
       have z3 := HB2.out.frozen 3
       have z4 := HB2.out.frozen 4
       clear hs2 hf2))
  all_goals
    go_wp2_with fail
    refine bodyPost_ret (v := .tuple #[.agg #[.int .i64 3, .int .i64 s.own, .int .i64 s.other, .int .u64 s.nonce, .int .u64 x], v2]) (by simp [results, Try.results53, go_sem, y0, y1, y2, y3, y4]) rfl ?_
    refine ⟨v2, rfl, SentAt.finish (r := w.heap.size + 1 + 1) HS2.out ((HF2.out.cdrew).trans HF9.out) ?_ (by omega) HB9.out.lt HNL.out⟩
    exact (((((Fr.refl _ w2).cset _ _ (.inl (by simp))).cset _ _ (.inl (by simp))).cset _ _ (.inl (by simp))).cset _ _ (.inl (by simp))).cset _ _ (.inl (by simp))

set_option maxRecDepth 100000 in
set_option maxHeartbeats 8000000 in
theorem sk_hearAnswer (w : World) (b mb : Nat) (lv : Value) (L : List En) (s : Sk) (m : Mg) (nv av bv : Value) (hs : s.Wf) (hN : NotIn w b mb lv L) (h : MsgAt w nv av bv m) (hl : 4 ≤ m.nums.length) (hlen : L.length ≤ 100000) :
    Calls Try.prog 53 #[skV s, .pointer (some ⟨b, 0, none⟩), mgV m nv av bv] w fun e w' => SkSent w w' b mb lv (hearAnswer L s m).1 (hearAnswer L s m).2 e := by
  have HN := Lib.hid hN
  have HS := Lib.hid hs
  have H := Lib.hid h
  have HNL : Hid (∀ q, q ∈ NBlocks b mb lv → q < w.heap.size) := NotIn.blt hN
  obtain ⟨na, nc, hnv⟩ := h.nums.shape
  obtain ⟨aa, ac, hav⟩ := ads_shape h.addrs
  obtain ⟨ba, bc, hbv⟩ := h.body.shape
  rw [u64s_length] at hnv
  rw [u8s_length] at hbv
  clear h hN hs
  subst hnv hav hbv
  obtain ⟨g, off, hna, hg, hc2⟩ := sl_some (k := 2) H.out.nums (by simp [u64s]; omega)
  obtain ⟨g', off', hna', _, hc3⟩ := sl_some (k := 3) H.out.nums (by simp [u64s]; omega)
  subst hna
  simp at hna'
  obtain ⟨rfl, rfl⟩ := hna'
  obtain ⟨x3, hx3⟩ : ∃ x3, m.nums[3]? = some x3 := ⟨_, List.getElem?_eq_getElem (by omega)⟩
  have HX3 : Hid (m.nums.getD 3 0 = x3) := by
    show _ = _
    simp [List.getD, hx3]
  simp only [u64s, List.getElem?_map, hx3, Option.map_some] at hc3
  clear hx3
  obtain ⟨x, hx⟩ : ∃ x, m.nums[2]? = some x := ⟨_, List.getElem?_eq_getElem (by omega)⟩
  have HX : Hid (m.nums.getD 2 0 = x) := by
    show _ = _
    simp [List.getD, hx]
  have hxlt : x < 18446744073709551616 := H.out.wf.nums x (List.mem_of_getElem? hx)
  have HXL := Lib.hid hxlt
  simp only [u64s, List.getElem?_map, hx, Option.map_some] at hc2
  clear hx hxlt
  have hi1 : (2 : Int) < (m.nums.length : Int) := by omega
  have hi3 : (3 : Int) < (m.nums.length : Int) := by omega
  have hc2 : ∀ o1 o2 o3, (((w.alloc o1).alloc o2).alloc o3).cell? ⟨g, off + 2, none⟩ = some (.int .u64 x) := fun o1 o2 o3 => (World.cell?_of_block (w := w) ((((Fr.refl [] w).calloc o1).calloc o2).calloc o3 |>.block g hg (by simp))).trans hc2
  have hc3 : ∀ o1 o2 o3, (((w.alloc o1).alloc o2).alloc o3).cell? ⟨g, off + 3, none⟩ = some (.int .u64 x3) := fun o1 o2 o3 => (World.cell?_of_block (w := w) ((((Fr.refl [] w).calloc o1).calloc o2).calloc o3 |>.block g hg (by simp))).trans hc3
  clear hl
  by_cases h1 : x3 ≠ s.nonce
  · have HV : hearAnswer L s m = (s, (L, [])) := by
      unfold hearAnswer
      rw [HX.out, HX3.out, if_pos (.inl h1)]
    rw [HV]
    unfold skV mgV
    exact ha_1 w b mb lv L s m g off nc aa ba ac bc x3 x HS HN HNL hlen HXL hi1 hi3 hc2 hc3 (by rw [bne_iff_ne]; omega)
  have d1 : ((x3 : Int) != (s.nonce : Int)) = false := by
    rw [Decidable.not_not] at h1
    simp [h1]
  by_cases h2 : x = 0
  · have HV : hearAnswer L s m = (s, (L, [])) := by
      unfold hearAnswer
      rw [HX.out, HX3.out, if_pos (.inr (.inl h2))]
    rw [HV]
    unfold skV mgV
    exact ha_2 w b mb lv L s m g off nc aa ba ac bc x3 x HS HN HNL hlen HXL hi1 hi3 hc2 hc3 d1 (by simp [h2])
  have d2 : ((x : Int) == 0) = false := by
    rw [beq_eq_false_iff_ne]
    omega
  by_cases h3 : s.state = 0
  · have HV : hearAnswer L s m = (s, (L, [])) := by
      unfold hearAnswer
      rw [HX.out, HX3.out, if_pos (.inr (.inr h3))]
    rw [HV]
    unfold skV mgV
    exact ha_3 w b mb lv L s m g off nc aa ba ac bc x3 x HS HN HNL hlen HXL hi1 hi3 hc2 hc3 d1 d2 (by simp [h3])
  have d3 : (s.state == 0) = false := by
    rw [beq_eq_false_iff_ne]
    exact h3
  have hnot : ¬ (x3 ≠ s.nonce ∨ x = 0 ∨ s.state = 0) := by
    rintro (h | h | h)
    · exact h1 h
    · exact h2 h
    · exact h3 h
  by_cases h4 : s.state ≠ 1 ∧ x ≠ s.echo
  · have HV : hearAnswer L s m = (s, (L, [])) := by
      unfold hearAnswer
      rw [HX.out, HX3.out, if_neg hnot, if_pos h4]
    rw [HV]
    unfold skV mgV
    exact ha_4 w b mb lv L s m g off nc aa ba ac bc x3 x HS HN HNL hlen HXL hi1 hi3 hc2 hc3 d1 d2 d3 (bne_iff_ne.2 h4.1) (by rw [bne_iff_ne]; omega)
  by_cases h6 : 0 < m.body.length
  · have HV : hearAnswer L s m = ({ s with state := 3, echo := x }, (L, [])) := by
      unfold hearAnswer
      rw [HX.out, HX3.out, if_neg hnot, if_neg h4, if_pos h6]
    rw [HV]
    have d6 := h6
    unfold skV mgV
    by_cases h5 : s.state = 1
    · rw [h5]
      exact ha_5 w b mb lv L s m g off nc aa ba ac bc x3 x HS HN HNL hlen HXL hi1 hi3 hc2 hc3 d1 d2 d6
    · have h7 : x = s.echo := by
        by_cases h : x = s.echo
        · exact h
        · exact absurd ⟨h5, h⟩ h4
      exact ha_6 w b mb lv L s m g off nc aa ba ac bc x3 x HS HN HNL hlen HXL hi1 hi3 hc2 hc3 d1 d2 d3 (bne_iff_ne.2 h5) (by simp [h7]) d6
  · have HV : hearAnswer L s m = ({ s with state := 3, echo := x }, made L 2 s.own [1] [s.other, s.nonce, x]) := by
      unfold hearAnswer
      rw [HX.out, HX3.out, if_neg hnot, if_neg h4, if_neg h6]
    rw [HV]
    have d6 := h6
    unfold skV mgV
    by_cases h5 : s.state = 1
    · rw [h5]
      exact ha_7 w b mb lv L s m g off nc aa ba ac bc x3 x HS HN HNL hlen HXL hi1 hi3 hc2 hc3 d1 d2 d6
    · have h7 : x = s.echo := by
        by_cases h : x = s.echo
        · exact h
        · exact absurd ⟨h5, h⟩ h4
      exact ha_8 w b mb lv L s m g off nc aa ba ac bc x3 x HS HN HNL hlen HXL hi1 hi3 hc2 hc3 d1 d2 d3 (bne_iff_ne.2 h5) (by simp [h7]) d6
end Go.Proofs.Ytjfmgpelkhgodaa
