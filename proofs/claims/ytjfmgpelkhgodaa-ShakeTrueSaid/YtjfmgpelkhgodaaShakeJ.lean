/- The walk of shake.Hear. -/
import Derived.Test.YtjfmgpelkhgodaaShakeI
namespace Go.Proofs.Ytjfmgpelkhgodaa
open Go.RowKit
attribute [local go_sem ↓ high] run_min_whole run_max_whole

theorem run_put_int {P : Program} {w : World} {mty kt et : TypeId} {r clock : Nat} {es : Array MapEntry} {n : Int} {val : Value} (hm : P.underlying mty = some (.map kt et)) (hk : P.underlying kt = some (.int .i64)) (hb : w.heap[r]? = some (.map es clock))
    (hf : Instr.findNow (.int .i64) (.int .i64 n) es.toList 0 = some none) : (Instr.mapUpdate mty (.map (some r)) (.int .i64 n) val).run P w = .ok () (w.putObj r (.map (es.push { key := .int .i64 n, val := val, born := clock }) (clock + 1))) := by
  have hc : (Instr.checkKey false 10000 kt (.int .i64 n)).run P w = .ok () w := MapKept.run_checkKey (k := .int .i64 n) hk (by simp [MapKept.IsKey]) false 9999
  simp [Instr.mapUpdate, run_underlying hm, MapKept.run_getObj_map hb, hc, MapKept.run_findKey hk hf, MapKept.run_setObj_map _ hb, Result.andThen, World.putObj]
theorem run_look_int {P : Program} {w : World} {mty kt et : TypeId} {r clock : Nat} {es : Array MapEntry} {n : Int} {i : Nat} {val : Value} (hm : P.underlying mty = some (.map kt et)) (hk : P.underlying kt = some (.int .i64)) (hb : w.heap[r]? = some (.map es clock))
    (hf : Instr.findNow (.int .i64) (.int .i64 n) es.toList 0 = some (some (i, val))) : (Instr.lookup mty (.map (some r)) (.int .i64 n) false).run P w = .ok val w := by
  have hc : ∀ e, (Instr.checkKey e 10000 kt (.int .i64 n)).run P w = .ok () w := fun e => MapKept.run_checkKey (k := .int .i64 n) hk (by simp [MapKept.IsKey]) e 9999
  simp [Instr.lookup, run_underlying hm, MapKept.run_getObj_map hb, hc, MapKept.run_findKey hk hf, Result.andThen]
theorem mfrom_wf {l : List UInt8} {m : Mg} (h : mfrom l = some m) : m.Wf := by
  obtain ⟨h1, h2, _⟩ := mfrom_ok h
  exact ⟨fun v hv => by have := h1.2.2.2.1 v hv; omega, h2⟩

set_option maxRecDepth 100000 in
set_option maxHeartbeats 400000 in
theorem hr_none (w : World) (b mb : Nat) (lv : Value) (L : List En) (s : Sk) (bv : Value) (l : List UInt8) (hN : NotIn w b mb lv L) (hb : SlEx w bv (u8s l)) (hmf : mfrom l = none) :
    Calls Try.prog 24 #[skV s, .pointer (some ⟨b, 0, none⟩), bv] w fun e w' => SkSent w w' b mb lv s (L, []) e := by
  have HN := Lib.hid hN
  have HB := Lib.hid hb
  have HMF := Lib.hid hmf
  clear hN hb hmf
  unfold skV
  go_enter Try.func24, Try.ntmps24
  go_wp2_with fail
  obtain ⟨w1, hw1⟩ : ∃ w1, (w.alloc (.cells #[.int .i64 s.state, .int .i64 s.own, .int .i64 s.other, .int .u64 s.nonce, .int .u64 s.echo] 46)).alloc (.cells #[.int .i64 0, .int .i64 0, .int .i64 0, .int .u64 0, .int .u64 0] 46) = w1 := ⟨_, rfl⟩
  rw [hw1]
  have hf1 : Fr [] w w1 := by
    rw [← hw1]
    exact ((Fr.refl [] w).calloc _).calloc _
  have HA1 : Hid (Cells w1 w.heap.size 46 [.int .i64 s.state, .int .i64 s.own, .int .i64 s.other, .int .u64 s.nonce, .int .u64 s.echo]) := by
    rw [← hw1]
    exact (Cells.new w _ _).alloc _
  have HR1 : Hid (Cells w1 (w.heap.size + 1) 46 [.int .i64 0, .int .i64 0, .int .i64 0, .int .u64 0, .int .u64 0]) := by
    rw [← hw1]
    have := Cells.new (w.alloc (.cells #[.int .i64 s.state, .int .i64 s.own, .int .i64 s.other, .int .u64 s.nonce, .int .u64 s.echo] 46)) 46 [.int .i64 0, .int .i64 0, .int .i64 0, .int .u64 0, .int .u64 0]
    rw [World.size_alloc] at this
    exact this
  have HF1 := Lib.hid hf1
  clear hw1 hf1
  refine (wr_from_ex w1 bv l (HB.out.fr HF1.out (by simp))).mono ?_
  rintro e w2 ⟨hg, hf2⟩
  unfold FromGot at hg
  rw [HMF.out] at hg
  have HF2 := Lib.hid (HF1.out.trans hf2)
  have HA2 := Lib.hid (HA1.out.fr hf2 (by simp))
  have HR2 := Lib.hid (HR1.out.fr hf2 (by simp))
  subst hg
  clear hf2
  unfold mgV
  go_wp2_with fail
  obtain ⟨w3, hw3⟩ : ∃ w3, w2.alloc (.cells #[.int .i64 0, .slice none 0 0, .slice none 0 0, .slice none 0 0] 56) = w3 := ⟨_, rfl⟩
  rw [hw3]
  have hf3 : Fr [] w2 w3 := by
    rw [← hw3]
    exact Fr.alloc _ _ _
  have HM3 : Hid (Cells w3 w2.heap.size 56 [.int .i64 0, .slice none 0 0, .slice none 0 0, .slice none 0 0]) := by
    rw [← hw3]
    exact Cells.new _ _ _
  have HA3 := Lib.hid (HA2.out.fr hf3 (by simp))
  have HR3 := Lib.hid (HR2.out.fr hf3 (by simp))
  have HF3 := Lib.hid (HF2.out.trans hf3)
  clear hw3 hf3
  refine wp_region_grow [] (by kernel_rfl) (by kernel_rfl) ?_
  repeat (go_big_quiet_step (fail))
  refine wpQuiet_nil ?_
  intro _ hw'
  obtain ⟨p, hw''⟩ := hw'
  subst hw''
  have HF4 : Hid (Fr [] w3 p.world) := p.fr
  generalize p.world = w4 at *
  have HA4 := Lib.hid (HA3.out.fr HF4.out (by simp))
  have HR4 := Lib.hid (HR3.out.fr HF4.out (by simp))
  have a0 := HA4.out.cell 0
  have a1 := HA4.out.cell 1
  have a2 := HA4.out.cell 2
  have a3 := HA4.out.cell 3
  have a4 := HA4.out.cell 4
  have y0 := HR4.out.cell 0
  have y1 := HR4.out.cell 1
  have y2 := HR4.out.cell 2
  have y3 := HR4.out.cell 3
  have y4 := HR4.out.cell 4
  simp only [List.getElem?_cons_zero, List.getElem?_cons_succ] at a0 a1 a2 a3 a4 y0 y1 y2 y3 y4
  have z0 := HR4.out.frozen 0
  have z1 := HR4.out.frozen 1
  have z2 := HR4.out.frozen 2
  have z3 := HR4.out.frozen 3
  have z4 := HR4.out.frozen 4
  go_wp2_with fail
  refine bodyPost_ret (v := .tuple #[.agg #[.int .i64 s.state, .int .i64 s.own, .int .i64 s.other, .int .u64 s.nonce, .int .u64 s.echo], .slice none 0 0]) (by simp [results, Try.results24, go_sem, y0, y1, y2, y3, y4]) rfl ?_
  exact SkSent.none HN.out ((HF3.out.trans HF4.out).step ((((((Fr.refl [w.heap.size + 1] w4).cset _ _ (.inl (by simp))).cset _ _ (.inl (by simp))).cset _ _ (.inl (by simp))).cset _ _ (.inl (by simp))).cset _ _ (.inl (by simp))) (by simp))


set_option maxRecDepth 100000 in
set_option maxHeartbeats 400000 in
theorem hr_over (w : World) (b mb : Nat) (lv : Value) (L : List En) (s : Sk) (bv : Value) (l : List UInt8) (hN : NotIn w b mb lv L) (hb : SlEx w bv (u8s l)) (m : Mg) (hmf : mfrom l = some m) (h4 : (s.state == 4) = true) :
    Calls Try.prog 24 #[skV s, .pointer (some ⟨b, 0, none⟩), bv] w fun e w' => SkSent w w' b mb lv s (L, []) e := by
  have HN := Lib.hid hN
  have HB := Lib.hid hb
  have HMF := Lib.hid hmf
  clear hN hb hmf
  unfold skV
  go_enter Try.func24, Try.ntmps24
  go_wp2_with fail
  obtain ⟨w1, hw1⟩ : ∃ w1, (w.alloc (.cells #[.int .i64 s.state, .int .i64 s.own, .int .i64 s.other, .int .u64 s.nonce, .int .u64 s.echo] 46)).alloc (.cells #[.int .i64 0, .int .i64 0, .int .i64 0, .int .u64 0, .int .u64 0] 46) = w1 := ⟨_, rfl⟩
  rw [hw1]
  have hf1 : Fr [] w w1 := by
    rw [← hw1]
    exact ((Fr.refl [] w).calloc _).calloc _
  have HA1 : Hid (Cells w1 w.heap.size 46 [.int .i64 s.state, .int .i64 s.own, .int .i64 s.other, .int .u64 s.nonce, .int .u64 s.echo]) := by
    rw [← hw1]
    exact (Cells.new w _ _).alloc _
  have HR1 : Hid (Cells w1 (w.heap.size + 1) 46 [.int .i64 0, .int .i64 0, .int .i64 0, .int .u64 0, .int .u64 0]) := by
    rw [← hw1]
    have := Cells.new (w.alloc (.cells #[.int .i64 s.state, .int .i64 s.own, .int .i64 s.other, .int .u64 s.nonce, .int .u64 s.echo] 46)) 46 [.int .i64 0, .int .i64 0, .int .i64 0, .int .u64 0, .int .u64 0]
    rw [World.size_alloc] at this
    exact this
  have HF1 := Lib.hid hf1
  clear hw1 hf1
  refine (wr_from_ex w1 bv l (HB.out.fr HF1.out (by simp))).mono ?_
  rintro e w2 ⟨hg, hf2⟩
  unfold FromGot at hg
  rw [HMF.out] at hg
  have HF2 := Lib.hid (HF1.out.trans hf2)
  have HA2 := Lib.hid (HA1.out.fr hf2 (by simp))
  have HR2 := Lib.hid (HR1.out.fr hf2 (by simp))
  obtain ⟨nv, av, bdv, rfl, hn2, ha2, hb2⟩ := hg
  have HM2 : Hid (MsgAt w2 nv av bdv m) := ⟨(sl_of_own hn2).ex, ads_of_own ha2, (sl_of_own hb2).ex, mfrom_wf HMF.out⟩
  obtain ⟨na, nc, hnv⟩ := HM2.out.nums.shape
  obtain ⟨aa, ac, hav⟩ := ads_shape HM2.out.addrs
  obtain ⟨ba, bc, hbv⟩ := HM2.out.body.shape
  rw [u64s_length] at hnv
  rw [u8s_length] at hbv
  clear hn2 ha2 hb2 hf2
  subst hnv hav hbv
  unfold mgV
  go_wp2_with fail
  obtain ⟨w3, hw3⟩ : ∃ w3, w2.alloc (.cells #[.int .i64 m.kind, .slice na m.nums.length nc, .slice aa m.addrs.length ac, .slice ba m.body.length bc] 56) = w3 := ⟨_, rfl⟩
  rw [hw3]
  have hf3 : Fr [] w2 w3 := by
    rw [← hw3]
    exact Fr.alloc _ _ _
  have HM3 : Hid (Cells w3 w2.heap.size 56 [.int .i64 m.kind, .slice na m.nums.length nc, .slice aa m.addrs.length ac, .slice ba m.body.length bc]) := by
    rw [← hw3]
    exact Cells.new _ _ _
  have HA3 := Lib.hid (HA2.out.fr hf3 (by simp))
  have HR3 := Lib.hid (HR2.out.fr hf3 (by simp))
  have HF3 := Lib.hid (HF2.out.trans hf3)
  clear hw3 hf3
  have a0 := fun p => grow_cell (S := []) HA3.out (by simp) 0 p
  simp only [List.getElem?_cons_zero] at a0
  refine wp_region_grow [] (by kernel_rfl) (by kernel_rfl) ?_
  repeat (go_big_quiet_step (fail))
  refine wpQuiet_nil ?_
  intro _ hw'
  obtain ⟨p, hw''⟩ := hw'
  subst hw''
  have HF4 : Hid (Fr [] w3 p.world) := p.fr
  generalize p.world = w4 at *
  clear a0
  have HA4 := Lib.hid (HA3.out.fr HF4.out (by simp))
  have HR4 := Lib.hid (HR3.out.fr HF4.out (by simp))
  have a0 := HA4.out.cell 0
  have a1 := HA4.out.cell 1
  have a2 := HA4.out.cell 2
  have a3 := HA4.out.cell 3
  have a4 := HA4.out.cell 4
  have y0 := HR4.out.cell 0
  have y1 := HR4.out.cell 1
  have y2 := HR4.out.cell 2
  have y3 := HR4.out.cell 3
  have y4 := HR4.out.cell 4
  simp only [List.getElem?_cons_zero, List.getElem?_cons_succ] at a0 a1 a2 a3 a4 y0 y1 y2 y3 y4
  have z0 := HR4.out.frozen 0
  have z1 := HR4.out.frozen 1
  have z2 := HR4.out.frozen 2
  have z3 := HR4.out.frozen 3
  have z4 := HR4.out.frozen 4
  go_wp2_with fail
  refine bodyPost_ret (v := .tuple #[.agg #[.int .i64 s.state, .int .i64 s.own, .int .i64 s.other, .int .u64 s.nonce, .int .u64 s.echo], .slice none 0 0]) (by simp [results, Try.results24, go_sem, y0, y1, y2, y3, y4]) rfl ?_
  exact SkSent.none HN.out ((HF3.out.trans HF4.out).step ((((((Fr.refl [w.heap.size + 1] w4).cset _ _ (.inl (by simp))).cset _ _ (.inl (by simp))).cset _ _ (.inl (by simp))).cset _ _ (.inl (by simp))).cset _ _ (.inl (by simp))) (by simp))


set_option maxRecDepth 100000 in
set_option maxHeartbeats 400000 in
theorem hr_bad (w : World) (b mb : Nat) (lv : Value) (L : List En) (s : Sk) (bv : Value) (l : List UInt8) (hN : NotIn w b mb lv L) (hb : SlEx w bv (u8s l)) (hlen : L.length ≤ 100000) (m : Mg) (hmf : mfrom l = some m) (h4 : (s.state == 4) = false) (hsc : skcheck L m = false) :
    Calls Try.prog 24 #[skV s, .pointer (some ⟨b, 0, none⟩), bv] w fun e w' => SkSent w w' b mb lv s (L, []) e := by
  have HSC := Lib.hid hsc
  clear hsc
  have HN := Lib.hid hN
  have HB := Lib.hid hb
  have HMF := Lib.hid hmf
  clear hN hb hmf
  unfold skV
  go_enter Try.func24, Try.ntmps24
  go_wp2_with fail
  obtain ⟨w1, hw1⟩ : ∃ w1, (w.alloc (.cells #[.int .i64 s.state, .int .i64 s.own, .int .i64 s.other, .int .u64 s.nonce, .int .u64 s.echo] 46)).alloc (.cells #[.int .i64 0, .int .i64 0, .int .i64 0, .int .u64 0, .int .u64 0] 46) = w1 := ⟨_, rfl⟩
  rw [hw1]
  have hf1 : Fr [] w w1 := by
    rw [← hw1]
    exact ((Fr.refl [] w).calloc _).calloc _
  have HA1 : Hid (Cells w1 w.heap.size 46 [.int .i64 s.state, .int .i64 s.own, .int .i64 s.other, .int .u64 s.nonce, .int .u64 s.echo]) := by
    rw [← hw1]
    exact (Cells.new w _ _).alloc _
  have HR1 : Hid (Cells w1 (w.heap.size + 1) 46 [.int .i64 0, .int .i64 0, .int .i64 0, .int .u64 0, .int .u64 0]) := by
    rw [← hw1]
    have := Cells.new (w.alloc (.cells #[.int .i64 s.state, .int .i64 s.own, .int .i64 s.other, .int .u64 s.nonce, .int .u64 s.echo] 46)) 46 [.int .i64 0, .int .i64 0, .int .i64 0, .int .u64 0, .int .u64 0]
    rw [World.size_alloc] at this
    exact this
  have HF1 := Lib.hid hf1
  clear hw1 hf1
  refine (wr_from_ex w1 bv l (HB.out.fr HF1.out (by simp))).mono ?_
  rintro e w2 ⟨hg, hf2⟩
  unfold FromGot at hg
  rw [HMF.out] at hg
  have HF2 := Lib.hid (HF1.out.trans hf2)
  have HA2 := Lib.hid (HA1.out.fr hf2 (by simp))
  have HR2 := Lib.hid (HR1.out.fr hf2 (by simp))
  obtain ⟨nv, av, bdv, rfl, hn2, ha2, hb2⟩ := hg
  have HM2 : Hid (MsgAt w2 nv av bdv m) := ⟨(sl_of_own hn2).ex, ads_of_own ha2, (sl_of_own hb2).ex, mfrom_wf HMF.out⟩
  obtain ⟨na, nc, hnv⟩ := HM2.out.nums.shape
  obtain ⟨aa, ac, hav⟩ := ads_shape HM2.out.addrs
  obtain ⟨ba, bc, hbv⟩ := HM2.out.body.shape
  rw [u64s_length] at hnv
  rw [u8s_length] at hbv
  clear hn2 ha2 hb2 hf2
  subst hnv hav hbv
  unfold mgV
  go_wp2_with fail
  obtain ⟨w3, hw3⟩ : ∃ w3, w2.alloc (.cells #[.int .i64 m.kind, .slice na m.nums.length nc, .slice aa m.addrs.length ac, .slice ba m.body.length bc] 56) = w3 := ⟨_, rfl⟩
  rw [hw3]
  have hf3 : Fr [] w2 w3 := by
    rw [← hw3]
    exact Fr.alloc _ _ _
  have HM3 : Hid (Cells w3 w2.heap.size 56 [.int .i64 m.kind, .slice na m.nums.length nc, .slice aa m.addrs.length ac, .slice ba m.body.length bc]) := by
    rw [← hw3]
    exact Cells.new _ _ _
  have HA3 := Lib.hid (HA2.out.fr hf3 (by simp))
  have HR3 := Lib.hid (HR2.out.fr hf3 (by simp))
  have HF3 := Lib.hid (HF2.out.trans hf3)
  have HG3 := Lib.hid (HM2.out.fr hf3 (by simp) (by simp) (by simp))
  clear hw3 hf3
  have HCK : Hid (∀ p : GrowTo [] w3, Calls Try.prog 28 #[.pointer (some ⟨b, 0, none⟩), .agg #[.int .i64 m.kind, .slice na m.nums.length nc, .slice aa m.addrs.length ac, .slice ba m.body.length bc]] p.world fun e w' => e = .returned (.bool false) ∧ Fr [] p.world w') := by
    intro p
    have h := sk_check p.world b mb lv L m _ _ _ (HN.out.fr (HF3.out.trans p.fr) (by simp)) (HG3.out.fr p.fr (by simp) (by simp) (by simp)) hlen
    rw [HSC.out] at h
    exact h
  have a0 := fun p => grow_cell (S := []) HA3.out (by simp) 0 p
  have m0 := fun p => grow_cell (S := []) HM3.out (by simp) 0 p
  have m1 := fun p => grow_cell (S := []) HM3.out (by simp) 1 p
  have m2 := fun p => grow_cell (S := []) HM3.out (by simp) 2 p
  have m3 := fun p => grow_cell (S := []) HM3.out (by simp) 3 p
  simp only [List.getElem?_cons_zero, List.getElem?_cons_succ] at a0 m0 m1 m2 m3
  refine wp_region_grow [] (by kernel_rfl) (by kernel_rfl) ?_
  repeat (go_big_quiet_step ((go_at_call 28; exact grow_of (HCK.out _))))
  refine wpQuiet_nil ?_
  intro _ hw'
  obtain ⟨p, hw''⟩ := hw'
  subst hw''
  have HF4 : Hid (Fr [] w3 p.world) := p.fr
  generalize p.world = w4 at *
  clear a0 m0 m1 m2 m3
  have HA4 := Lib.hid (HA3.out.fr HF4.out (by simp))
  have HR4 := Lib.hid (HR3.out.fr HF4.out (by simp))
  have a0 := HA4.out.cell 0
  have a1 := HA4.out.cell 1
  have a2 := HA4.out.cell 2
  have a3 := HA4.out.cell 3
  have a4 := HA4.out.cell 4
  have y0 := HR4.out.cell 0
  have y1 := HR4.out.cell 1
  have y2 := HR4.out.cell 2
  have y3 := HR4.out.cell 3
  have y4 := HR4.out.cell 4
  simp only [List.getElem?_cons_zero, List.getElem?_cons_succ] at a0 a1 a2 a3 a4 y0 y1 y2 y3 y4
  have z0 := HR4.out.frozen 0
  have z1 := HR4.out.frozen 1
  have z2 := HR4.out.frozen 2
  have z3 := HR4.out.frozen 3
  have z4 := HR4.out.frozen 4
  go_wp2_with fail
  refine bodyPost_ret (v := .tuple #[.agg #[.int .i64 s.state, .int .i64 s.own, .int .i64 s.other, .int .u64 s.nonce, .int .u64 s.echo], .slice none 0 0]) (by simp [results, Try.results24, go_sem, y0, y1, y2, y3, y4]) rfl ?_
  exact SkSent.none HN.out ((HF3.out.trans HF4.out).step ((((((Fr.refl [w.heap.size + 1] w4).cset _ _ (.inl (by simp))).cset _ _ (.inl (by simp))).cset _ _ (.inl (by simp))).cset _ _ (.inl (by simp))).cset _ _ (.inl (by simp))) (by simp))


set_option maxRecDepth 100000 in
set_option maxHeartbeats 400000 in
theorem hr_oth (w : World) (b mb : Nat) (lv : Value) (L : List En) (s : Sk) (bv : Value) (l : List UInt8) (hs : s.Wf) (hN : NotIn w b mb lv L) (hb : SlEx w bv (u8s l)) (hlen : L.length ≤ 100000) (m : Mg) (hmf : mfrom l = some m) (h4 : (s.state == 4) = false) (hsc : skcheck L m = true) (n0 n1 : Nat) (hn0 : m.nums[0]? = some n0) (hn1 : m.nums[1]? = some n1) (h5 : ((n0 : Int) != (s.other : Int)) = true) :
    Calls Try.prog 24 #[skV s, .pointer (some ⟨b, 0, none⟩), bv] w fun e w' => SkSent w w' b mb lv s (L, []) e := by
  have HSC := Lib.hid hsc
  have HN0 := Lib.hid hn0
  have HN1 := Lib.hid hn1
  have HLEN : Hid (0 < m.nums.length ∧ 1 < m.nums.length) := ⟨(List.getElem?_eq_some_iff.1 hn0).1, (List.getElem?_eq_some_iff.1 hn1).1⟩
  clear hsc hn0 hn1
  have HN := Lib.hid hN
  have HS := Lib.hid hs
  have HB := Lib.hid hb
  have HMF := Lib.hid hmf
  clear hN hs hb hmf
  unfold skV
  go_enter Try.func24, Try.ntmps24
  go_wp2_with fail
  obtain ⟨w1, hw1⟩ : ∃ w1, (w.alloc (.cells #[.int .i64 s.state, .int .i64 s.own, .int .i64 s.other, .int .u64 s.nonce, .int .u64 s.echo] 46)).alloc (.cells #[.int .i64 0, .int .i64 0, .int .i64 0, .int .u64 0, .int .u64 0] 46) = w1 := ⟨_, rfl⟩
  rw [hw1]
  have hf1 : Fr [] w w1 := by
    rw [← hw1]
    exact ((Fr.refl [] w).calloc _).calloc _
  have HA1 : Hid (Cells w1 w.heap.size 46 [.int .i64 s.state, .int .i64 s.own, .int .i64 s.other, .int .u64 s.nonce, .int .u64 s.echo]) := by
    rw [← hw1]
    exact (Cells.new w _ _).alloc _
  have HR1 : Hid (Cells w1 (w.heap.size + 1) 46 [.int .i64 0, .int .i64 0, .int .i64 0, .int .u64 0, .int .u64 0]) := by
    rw [← hw1]
    have := Cells.new (w.alloc (.cells #[.int .i64 s.state, .int .i64 s.own, .int .i64 s.other, .int .u64 s.nonce, .int .u64 s.echo] 46)) 46 [.int .i64 0, .int .i64 0, .int .i64 0, .int .u64 0, .int .u64 0]
    rw [World.size_alloc] at this
    exact this
  have HF1 := Lib.hid hf1
  clear hw1 hf1
  refine (wr_from_ex w1 bv l (HB.out.fr HF1.out (by simp))).mono ?_
  rintro e w2 ⟨hg, hf2⟩
  unfold FromGot at hg
  rw [HMF.out] at hg
  have HF2 := Lib.hid (HF1.out.trans hf2)
  have HA2 := Lib.hid (HA1.out.fr hf2 (by simp))
  have HR2 := Lib.hid (HR1.out.fr hf2 (by simp))
  obtain ⟨nv, av, bdv, rfl, hn2, ha2, hb2⟩ := hg
  have HM2 : Hid (MsgAt w2 nv av bdv m) := ⟨(sl_of_own hn2).ex, ads_of_own ha2, (sl_of_own hb2).ex, mfrom_wf HMF.out⟩
  obtain ⟨na, nc, hnv⟩ := HM2.out.nums.shape
  obtain ⟨aa, ac, hav⟩ := ads_shape HM2.out.addrs
  obtain ⟨ba, bc, hbv⟩ := HM2.out.body.shape
  rw [u64s_length] at hnv
  rw [u8s_length] at hbv
  clear hn2 ha2 hb2 hf2
  subst hnv hav hbv
  unfold mgV
  go_wp2_with fail
  obtain ⟨w3, hw3⟩ : ∃ w3, w2.alloc (.cells #[.int .i64 m.kind, .slice na m.nums.length nc, .slice aa m.addrs.length ac, .slice ba m.body.length bc] 56) = w3 := ⟨_, rfl⟩
  rw [hw3]
  have hf3 : Fr [] w2 w3 := by
    rw [← hw3]
    exact Fr.alloc _ _ _
  have HM3 : Hid (Cells w3 w2.heap.size 56 [.int .i64 m.kind, .slice na m.nums.length nc, .slice aa m.addrs.length ac, .slice ba m.body.length bc]) := by
    rw [← hw3]
    exact Cells.new _ _ _
  have HA3 := Lib.hid (HA2.out.fr hf3 (by simp))
  have HR3 := Lib.hid (HR2.out.fr hf3 (by simp))
  have HF3 := Lib.hid (HF2.out.trans hf3)
  have HG3 := Lib.hid (HM2.out.fr hf3 (by simp) (by simp) (by simp))
  clear hw3 hf3
  have HCK : Hid (∀ p : GrowTo [] w3, Calls Try.prog 28 #[.pointer (some ⟨b, 0, none⟩), .agg #[.int .i64 m.kind, .slice na m.nums.length nc, .slice aa m.addrs.length ac, .slice ba m.body.length bc]] p.world fun e w' => e = .returned (.bool true) ∧ Fr [] p.world w') := by
    intro p
    have h := sk_check p.world b mb lv L m _ _ _ (HN.out.fr (HF3.out.trans p.fr) (by simp)) (HG3.out.fr p.fr (by simp) (by simp) (by simp)) hlen
    rw [HSC.out] at h
    exact h
  obtain ⟨g, off, hna, hg, hc0⟩ := sl_some (k := 0) HG3.out.nums (by rw [u64s_length]; exact HLEN.out.1)
  obtain ⟨g', off', hna', _, hc1⟩ := sl_some (k := 1) HG3.out.nums (by rw [u64s_length]; exact HLEN.out.2)
  subst hna
  simp at hna'
  obtain ⟨rfl, rfl⟩ := hna'
  simp only [u64s, List.getElem?_map, HN0.out, HN1.out, Option.map_some, Nat.add_zero] at hc0 hc1
  have c0 : ∀ p : GrowTo [] w3, p.world.cell? ⟨g, off, none⟩ = some (.int .u64 n0) := fun p => (World.cell?_of_block (w := w3) (p.fr.block g hg (by simp))).trans hc0
  have c1 : ∀ p : GrowTo [] w3, p.world.cell? ⟨g, off + 1, none⟩ = some (.int .u64 n1) := fun p => (World.cell?_of_block (w := w3) (p.fr.block g hg (by simp))).trans hc1
  have hi0 : (0 : Int) < (m.nums.length : Int) := by have := HLEN.out.1; omega
  have hi1 : (1 : Int) < (m.nums.length : Int) := by have := HLEN.out.2; omega
  have hi0' : 0 < m.nums.length := HLEN.out.1
  have hi1' : 1 < m.nums.length := HLEN.out.2
  have ho : IntKind.u64.wrap (s.other : Int) = s.other := IntWalk.u64_in _ (by have := HS.out.other; omega)
  have hw : IntKind.u64.wrap (s.own : Int) = s.own := IntWalk.u64_in _ (by have := HS.out.own; omega)
  have ho0 : (0 : Int) ≤ (s.other : Int) := by omega
  have hw0 : (0 : Int) ≤ (s.own : Int) := by omega
  clear hc0 hc1 hg
  have a0 := fun p => grow_cell (S := []) HA3.out (by simp) 0 p
  have a1 := fun p => grow_cell (S := []) HA3.out (by simp) 1 p
  have a2 := fun p => grow_cell (S := []) HA3.out (by simp) 2 p
  have a3 := fun p => grow_cell (S := []) HA3.out (by simp) 3 p
  have a4 := fun p => grow_cell (S := []) HA3.out (by simp) 4 p
  have m0 := fun p => grow_cell (S := []) HM3.out (by simp) 0 p
  have m1 := fun p => grow_cell (S := []) HM3.out (by simp) 1 p
  have m2 := fun p => grow_cell (S := []) HM3.out (by simp) 2 p
  have m3 := fun p => grow_cell (S := []) HM3.out (by simp) 3 p
  simp only [List.getElem?_cons_zero, List.getElem?_cons_succ] at a0 a1 a2 a3 a4 m0 m1 m2 m3
  refine wp_region_grow [] (by kernel_rfl) (by kernel_rfl) ?_
  repeat (go_big_quiet_step ((go_at_call 28; exact grow_of (HCK.out _))))
  refine wpQuiet_nil ?_
  intro _ hw'
  obtain ⟨p, hw''⟩ := hw'
  subst hw''
  have HF4 : Hid (Fr [] w3 p.world) := p.fr
  generalize p.world = w4 at *
  clear a0 a1 a2 a3 a4 m0 m1 m2 m3 c0 c1
  have HA4 := Lib.hid (HA3.out.fr HF4.out (by simp))
  have HR4 := Lib.hid (HR3.out.fr HF4.out (by simp))
  have a0 := HA4.out.cell 0
  have a1 := HA4.out.cell 1
  have a2 := HA4.out.cell 2
  have a3 := HA4.out.cell 3
  have a4 := HA4.out.cell 4
  have y0 := HR4.out.cell 0
  have y1 := HR4.out.cell 1
  have y2 := HR4.out.cell 2
  have y3 := HR4.out.cell 3
  have y4 := HR4.out.cell 4
  simp only [List.getElem?_cons_zero, List.getElem?_cons_succ] at a0 a1 a2 a3 a4 y0 y1 y2 y3 y4
  have z0 := HR4.out.frozen 0
  have z1 := HR4.out.frozen 1
  have z2 := HR4.out.frozen 2
  have z3 := HR4.out.frozen 3
  have z4 := HR4.out.frozen 4
  go_wp2_with fail
  refine bodyPost_ret (v := .tuple #[.agg #[.int .i64 s.state, .int .i64 s.own, .int .i64 s.other, .int .u64 s.nonce, .int .u64 s.echo], .slice none 0 0]) (by simp [results, Try.results24, go_sem, y0, y1, y2, y3, y4]) rfl ?_
  exact SkSent.none HN.out ((HF3.out.trans HF4.out).step ((((((Fr.refl [w.heap.size + 1] w4).cset _ _ (.inl (by simp))).cset _ _ (.inl (by simp))).cset _ _ (.inl (by simp))).cset _ _ (.inl (by simp))).cset _ _ (.inl (by simp))) (by simp))


set_option maxRecDepth 100000 in
set_option maxHeartbeats 400000 in
theorem hr_own (w : World) (b mb : Nat) (lv : Value) (L : List En) (s : Sk) (bv : Value) (l : List UInt8) (hs : s.Wf) (hN : NotIn w b mb lv L) (hb : SlEx w bv (u8s l)) (hlen : L.length ≤ 100000) (m : Mg) (hmf : mfrom l = some m) (h4 : (s.state == 4) = false) (hsc : skcheck L m = true) (n0 n1 : Nat) (hn0 : m.nums[0]? = some n0) (hn1 : m.nums[1]? = some n1) (h5 : ((n0 : Int) != (s.other : Int)) = false) (h6 : ((n1 : Int) != (s.own : Int)) = true) :
    Calls Try.prog 24 #[skV s, .pointer (some ⟨b, 0, none⟩), bv] w fun e w' => SkSent w w' b mb lv s (L, []) e := by
  have HSC := Lib.hid hsc
  have HN0 := Lib.hid hn0
  have HN1 := Lib.hid hn1
  have HLEN : Hid (0 < m.nums.length ∧ 1 < m.nums.length) := ⟨(List.getElem?_eq_some_iff.1 hn0).1, (List.getElem?_eq_some_iff.1 hn1).1⟩
  clear hsc hn0 hn1
  have HN := Lib.hid hN
  have HS := Lib.hid hs
  have HB := Lib.hid hb
  have HMF := Lib.hid hmf
  clear hN hs hb hmf
  unfold skV
  go_enter Try.func24, Try.ntmps24
  go_wp2_with fail
  obtain ⟨w1, hw1⟩ : ∃ w1, (w.alloc (.cells #[.int .i64 s.state, .int .i64 s.own, .int .i64 s.other, .int .u64 s.nonce, .int .u64 s.echo] 46)).alloc (.cells #[.int .i64 0, .int .i64 0, .int .i64 0, .int .u64 0, .int .u64 0] 46) = w1 := ⟨_, rfl⟩
  rw [hw1]
  have hf1 : Fr [] w w1 := by
    rw [← hw1]
    exact ((Fr.refl [] w).calloc _).calloc _
  have HA1 : Hid (Cells w1 w.heap.size 46 [.int .i64 s.state, .int .i64 s.own, .int .i64 s.other, .int .u64 s.nonce, .int .u64 s.echo]) := by
    rw [← hw1]
    exact (Cells.new w _ _).alloc _
  have HR1 : Hid (Cells w1 (w.heap.size + 1) 46 [.int .i64 0, .int .i64 0, .int .i64 0, .int .u64 0, .int .u64 0]) := by
    rw [← hw1]
    have := Cells.new (w.alloc (.cells #[.int .i64 s.state, .int .i64 s.own, .int .i64 s.other, .int .u64 s.nonce, .int .u64 s.echo] 46)) 46 [.int .i64 0, .int .i64 0, .int .i64 0, .int .u64 0, .int .u64 0]
    rw [World.size_alloc] at this
    exact this
  have HF1 := Lib.hid hf1
  clear hw1 hf1
  refine (wr_from_ex w1 bv l (HB.out.fr HF1.out (by simp))).mono ?_
  rintro e w2 ⟨hg, hf2⟩
  unfold FromGot at hg
  rw [HMF.out] at hg
  have HF2 := Lib.hid (HF1.out.trans hf2)
  have HA2 := Lib.hid (HA1.out.fr hf2 (by simp))
  have HR2 := Lib.hid (HR1.out.fr hf2 (by simp))
  obtain ⟨nv, av, bdv, rfl, hn2, ha2, hb2⟩ := hg
  have HM2 : Hid (MsgAt w2 nv av bdv m) := ⟨(sl_of_own hn2).ex, ads_of_own ha2, (sl_of_own hb2).ex, mfrom_wf HMF.out⟩
  obtain ⟨na, nc, hnv⟩ := HM2.out.nums.shape
  obtain ⟨aa, ac, hav⟩ := ads_shape HM2.out.addrs
  obtain ⟨ba, bc, hbv⟩ := HM2.out.body.shape
  rw [u64s_length] at hnv
  rw [u8s_length] at hbv
  clear hn2 ha2 hb2 hf2
  subst hnv hav hbv
  unfold mgV
  go_wp2_with fail
  obtain ⟨w3, hw3⟩ : ∃ w3, w2.alloc (.cells #[.int .i64 m.kind, .slice na m.nums.length nc, .slice aa m.addrs.length ac, .slice ba m.body.length bc] 56) = w3 := ⟨_, rfl⟩
  rw [hw3]
  have hf3 : Fr [] w2 w3 := by
    rw [← hw3]
    exact Fr.alloc _ _ _
  have HM3 : Hid (Cells w3 w2.heap.size 56 [.int .i64 m.kind, .slice na m.nums.length nc, .slice aa m.addrs.length ac, .slice ba m.body.length bc]) := by
    rw [← hw3]
    exact Cells.new _ _ _
  have HA3 := Lib.hid (HA2.out.fr hf3 (by simp))
  have HR3 := Lib.hid (HR2.out.fr hf3 (by simp))
  have HF3 := Lib.hid (HF2.out.trans hf3)
  have HG3 := Lib.hid (HM2.out.fr hf3 (by simp) (by simp) (by simp))
  clear hw3 hf3
  have HCK : Hid (∀ p : GrowTo [] w3, Calls Try.prog 28 #[.pointer (some ⟨b, 0, none⟩), .agg #[.int .i64 m.kind, .slice na m.nums.length nc, .slice aa m.addrs.length ac, .slice ba m.body.length bc]] p.world fun e w' => e = .returned (.bool true) ∧ Fr [] p.world w') := by
    intro p
    have h := sk_check p.world b mb lv L m _ _ _ (HN.out.fr (HF3.out.trans p.fr) (by simp)) (HG3.out.fr p.fr (by simp) (by simp) (by simp)) hlen
    rw [HSC.out] at h
    exact h
  obtain ⟨g, off, hna, hg, hc0⟩ := sl_some (k := 0) HG3.out.nums (by rw [u64s_length]; exact HLEN.out.1)
  obtain ⟨g', off', hna', _, hc1⟩ := sl_some (k := 1) HG3.out.nums (by rw [u64s_length]; exact HLEN.out.2)
  subst hna
  simp at hna'
  obtain ⟨rfl, rfl⟩ := hna'
  simp only [u64s, List.getElem?_map, HN0.out, HN1.out, Option.map_some, Nat.add_zero] at hc0 hc1
  have c0 : ∀ p : GrowTo [] w3, p.world.cell? ⟨g, off, none⟩ = some (.int .u64 n0) := fun p => (World.cell?_of_block (w := w3) (p.fr.block g hg (by simp))).trans hc0
  have c1 : ∀ p : GrowTo [] w3, p.world.cell? ⟨g, off + 1, none⟩ = some (.int .u64 n1) := fun p => (World.cell?_of_block (w := w3) (p.fr.block g hg (by simp))).trans hc1
  have hi0 : (0 : Int) < (m.nums.length : Int) := by have := HLEN.out.1; omega
  have hi1 : (1 : Int) < (m.nums.length : Int) := by have := HLEN.out.2; omega
  have hi0' : 0 < m.nums.length := HLEN.out.1
  have hi1' : 1 < m.nums.length := HLEN.out.2
  have ho : IntKind.u64.wrap (s.other : Int) = s.other := IntWalk.u64_in _ (by have := HS.out.other; omega)
  have hw : IntKind.u64.wrap (s.own : Int) = s.own := IntWalk.u64_in _ (by have := HS.out.own; omega)
  have ho0 : (0 : Int) ≤ (s.other : Int) := by omega
  have hw0 : (0 : Int) ≤ (s.own : Int) := by omega
  clear hc0 hc1 hg
  have a0 := fun p => grow_cell (S := []) HA3.out (by simp) 0 p
  have a1 := fun p => grow_cell (S := []) HA3.out (by simp) 1 p
  have a2 := fun p => grow_cell (S := []) HA3.out (by simp) 2 p
  have a3 := fun p => grow_cell (S := []) HA3.out (by simp) 3 p
  have a4 := fun p => grow_cell (S := []) HA3.out (by simp) 4 p
  have m0 := fun p => grow_cell (S := []) HM3.out (by simp) 0 p
  have m1 := fun p => grow_cell (S := []) HM3.out (by simp) 1 p
  have m2 := fun p => grow_cell (S := []) HM3.out (by simp) 2 p
  have m3 := fun p => grow_cell (S := []) HM3.out (by simp) 3 p
  simp only [List.getElem?_cons_zero, List.getElem?_cons_succ] at a0 a1 a2 a3 a4 m0 m1 m2 m3
  refine wp_region_grow [] (by kernel_rfl) (by kernel_rfl) ?_
  repeat (go_big_quiet_step ((go_at_call 28; exact grow_of (HCK.out _))))
  refine wpQuiet_nil ?_
  intro _ hw'
  obtain ⟨p, hw''⟩ := hw'
  subst hw''
  have HF4 : Hid (Fr [] w3 p.world) := p.fr
  generalize p.world = w4 at *
  clear a0 a1 a2 a3 a4 m0 m1 m2 m3 c0 c1
  have HA4 := Lib.hid (HA3.out.fr HF4.out (by simp))
  have HR4 := Lib.hid (HR3.out.fr HF4.out (by simp))
  have a0 := HA4.out.cell 0
  have a1 := HA4.out.cell 1
  have a2 := HA4.out.cell 2
  have a3 := HA4.out.cell 3
  have a4 := HA4.out.cell 4
  have y0 := HR4.out.cell 0
  have y1 := HR4.out.cell 1
  have y2 := HR4.out.cell 2
  have y3 := HR4.out.cell 3
  have y4 := HR4.out.cell 4
  simp only [List.getElem?_cons_zero, List.getElem?_cons_succ] at a0 a1 a2 a3 a4 y0 y1 y2 y3 y4
  have z0 := HR4.out.frozen 0
  have z1 := HR4.out.frozen 1
  have z2 := HR4.out.frozen 2
  have z3 := HR4.out.frozen 3
  have z4 := HR4.out.frozen 4
  go_wp2_with fail
  refine bodyPost_ret (v := .tuple #[.agg #[.int .i64 s.state, .int .i64 s.own, .int .i64 s.other, .int .u64 s.nonce, .int .u64 s.echo], .slice none 0 0]) (by simp [results, Try.results24, go_sem, y0, y1, y2, y3, y4]) rfl ?_
  exact SkSent.none HN.out ((HF3.out.trans HF4.out).step ((((((Fr.refl [w.heap.size + 1] w4).cset _ _ (.inl (by simp))).cset _ _ (.inl (by simp))).cset _ _ (.inl (by simp))).cset _ _ (.inl (by simp))).cset _ _ (.inl (by simp))) (by simp))


set_option maxRecDepth 100000 in
set_option maxHeartbeats 400000 in
theorem hr_k1 (w : World) (b mb : Nat) (lv : Value) (L : List En) (s : Sk) (bv : Value) (l : List UInt8) (hs : s.Wf) (hN : NotIn w b mb lv L) (hb : SlEx w bv (u8s l)) (hlen : L.length ≤ 100000) (m : Mg) (hmf : mfrom l = some m) (h4 : (s.state == 4) = false) (hsc : skcheck L m = true) (n0 n1 : Nat) (hn0 : m.nums[0]? = some n0) (hn1 : m.nums[1]? = some n1) (h5 : ((n0 : Int) != (s.other : Int)) = false) (h6 : ((n1 : Int) != (s.own : Int)) = false) (hk : m.kind = 1) (hln : 3 ≤ m.nums.length) :
    Calls Try.prog 24 #[skV s, .pointer (some ⟨b, 0, none⟩), bv] w fun e w' => SkSent w w' b mb lv (hearHello L s m).1 (hearHello L s m).2 e := by
  have HSC := Lib.hid hsc
  have HN0 := Lib.hid hn0
  have HN1 := Lib.hid hn1
  have HLEN : Hid (0 < m.nums.length ∧ 1 < m.nums.length) := ⟨(List.getElem?_eq_some_iff.1 hn0).1, (List.getElem?_eq_some_iff.1 hn1).1⟩
  clear hsc hn0 hn1
  have HK := Lib.hid hk
  have HLN := Lib.hid hln
  obtain ⟨⟨s', L', bs⟩, hX⟩ : ∃ t, hearHello L s m = t := ⟨_, rfl⟩
  rw [hX]
  have HX := Lib.hid hX
  clear hk hln hX
  have HN := Lib.hid hN
  have HS := Lib.hid hs
  have HB := Lib.hid hb
  have HNL : Hid (∀ q, q ∈ NBlocks b mb lv → q < w.heap.size) := NotIn.blt hN
  have HMF := Lib.hid hmf
  clear hN hs hb hmf
  unfold skV
  go_enter Try.func24, Try.ntmps24
  go_wp2_with fail
  obtain ⟨w1, hw1⟩ : ∃ w1, (w.alloc (.cells #[.int .i64 s.state, .int .i64 s.own, .int .i64 s.other, .int .u64 s.nonce, .int .u64 s.echo] 46)).alloc (.cells #[.int .i64 0, .int .i64 0, .int .i64 0, .int .u64 0, .int .u64 0] 46) = w1 := ⟨_, rfl⟩
  rw [hw1]
  have hf1 : Fr [] w w1 := by
    rw [← hw1]
    exact ((Fr.refl [] w).calloc _).calloc _
  have HA1 : Hid (Cells w1 w.heap.size 46 [.int .i64 s.state, .int .i64 s.own, .int .i64 s.other, .int .u64 s.nonce, .int .u64 s.echo]) := by
    rw [← hw1]
    exact (Cells.new w _ _).alloc _
  have HR1 : Hid (Cells w1 (w.heap.size + 1) 46 [.int .i64 0, .int .i64 0, .int .i64 0, .int .u64 0, .int .u64 0]) := by
    rw [← hw1]
    have := Cells.new (w.alloc (.cells #[.int .i64 s.state, .int .i64 s.own, .int .i64 s.other, .int .u64 s.nonce, .int .u64 s.echo] 46)) 46 [.int .i64 0, .int .i64 0, .int .i64 0, .int .u64 0, .int .u64 0]
    rw [World.size_alloc] at this
    exact this
  have HF1 := Lib.hid hf1
  clear hw1 hf1
  refine (wr_from_ex w1 bv l (HB.out.fr HF1.out (by simp))).mono ?_
  rintro e w2 ⟨hg, hf2⟩
  unfold FromGot at hg
  rw [HMF.out] at hg
  have HF2 := Lib.hid (HF1.out.trans hf2)
  have HA2 := Lib.hid (HA1.out.fr hf2 (by simp))
  have HR2 := Lib.hid (HR1.out.fr hf2 (by simp))
  obtain ⟨nv, av, bdv, rfl, hn2, ha2, hb2⟩ := hg
  have HM2 : Hid (MsgAt w2 nv av bdv m) := ⟨(sl_of_own hn2).ex, ads_of_own ha2, (sl_of_own hb2).ex, mfrom_wf HMF.out⟩
  have hz2 : w.heap.size ≤ w2.heap.size := HF2.out.size
  obtain ⟨na, nc, hnv⟩ := HM2.out.nums.shape
  obtain ⟨aa, ac, hav⟩ := ads_shape HM2.out.addrs
  obtain ⟨ba, bc, hbv⟩ := HM2.out.body.shape
  rw [u64s_length] at hnv
  rw [u8s_length] at hbv
  clear hn2 ha2 hb2 hf2
  subst hnv hav hbv
  unfold mgV
  go_wp2_with fail
  obtain ⟨w3, hw3⟩ : ∃ w3, w2.alloc (.cells #[.int .i64 m.kind, .slice na m.nums.length nc, .slice aa m.addrs.length ac, .slice ba m.body.length bc] 56) = w3 := ⟨_, rfl⟩
  rw [hw3]
  have hf3 : Fr [] w2 w3 := by
    rw [← hw3]
    exact Fr.alloc _ _ _
  have HM3 : Hid (Cells w3 w2.heap.size 56 [.int .i64 m.kind, .slice na m.nums.length nc, .slice aa m.addrs.length ac, .slice ba m.body.length bc]) := by
    rw [← hw3]
    exact Cells.new _ _ _
  have HA3 := Lib.hid (HA2.out.fr hf3 (by simp))
  have HR3 := Lib.hid (HR2.out.fr hf3 (by simp))
  have HF3 := Lib.hid (HF2.out.trans hf3)
  have HG3 := Lib.hid (HM2.out.fr hf3 (by simp) (by simp) (by simp))
  clear hw3 hf3
  have HCK : Hid (∀ p : GrowTo [] w3, Calls Try.prog 28 #[.pointer (some ⟨b, 0, none⟩), .agg #[.int .i64 m.kind, .slice na m.nums.length nc, .slice aa m.addrs.length ac, .slice ba m.body.length bc]] p.world fun e w' => e = .returned (.bool true) ∧ Fr [] p.world w') := by
    intro p
    have h := sk_check p.world b mb lv L m _ _ _ (HN.out.fr (HF3.out.trans p.fr) (by simp)) (HG3.out.fr p.fr (by simp) (by simp) (by simp)) hlen
    rw [HSC.out] at h
    exact h
  obtain ⟨g, off, hna, hg, hc0⟩ := sl_some (k := 0) HG3.out.nums (by rw [u64s_length]; exact HLEN.out.1)
  obtain ⟨g', off', hna', _, hc1⟩ := sl_some (k := 1) HG3.out.nums (by rw [u64s_length]; exact HLEN.out.2)
  subst hna
  simp at hna'
  obtain ⟨rfl, rfl⟩ := hna'
  simp only [u64s, List.getElem?_map, HN0.out, HN1.out, Option.map_some, Nat.add_zero] at hc0 hc1
  have c0 : ∀ p : GrowTo [] w3, p.world.cell? ⟨g, off, none⟩ = some (.int .u64 n0) := fun p => (World.cell?_of_block (w := w3) (p.fr.block g hg (by simp))).trans hc0
  have c1 : ∀ p : GrowTo [] w3, p.world.cell? ⟨g, off + 1, none⟩ = some (.int .u64 n1) := fun p => (World.cell?_of_block (w := w3) (p.fr.block g hg (by simp))).trans hc1
  have hi0 : (0 : Int) < (m.nums.length : Int) := by have := HLEN.out.1; omega
  have hi1 : (1 : Int) < (m.nums.length : Int) := by have := HLEN.out.2; omega
  have hi0' : 0 < m.nums.length := HLEN.out.1
  have hi1' : 1 < m.nums.length := HLEN.out.2
  have ho : IntKind.u64.wrap (s.other : Int) = s.other := IntWalk.u64_in _ (by have := HS.out.other; omega)
  have hw : IntKind.u64.wrap (s.own : Int) = s.own := IntWalk.u64_in _ (by have := HS.out.own; omega)
  have ho0 : (0 : Int) ≤ (s.other : Int) := by omega
  have hw0 : (0 : Int) ≤ (s.own : Int) := by omega
  clear hc0 hc1 hg
  have a0 := fun p => grow_cell (S := []) HA3.out (by simp) 0 p
  have a1 := fun p => grow_cell (S := []) HA3.out (by simp) 1 p
  have a2 := fun p => grow_cell (S := []) HA3.out (by simp) 2 p
  have a3 := fun p => grow_cell (S := []) HA3.out (by simp) 3 p
  have a4 := fun p => grow_cell (S := []) HA3.out (by simp) 4 p
  have m0 := fun p => grow_cell (S := []) HM3.out (by simp) 0 p
  have m1 := fun p => grow_cell (S := []) HM3.out (by simp) 1 p
  have m2 := fun p => grow_cell (S := []) HM3.out (by simp) 2 p
  have m3 := fun p => grow_cell (S := []) HM3.out (by simp) 3 p
  simp only [List.getElem?_cons_zero, List.getElem?_cons_succ] at a0 a1 a2 a3 a4 m0 m1 m2 m3
  refine wp_region_grow [] (by kernel_rfl) (by kernel_rfl) ?_
  repeat (go_big_quiet_step ((go_at_call 28; exact grow_of (HCK.out _))))
  refine wpQuiet_nil ?_
  intro _ hw'
  obtain ⟨p, hw''⟩ := hw'
  subst hw''
  have HF4 : Hid (Fr [] w3 p.world) := p.fr
  generalize p.world = w4 at *
  clear a0 a1 a2 a3 a4 m0 m1 m2 m3 c0 c1
  have HA4 := Lib.hid (HA3.out.fr HF4.out (by simp))
  have HR4 := Lib.hid (HR3.out.fr HF4.out (by simp))
  have HM4 := Lib.hid (HM3.out.fr HF4.out (by simp))
  have HG4 := Lib.hid (HG3.out.fr HF4.out (by simp) (by simp) (by simp))
  have hz4 : w2.heap.size < w4.heap.size := HM4.out.lt
  have hzr : w.heap.size + 1 < w2.heap.size := HR2.out.lt
  have HF4w := Lib.hid (HF3.out.trans HF4.out)
  -- the map, laid and filled
  obtain ⟨w5, hw5⟩ : ∃ w5, w4.alloc (.map #[] 0) = w5 := ⟨_, rfl⟩
  obtain ⟨w6, hw6⟩ : ∃ w6, w5.putObj w4.heap.size (.map #[{ key := .int .i64 1, val := .func (.func 52) #[] #[], born := 0 }] 1) = w6 := ⟨_, rfl⟩
  obtain ⟨w7, hw7⟩ : ∃ w7, w6.putObj w4.heap.size (.map #[{ key := .int .i64 1, val := .func (.func 52) #[] #[], born := 0 }, { key := .int .i64 2, val := .func (.func 53) #[] #[], born := 1 }] 2) = w7 := ⟨_, rfl⟩
  have hb5 : w5.heap[w4.heap.size]? = some (.map #[] 0) := by
    rw [← hw5]
    exact World.alloc_heap_new _ _
  have hb6 : w6.heap[w4.heap.size]? = some (.map #[{ key := .int .i64 1, val := .func (.func 52) #[] #[], born := 0 }] 1) := by
    rw [← hw6]
    exact World.putObj_heap_same (Array.getElem?_eq_some_iff.1 hb5).1
  have hb7 : w7.heap[w4.heap.size]? = some (.map #[{ key := .int .i64 1, val := .func (.func 52) #[] #[], born := 0 }, { key := .int .i64 2, val := .func (.func 53) #[] #[], born := 1 }] 2) := by
    rw [← hw7]
    exact World.putObj_heap_same (Array.getElem?_eq_some_iff.1 hb6).1
  have hp5 := run_put_int (n := 1) (val := .func (.func 52) #[] #[]) Try.underlying110 Try.underlying3 hb5 rfl
  have hp6 := run_put_int (n := 2) (val := .func (.func 53) #[] #[]) Try.underlying110 Try.underlying3 hb6 rfl
  have hl7 := run_look_int (P := Try.prog) (n := 1) (i := 0) (val := .func (.func 52) #[] #[]) Try.underlying110 Try.underlying3 hb7 rfl
  have hpush5 : (#[] : Array MapEntry).push { key := .int .i64 1, val := .func (.func 52) #[] #[], born := 0 } = #[{ key := .int .i64 1, val := .func (.func 52) #[] #[], born := 0 }] := rfl
  have hpush6 : (#[{ key := .int .i64 1, val := .func (.func 52) #[] #[], born := 0 }] : Array MapEntry).push { key := .int .i64 2, val := .func (.func 53) #[] #[], born := 1 } = #[{ key := .int .i64 1, val := .func (.func 52) #[] #[], born := 0 }, { key := .int .i64 2, val := .func (.func 53) #[] #[], born := 1 }] := rfl
  rw [hpush5, hw6] at hp5
  rw [hpush6, hw7] at hp6
  have hf5 : Fr [] w4 w5 := by
    rw [← hw5]
    exact Fr.alloc _ _ _
  have hf6 : Fr [w4.heap.size] w5 w6 := by
    rw [← hw6]
    exact Fr.putObj _ _ _
  have hf6b : Fr [w4.heap.size] w6 w7 := by
    rw [← hw7]
    exact Fr.putObj _ _ _
  have hf7 : Fr [] w4 w7 := (hf5.step hf6 (by simp)).step hf6b (by simp)
  have HF7 := Lib.hid (HF4w.out.trans hf7)
  have HA7 := Lib.hid (HA4.out.fr hf7 (by simp))
  have HR7 := Lib.hid (HR4.out.fr hf7 (by simp))
  have HM7 := Lib.hid (HM4.out.fr hf7 (by simp))
  have HG7 := Lib.hid (HG4.out.fr hf7 (by simp) (by simp) (by simp))
  have a0 := HA7.out.cell 0
  have a1 := HA7.out.cell 1
  have a2 := HA7.out.cell 2
  have a3 := HA7.out.cell 3
  have a4 := HA7.out.cell 4
  have m0 := HM7.out.cell 0
  have m1 := HM7.out.cell 1
  have m2 := HM7.out.cell 2
  have m3 := HM7.out.cell 3
  simp only [List.getElem?_cons_zero, List.getElem?_cons_succ] at a0 a1 a2 a3 a4 m0 m1 m2 m3
  have hK := HK.out
  rw [hK] at m0
  clear hf5 hf6 hf6b hf7 hb5 hb6 hb7 hpush5 hpush6 hw6 hw7 hK hz4 hzr
  have hmk := run_makeMap (P := Try.prog) 110 w4
  rw [hw5] at hmk
  clear hw5
  have hh := sk_hearHello w7 b mb lv L s m _ _ _ HS.out (HN.out.fr HF7.out (by simp)) HG7.out HLN.out hlen
  unfold mgV skV at hh
  rw [HK.out, HX.out] at hh
  have HH := Lib.hid hh
  clear hh
  go_wp2_with fail
  refine HH.out.mono ?_
  rintro e w8 ⟨v8, rfl, hs8⟩
  have HS8 := Lib.hid hs8
  have hf8 := hs8.2.2.1
  have HR8 := Lib.hid (HR7.out.fr hf8 (fun hm => by have := HNL.out _ hm; omega))
  clear hs8 hf8 a0 a1 a2 a3 a4 m0 m1 m2 m3
  have y0 := HR8.out.cell 0
  have y1 := HR8.out.cell 1
  have y2 := HR8.out.cell 2
  have y3 := HR8.out.cell 3
  have y4 := HR8.out.cell 4
  simp only [List.getElem?_cons_zero, List.getElem?_cons_succ] at y0 y1 y2 y3 y4
  have z0 := HR8.out.frozen 0
  have z1 := HR8.out.frozen 1
  have z2 := HR8.out.frozen 2
  have z3 := HR8.out.frozen 3
  have z4 := HR8.out.frozen 4
  unfold skV
  go_wp2_with fail
  refine bodyPost_ret (v := .tuple #[skV s', v8]) (by simp [results, skV, Try.results24, go_sem, y0, y1, y2, y3, y4]) rfl ?_
  refine ⟨v8, rfl, SentAt.finish (r := w.heap.size + 1) HS8.out HF7.out ?_ (by omega) HR7.out.lt HNL.out⟩
  exact (((((Fr.refl _ w8).cset _ _ (.inl (by simp))).cset _ _ (.inl (by simp))).cset _ _ (.inl (by simp))).cset _ _ (.inl (by simp))).cset _ _ (.inl (by simp))


set_option maxRecDepth 100000 in
set_option maxHeartbeats 400000 in
theorem hr_k2 (w : World) (b mb : Nat) (lv : Value) (L : List En) (s : Sk) (bv : Value) (l : List UInt8) (hs : s.Wf) (hN : NotIn w b mb lv L) (hb : SlEx w bv (u8s l)) (hlen : L.length ≤ 100000) (m : Mg) (hmf : mfrom l = some m) (h4 : (s.state == 4) = false) (hsc : skcheck L m = true) (n0 n1 : Nat) (hn0 : m.nums[0]? = some n0) (hn1 : m.nums[1]? = some n1) (h5 : ((n0 : Int) != (s.other : Int)) = false) (h6 : ((n1 : Int) != (s.own : Int)) = false) (hk : m.kind = 2) (hln : 4 ≤ m.nums.length) :
    Calls Try.prog 24 #[skV s, .pointer (some ⟨b, 0, none⟩), bv] w fun e w' => SkSent w w' b mb lv (hearAnswer L s m).1 (hearAnswer L s m).2 e := by
  have HSC := Lib.hid hsc
  have HN0 := Lib.hid hn0
  have HN1 := Lib.hid hn1
  have HLEN : Hid (0 < m.nums.length ∧ 1 < m.nums.length) := ⟨(List.getElem?_eq_some_iff.1 hn0).1, (List.getElem?_eq_some_iff.1 hn1).1⟩
  clear hsc hn0 hn1
  have HK := Lib.hid hk
  have HLN := Lib.hid hln
  obtain ⟨⟨s', L', bs⟩, hX⟩ : ∃ t, hearAnswer L s m = t := ⟨_, rfl⟩
  rw [hX]
  have HX := Lib.hid hX
  clear hk hln hX
  have HN := Lib.hid hN
  have HS := Lib.hid hs
  have HB := Lib.hid hb
  have HNL : Hid (∀ q, q ∈ NBlocks b mb lv → q < w.heap.size) := NotIn.blt hN
  have HMF := Lib.hid hmf
  clear hN hs hb hmf
  unfold skV
  go_enter Try.func24, Try.ntmps24
  go_wp2_with fail
  obtain ⟨w1, hw1⟩ : ∃ w1, (w.alloc (.cells #[.int .i64 s.state, .int .i64 s.own, .int .i64 s.other, .int .u64 s.nonce, .int .u64 s.echo] 46)).alloc (.cells #[.int .i64 0, .int .i64 0, .int .i64 0, .int .u64 0, .int .u64 0] 46) = w1 := ⟨_, rfl⟩
  rw [hw1]
  have hf1 : Fr [] w w1 := by
    rw [← hw1]
    exact ((Fr.refl [] w).calloc _).calloc _
  have HA1 : Hid (Cells w1 w.heap.size 46 [.int .i64 s.state, .int .i64 s.own, .int .i64 s.other, .int .u64 s.nonce, .int .u64 s.echo]) := by
    rw [← hw1]
    exact (Cells.new w _ _).alloc _
  have HR1 : Hid (Cells w1 (w.heap.size + 1) 46 [.int .i64 0, .int .i64 0, .int .i64 0, .int .u64 0, .int .u64 0]) := by
    rw [← hw1]
    have := Cells.new (w.alloc (.cells #[.int .i64 s.state, .int .i64 s.own, .int .i64 s.other, .int .u64 s.nonce, .int .u64 s.echo] 46)) 46 [.int .i64 0, .int .i64 0, .int .i64 0, .int .u64 0, .int .u64 0]
    rw [World.size_alloc] at this
    exact this
  have HF1 := Lib.hid hf1
  clear hw1 hf1
  refine (wr_from_ex w1 bv l (HB.out.fr HF1.out (by simp))).mono ?_
  rintro e w2 ⟨hg, hf2⟩
  unfold FromGot at hg
  rw [HMF.out] at hg
  have HF2 := Lib.hid (HF1.out.trans hf2)
  have HA2 := Lib.hid (HA1.out.fr hf2 (by simp))
  have HR2 := Lib.hid (HR1.out.fr hf2 (by simp))
  obtain ⟨nv, av, bdv, rfl, hn2, ha2, hb2⟩ := hg
  have HM2 : Hid (MsgAt w2 nv av bdv m) := ⟨(sl_of_own hn2).ex, ads_of_own ha2, (sl_of_own hb2).ex, mfrom_wf HMF.out⟩
  have hz2 : w.heap.size ≤ w2.heap.size := HF2.out.size
  obtain ⟨na, nc, hnv⟩ := HM2.out.nums.shape
  obtain ⟨aa, ac, hav⟩ := ads_shape HM2.out.addrs
  obtain ⟨ba, bc, hbv⟩ := HM2.out.body.shape
  rw [u64s_length] at hnv
  rw [u8s_length] at hbv
  clear hn2 ha2 hb2 hf2
  subst hnv hav hbv
  unfold mgV
  go_wp2_with fail
  obtain ⟨w3, hw3⟩ : ∃ w3, w2.alloc (.cells #[.int .i64 m.kind, .slice na m.nums.length nc, .slice aa m.addrs.length ac, .slice ba m.body.length bc] 56) = w3 := ⟨_, rfl⟩
  rw [hw3]
  have hf3 : Fr [] w2 w3 := by
    rw [← hw3]
    exact Fr.alloc _ _ _
  have HM3 : Hid (Cells w3 w2.heap.size 56 [.int .i64 m.kind, .slice na m.nums.length nc, .slice aa m.addrs.length ac, .slice ba m.body.length bc]) := by
    rw [← hw3]
    exact Cells.new _ _ _
  have HA3 := Lib.hid (HA2.out.fr hf3 (by simp))
  have HR3 := Lib.hid (HR2.out.fr hf3 (by simp))
  have HF3 := Lib.hid (HF2.out.trans hf3)
  have HG3 := Lib.hid (HM2.out.fr hf3 (by simp) (by simp) (by simp))
  clear hw3 hf3
  have HCK : Hid (∀ p : GrowTo [] w3, Calls Try.prog 28 #[.pointer (some ⟨b, 0, none⟩), .agg #[.int .i64 m.kind, .slice na m.nums.length nc, .slice aa m.addrs.length ac, .slice ba m.body.length bc]] p.world fun e w' => e = .returned (.bool true) ∧ Fr [] p.world w') := by
    intro p
    have h := sk_check p.world b mb lv L m _ _ _ (HN.out.fr (HF3.out.trans p.fr) (by simp)) (HG3.out.fr p.fr (by simp) (by simp) (by simp)) hlen
    rw [HSC.out] at h
    exact h
  obtain ⟨g, off, hna, hg, hc0⟩ := sl_some (k := 0) HG3.out.nums (by rw [u64s_length]; exact HLEN.out.1)
  obtain ⟨g', off', hna', _, hc1⟩ := sl_some (k := 1) HG3.out.nums (by rw [u64s_length]; exact HLEN.out.2)
  subst hna
  simp at hna'
  obtain ⟨rfl, rfl⟩ := hna'
  simp only [u64s, List.getElem?_map, HN0.out, HN1.out, Option.map_some, Nat.add_zero] at hc0 hc1
  have c0 : ∀ p : GrowTo [] w3, p.world.cell? ⟨g, off, none⟩ = some (.int .u64 n0) := fun p => (World.cell?_of_block (w := w3) (p.fr.block g hg (by simp))).trans hc0
  have c1 : ∀ p : GrowTo [] w3, p.world.cell? ⟨g, off + 1, none⟩ = some (.int .u64 n1) := fun p => (World.cell?_of_block (w := w3) (p.fr.block g hg (by simp))).trans hc1
  have hi0 : (0 : Int) < (m.nums.length : Int) := by have := HLEN.out.1; omega
  have hi1 : (1 : Int) < (m.nums.length : Int) := by have := HLEN.out.2; omega
  have hi0' : 0 < m.nums.length := HLEN.out.1
  have hi1' : 1 < m.nums.length := HLEN.out.2
  have ho : IntKind.u64.wrap (s.other : Int) = s.other := IntWalk.u64_in _ (by have := HS.out.other; omega)
  have hw : IntKind.u64.wrap (s.own : Int) = s.own := IntWalk.u64_in _ (by have := HS.out.own; omega)
  have ho0 : (0 : Int) ≤ (s.other : Int) := by omega
  have hw0 : (0 : Int) ≤ (s.own : Int) := by omega
  clear hc0 hc1 hg
  have a0 := fun p => grow_cell (S := []) HA3.out (by simp) 0 p
  have a1 := fun p => grow_cell (S := []) HA3.out (by simp) 1 p
  have a2 := fun p => grow_cell (S := []) HA3.out (by simp) 2 p
  have a3 := fun p => grow_cell (S := []) HA3.out (by simp) 3 p
  have a4 := fun p => grow_cell (S := []) HA3.out (by simp) 4 p
  have m0 := fun p => grow_cell (S := []) HM3.out (by simp) 0 p
  have m1 := fun p => grow_cell (S := []) HM3.out (by simp) 1 p
  have m2 := fun p => grow_cell (S := []) HM3.out (by simp) 2 p
  have m3 := fun p => grow_cell (S := []) HM3.out (by simp) 3 p
  simp only [List.getElem?_cons_zero, List.getElem?_cons_succ] at a0 a1 a2 a3 a4 m0 m1 m2 m3
  refine wp_region_grow [] (by kernel_rfl) (by kernel_rfl) ?_
  repeat (go_big_quiet_step ((go_at_call 28; exact grow_of (HCK.out _))))
  refine wpQuiet_nil ?_
  intro _ hw'
  obtain ⟨p, hw''⟩ := hw'
  subst hw''
  have HF4 : Hid (Fr [] w3 p.world) := p.fr
  generalize p.world = w4 at *
  clear a0 a1 a2 a3 a4 m0 m1 m2 m3 c0 c1
  have HA4 := Lib.hid (HA3.out.fr HF4.out (by simp))
  have HR4 := Lib.hid (HR3.out.fr HF4.out (by simp))
  have HM4 := Lib.hid (HM3.out.fr HF4.out (by simp))
  have HG4 := Lib.hid (HG3.out.fr HF4.out (by simp) (by simp) (by simp))
  have hz4 : w2.heap.size < w4.heap.size := HM4.out.lt
  have hzr : w.heap.size + 1 < w2.heap.size := HR2.out.lt
  have HF4w := Lib.hid (HF3.out.trans HF4.out)
  -- the map, laid and filled
  obtain ⟨w5, hw5⟩ : ∃ w5, w4.alloc (.map #[] 0) = w5 := ⟨_, rfl⟩
  obtain ⟨w6, hw6⟩ : ∃ w6, w5.putObj w4.heap.size (.map #[{ key := .int .i64 1, val := .func (.func 52) #[] #[], born := 0 }] 1) = w6 := ⟨_, rfl⟩
  obtain ⟨w7, hw7⟩ : ∃ w7, w6.putObj w4.heap.size (.map #[{ key := .int .i64 1, val := .func (.func 52) #[] #[], born := 0 }, { key := .int .i64 2, val := .func (.func 53) #[] #[], born := 1 }] 2) = w7 := ⟨_, rfl⟩
  have hb5 : w5.heap[w4.heap.size]? = some (.map #[] 0) := by
    rw [← hw5]
    exact World.alloc_heap_new _ _
  have hb6 : w6.heap[w4.heap.size]? = some (.map #[{ key := .int .i64 1, val := .func (.func 52) #[] #[], born := 0 }] 1) := by
    rw [← hw6]
    exact World.putObj_heap_same (Array.getElem?_eq_some_iff.1 hb5).1
  have hb7 : w7.heap[w4.heap.size]? = some (.map #[{ key := .int .i64 1, val := .func (.func 52) #[] #[], born := 0 }, { key := .int .i64 2, val := .func (.func 53) #[] #[], born := 1 }] 2) := by
    rw [← hw7]
    exact World.putObj_heap_same (Array.getElem?_eq_some_iff.1 hb6).1
  have hp5 := run_put_int (n := 1) (val := .func (.func 52) #[] #[]) Try.underlying110 Try.underlying3 hb5 rfl
  have hp6 := run_put_int (n := 2) (val := .func (.func 53) #[] #[]) Try.underlying110 Try.underlying3 hb6 rfl
  have hl7 := run_look_int (P := Try.prog) (n := 2) (i := 1) (val := .func (.func 53) #[] #[]) Try.underlying110 Try.underlying3 hb7 rfl
  have hpush5 : (#[] : Array MapEntry).push { key := .int .i64 1, val := .func (.func 52) #[] #[], born := 0 } = #[{ key := .int .i64 1, val := .func (.func 52) #[] #[], born := 0 }] := rfl
  have hpush6 : (#[{ key := .int .i64 1, val := .func (.func 52) #[] #[], born := 0 }] : Array MapEntry).push { key := .int .i64 2, val := .func (.func 53) #[] #[], born := 1 } = #[{ key := .int .i64 1, val := .func (.func 52) #[] #[], born := 0 }, { key := .int .i64 2, val := .func (.func 53) #[] #[], born := 1 }] := rfl
  rw [hpush5, hw6] at hp5
  rw [hpush6, hw7] at hp6
  have hf5 : Fr [] w4 w5 := by
    rw [← hw5]
    exact Fr.alloc _ _ _
  have hf6 : Fr [w4.heap.size] w5 w6 := by
    rw [← hw6]
    exact Fr.putObj _ _ _
  have hf6b : Fr [w4.heap.size] w6 w7 := by
    rw [← hw7]
    exact Fr.putObj _ _ _
  have hf7 : Fr [] w4 w7 := (hf5.step hf6 (by simp)).step hf6b (by simp)
  have HF7 := Lib.hid (HF4w.out.trans hf7)
  have HA7 := Lib.hid (HA4.out.fr hf7 (by simp))
  have HR7 := Lib.hid (HR4.out.fr hf7 (by simp))
  have HM7 := Lib.hid (HM4.out.fr hf7 (by simp))
  have HG7 := Lib.hid (HG4.out.fr hf7 (by simp) (by simp) (by simp))
  have a0 := HA7.out.cell 0
  have a1 := HA7.out.cell 1
  have a2 := HA7.out.cell 2
  have a3 := HA7.out.cell 3
  have a4 := HA7.out.cell 4
  have m0 := HM7.out.cell 0
  have m1 := HM7.out.cell 1
  have m2 := HM7.out.cell 2
  have m3 := HM7.out.cell 3
  simp only [List.getElem?_cons_zero, List.getElem?_cons_succ] at a0 a1 a2 a3 a4 m0 m1 m2 m3
  have hK := HK.out
  rw [hK] at m0
  clear hf5 hf6 hf6b hf7 hb5 hb6 hb7 hpush5 hpush6 hw6 hw7 hK hz4 hzr
  have hmk := run_makeMap (P := Try.prog) 110 w4
  rw [hw5] at hmk
  clear hw5
  have hh := sk_hearAnswer w7 b mb lv L s m _ _ _ HS.out (HN.out.fr HF7.out (by simp)) HG7.out HLN.out hlen
  unfold mgV skV at hh
  rw [HK.out, HX.out] at hh
  have HH := Lib.hid hh
  clear hh
  go_wp2_with fail
  refine HH.out.mono ?_
  rintro e w8 ⟨v8, rfl, hs8⟩
  have HS8 := Lib.hid hs8
  have hf8 := hs8.2.2.1
  have HR8 := Lib.hid (HR7.out.fr hf8 (fun hm => by have := HNL.out _ hm; omega))
  clear hs8 hf8 a0 a1 a2 a3 a4 m0 m1 m2 m3
  have y0 := HR8.out.cell 0
  have y1 := HR8.out.cell 1
  have y2 := HR8.out.cell 2
  have y3 := HR8.out.cell 3
  have y4 := HR8.out.cell 4
  simp only [List.getElem?_cons_zero, List.getElem?_cons_succ] at y0 y1 y2 y3 y4
  have z0 := HR8.out.frozen 0
  have z1 := HR8.out.frozen 1
  have z2 := HR8.out.frozen 2
  have z3 := HR8.out.frozen 3
  have z4 := HR8.out.frozen 4
  unfold skV
  go_wp2_with fail
  refine bodyPost_ret (v := .tuple #[skV s', v8]) (by simp [results, skV, Try.results24, go_sem, y0, y1, y2, y3, y4]) rfl ?_
  refine ⟨v8, rfl, SentAt.finish (r := w.heap.size + 1) HS8.out HF7.out ?_ (by omega) HR7.out.lt HNL.out⟩
  exact (((((Fr.refl _ w8).cset _ _ (.inl (by simp))).cset _ _ (.inl (by simp))).cset _ _ (.inl (by simp))).cset _ _ (.inl (by simp))).cset _ _ (.inl (by simp))


theorem sk_hear (w : World) (b mb : Nat) (lv : Value) (L : List En) (s : Sk) (bv : Value) (l : List UInt8) (hs : s.Wf) (hN : NotIn w b mb lv L) (hb : SlEx w bv (u8s l)) (hlen : L.length ≤ 100000) :
    Calls Try.prog 24 #[skV s, .pointer (some ⟨b, 0, none⟩), bv] w fun e w' => SkSent w w' b mb lv (heard L s l).1 (heard L s l).2 e := by
  unfold heard
  cases hmf : mfrom l with
  | none => exact hr_none w b mb lv L s bv l hN hb hmf
  | some m =>
    dsimp only
    unfold heardM
    by_cases h4 : s.state = 4
    · rw [if_pos (.inl h4)]
      exact hr_over w b mb lv L s bv l hN hb m hmf (by simp [h4])
    have h4' : (s.state == 4) = false := by
      rw [beq_eq_false_iff_ne]
      exact h4
    cases hsc : skcheck L m with
    | false =>
      rw [if_pos (.inr (.inl rfl))]
      exact hr_bad w b mb lv L s bv l hN hb hlen m hmf h4' hsc
    | true =>
      obtain ⟨hk, hm⟩ := skcheck_kind hsc
      have hln := kind_len hm
      have hln4 : 4 ≤ m.nums.length := by
        rcases hk with h | h
        · have := hln.1 h
          omega
        · have := hln.2 h
          omega
      have hn0 : m.nums[0]? = some (m.nums.getD 0 0) := by
        simp [List.getD, show 0 < m.nums.length from by omega]
      have hn1 : m.nums[1]? = some (m.nums.getD 1 0) := by
        simp [List.getD, show 1 < m.nums.length from by omega]
      by_cases h5 : m.nums.getD 0 0 = s.other
      · by_cases h6 : m.nums.getD 1 0 = s.own
        · rw [if_neg (by rintro (h | h | h | h); exact h4 h; cases h; exact h h5; exact h h6)]
          rcases hk with hk | hk
          · rw [if_pos hk]
            exact hr_k1 w b mb lv L s bv l hs hN hb hlen m hmf h4' hsc _ _ hn0 hn1 (by rw [h5]; simp) (by rw [h6]; simp) hk (by omega)
          · rw [if_neg (by omega)]
            exact hr_k2 w b mb lv L s bv l hs hN hb hlen m hmf h4' hsc _ _ hn0 hn1 (by rw [h5]; simp) (by rw [h6]; simp) hk (by omega)
        · rw [if_pos (.inr (.inr (.inr h6)))]
          exact hr_own w b mb lv L s bv l hs hN hb hlen m hmf h4' hsc _ _ hn0 hn1 (by rw [h5]; simp) (by rw [bne_iff_ne]; omega)
      · rw [if_pos (.inr (.inr (.inl h5)))]
        exact hr_oth w b mb lv L s bv l hs hN hb hlen m hmf h4' hsc _ _ hn0 hn1 (by rw [bne_iff_ne]; omega)
end Go.Proofs.Ytjfmgpelkhgodaa
