/- The walk of shake.Check. -/
import Derived.Test.YtjfmgpelkhgodaaShakeP
namespace Go.Proofs.Ytjfmgpelkhgodaa
open Go.RowKit
attribute [local go_sem ↓ high] run_min_whole run_max_whole

/-- A call of a Go function, its arguments whatever they are, as one step of a region that draws its order. -/
theorem step_callN {P : Program} {ops : Array Oper} {o : Oper} {a : Act} {w : World} {K : Act → World → Prop} {Q : Exit → Act → World → Prop} {E : Prop} (hgd : o.guard = none) (f : FuncId) (args : Array Operand) (ts : Array TypeId)
    (ho : o.op = .call { callee := .value (.func f), args := args, argTypes := ts }) (he : ∀ args w, (callFunc f args).run P w = .ok (.enter f args) w) (vs : Array Value) (hv : args.toList.map a.eval = vs.toList)
    {R : Ending → World → Prop} (hc : Calls P f vs w R) (h : ∀ e w', R e w' → ∃ u, e = .returned u ∧ K (a.put o.dst u) w') :
    if Region.wanted o (yielded ops a.tmps) = true then Oper.wp P o a w K Q else E := by
  have hw : Region.wanted o (yielded ops a.tmps) = true := by simp [Region.wanted, hgd]
  rw [if_pos hw]
  obtain ⟨dst, op, type, pos, after, guard⟩ := o
  simp only at ho hgd h
  subst ho hgd
  have hv : args.map a.eval = vs := by
    apply Array.toList_inj.1
    simpa using hv
  subst hv
  unfold Oper.wp
  simp [go_sem, he]
  refine hc.mono ?_
  intro e w' hR
  obtain ⟨u, rfl, hK⟩ := h e w' hR
  exact hK

theorem ret_beq (x y : Int) : Ending.returned (.bool (x == y)) = .returned (.bool (decide (x = y))) := by
  have : (x == y) = decide (x = y) := by
    rw [Bool.eq_iff_iff]
    simp
  rw [this]
theorem en_ok {n : Nat} (hn : n ≤ 2147483647) : IntKind.i64.wrap (n : Int) = n := IntWalk.i64_in _ (by omega)

set_option maxRecDepth 100000 in
set_option maxHeartbeats 4000000 in
theorem sk_check (w : World) (b mb : Nat) (lv : Value) (L : List En) (m : Mg) (nv av bv : Value) (hN : NotIn w b mb lv L) (h : MsgAt w nv av bv m) (hlen : L.length ≤ 100000) :
    Calls Try.prog 28 #[.pointer (some ⟨b, 0, none⟩), mgV m nv av bv] w fun e w' => e = .returned (.bool (skcheck L m)) ∧ Fr [] w w' := by
  have HN := Lib.hid hN
  have H := Lib.hid h
  obtain ⟨na, nc, hnv⟩ := h.nums.shape
  obtain ⟨aa, ac, hav⟩ := ads_shape h.addrs
  obtain ⟨ba, bc, hbv⟩ := h.body.shape
  rw [u64s_length] at hnv
  rw [u8s_length] at hbv
  clear h hN
  subst hnv hav hbv
  by_cases hk : m.kind = 1 ∨ m.kind = 2
  · obtain ⟨kind, nums, addrs, body⟩ := m
    dsimp only at H hk ⊢
    have HK := Lib.hid hk
    unfold mgV
    dsimp only
    have hmb := Cells.new w 56 [.int .i64 kind, .slice na nums.length nc, .slice aa addrs.length ac, .slice ba body.length bc]
    have HMB := Lib.hid hmb
    clear hmb
    have H1 : Hid (MsgAt (w.alloc (.cells #[.int .i64 kind, .slice na nums.length nc, .slice aa addrs.length ac, .slice ba body.length bc] 56)) (.slice na nums.length nc) (.slice aa addrs.length ac) (.slice ba body.length bc) ⟨kind, nums, addrs, body⟩) := H.out.fr (Fr.alloc _ _ []) (by simp) (by simp) (by simp)
    have k12 : (kind != 1 && kind != 2) = false := by
      rcases hk with rfl | rfl <;> rfl
    by_cases hm : mmay ⟨kind, nums, addrs, body⟩
    · skip
      rcases hk with rfl | rfl
      · obtain ⟨n0, n1, n2, t, rfl⟩ : ∃ n0 n1 n2 t : Nat, nums = [n0, n1, n2, t] := by
          have hl := (kind_len hm).1 rfl
          match nums, hl with
          | [n0, n1, n2, t], _ => exact ⟨n0, n1, n2, t, rfl⟩
        have hb0 := hm.2.2.2.1 n0 (by simp)
        have hbt := hm.2.2.2.1 t (by simp)
        have hn0 := H1.out.nums
        obtain ⟨g, off, hna, hg, hc0⟩ := sl_some (k := 0) H.out.nums (by simp [u64s])
        obtain ⟨g', off', hna', _, hct⟩ := sl_some (k := 3) H.out.nums (by simp [u64s])
        subst hna
        simp at hna'
        obtain ⟨rfl, rfl⟩ := hna'
        simp [u64s] at hc0 hct
        have HC0 := Lib.hid hc0
        have HCT := Lib.hid hct
        clear hc0 hct hn0
        have HMAY := Lib.hid hm
        have hd := decide_eq_true hm
        clear hm k12
        dsimp only [List.length_cons, List.length_nil, Nat.zero_add, Nat.reduceAdd] at *
        by_cases hp : n0 ≤ 2147483647
        · have HSC : Hid (skcheck L ⟨1, [n0, n1, n2, t], addrs, body⟩ = decide (ncheck L (n0 : Nat) (mbytes (bareOf ⟨1, [n0, n1, n2, t], addrs, body⟩)) t = 0)) := by
            show _ = _
            unfold skcheck
            simp [HMAY.out, hp]
          rw [HSC.out]
          go_enter Try.func28, Try.ntmps28
          go_wp2_with fail
          refine (wr_may _ _ _ _ _ H1.out).mono ?_
          rw [hd]
          rintro e w1 ⟨rfl, hf1⟩
          have HF1 : Hid (Fr [] w w1) := ((Fr.refl [] w).calloc _).trans hf1
          have HM1 := Lib.hid (HMB.out.fr hf1 (by simp))
          have HA1 := Lib.hid (H1.out.fr hf1 (by simp) (by simp) (by simp))
          clear hf1 hd
          have c0 : w1.cell? ⟨g, off, none⟩ = some (.int .u64 n0) := (World.cell?_of_block (w := w) (HF1.out.block g hg (by simp))).trans HC0.out
          have m0 := HM1.out.cell 0
          have m1 := HM1.out.cell 1
          have m2 := HM1.out.cell 2
          have m3 := HM1.out.cell 3
          simp only [List.getElem?_cons_zero, List.getElem?_cons_succ] at m0 m1 m2 m3
          have hp' : decide (2147483647 < n0) = false := by simp; omega
          have hp2 : decide ((2147483647 : Int) < (n0 : Int)) = false := by simp; omega
          go_wp2_with fail
          refine (sk_bare w1 ⟨1, [n0, n1, n2, t], addrs, body⟩ _ _ _ HA1.out (by simp) (by simp)).mono ?_
          rintro e w2 ⟨⟨v2, rfl, ho2, _⟩, hf2⟩
          have HF2 := Lib.hid (HF1.out.trans hf2)
          have HM2 := Lib.hid (HM1.out.fr hf2 (by simp))
          have HN2 := Lib.hid (HN.out.fr HF2.out (by simp))
          have HO2 := Lib.hid ho2
          clear c0 m0 m1 m2 m3 hf2 ho2
          have c0 : w2.cell? ⟨g, off, none⟩ = some (.int .u64 n0) := (World.cell?_of_block (w := w) (HF2.out.block g hg (by simp))).trans HC0.out
          have ct : w2.cell? ⟨g, off + 3, none⟩ = some (.int .u64 t) := (World.cell?_of_block (w := w) (HF2.out.block g hg (by simp))).trans HCT.out
          have m1 := HM2.out.cell 1
          simp only [List.getElem?_cons_zero, List.getElem?_cons_succ] at m1
          have hw0 : IntKind.i64.wrap (n0 : Int) = n0 := IntWalk.i64_in _ (by omega)
          have hi0 : (0 : Int) ≤ (n0 : Int) := by omega
          have hi1 : (n0 : Int) ≤ 2147483647 := by omega
          have hwk : IntKind.i64.wrap 3 = 3 := by decide
          have EG : Hid (∀ args w, (callFunc 63 args).run Try.prog w = .ok (.enter 63 args) w) := enters_of Try.func63 (by kernel_rfl) rfl
          go_wp2_with fail
          go_region_law (first
            | (refine step_callN rfl 63 #[.tmp 33, .tmp 38, .tmp 39, .tmp 45] _ rfl EG.out #[.pointer (some ⟨b, 0, none⟩), .int .i64 n0, v2, .int .u64 t] (by rfl) (not_check w2.drew b mb lv L n0 v2 (mbytes (bareOf ⟨1, [n0, n1, n2, t], addrs, body⟩)) t (HN2.out.fr (Fr.drew _ []) (by simp)) ((sl_of_own HO2.out).fr (Fr.drew _ []) (by simp)) (by omega) hlen) ?_
               rintro e w3 ⟨rfl, hf3⟩
               refine ⟨_, rfl, ?_⟩
               have HF3 : Hid (Fr [] w w3) := HF2.out.cdrew.trans hf3
               clear hf3))
          all_goals
            go_wp2_with fail
            go_ret
            exact ⟨ret_beq _ _, HF3.out⟩
        · have HSC : Hid (skcheck L ⟨1, [n0, n1, n2, t], addrs, body⟩ = false) := by
            show _ = _
            unfold skcheck
            simp [hp]
          rw [HSC.out]
          go_enter Try.func28, Try.ntmps28
          go_wp2_with fail
          refine (wr_may _ _ _ _ _ H1.out).mono ?_
          rw [hd]
          rintro e w1 ⟨rfl, hf1⟩
          have HF1 : Hid (Fr [] w w1) := ((Fr.refl [] w).calloc _).trans hf1
          have HM1 := Lib.hid (HMB.out.fr hf1 (by simp))
          clear hf1 hd
          have c0 : w1.cell? ⟨g, off, none⟩ = some (.int .u64 n0) := (World.cell?_of_block (w := w) (HF1.out.block g hg (by simp))).trans HC0.out
          have m1 := HM1.out.cell 1
          simp only [List.getElem?_cons_zero, List.getElem?_cons_succ] at m1
          have hp' : decide (2147483647 < n0) = true := by simp; omega
          have hp2 : decide ((2147483647 : Int) < (n0 : Int)) = true := by simp; omega
          go_wp2
          go_ret
          exact ⟨rfl, HF1.out⟩
      · obtain ⟨n0, n1, n2, n3, t, rfl⟩ : ∃ n0 n1 n2 n3 t : Nat, nums = [n0, n1, n2, n3, t] := by
          have hl := (kind_len hm).2 rfl
          match nums, hl with
          | [n0, n1, n2, n3, t], _ => exact ⟨n0, n1, n2, n3, t, rfl⟩
        have hb0 := hm.2.2.2.1 n0 (by simp)
        have hbt := hm.2.2.2.1 t (by simp)
        have hn0 := H1.out.nums
        obtain ⟨g, off, hna, hg, hc0⟩ := sl_some (k := 0) H.out.nums (by simp [u64s])
        obtain ⟨g', off', hna', _, hct⟩ := sl_some (k := 4) H.out.nums (by simp [u64s])
        subst hna
        simp at hna'
        obtain ⟨rfl, rfl⟩ := hna'
        simp [u64s] at hc0 hct
        have HC0 := Lib.hid hc0
        have HCT := Lib.hid hct
        clear hc0 hct hn0
        have HMAY := Lib.hid hm
        have hd := decide_eq_true hm
        clear hm k12
        dsimp only [List.length_cons, List.length_nil, Nat.zero_add, Nat.reduceAdd] at *
        by_cases hp : n0 ≤ 2147483647
        · have HSC : Hid (skcheck L ⟨2, [n0, n1, n2, n3, t], addrs, body⟩ = decide (ncheck L (n0 : Nat) (mbytes (bareOf ⟨2, [n0, n1, n2, n3, t], addrs, body⟩)) t = 0)) := by
            show _ = _
            unfold skcheck
            simp [HMAY.out, hp]
          rw [HSC.out]
          go_enter Try.func28, Try.ntmps28
          go_wp2_with fail
          refine (wr_may _ _ _ _ _ H1.out).mono ?_
          rw [hd]
          rintro e w1 ⟨rfl, hf1⟩
          have HF1 : Hid (Fr [] w w1) := ((Fr.refl [] w).calloc _).trans hf1
          have HM1 := Lib.hid (HMB.out.fr hf1 (by simp))
          have HA1 := Lib.hid (H1.out.fr hf1 (by simp) (by simp) (by simp))
          clear hf1 hd
          have c0 : w1.cell? ⟨g, off, none⟩ = some (.int .u64 n0) := (World.cell?_of_block (w := w) (HF1.out.block g hg (by simp))).trans HC0.out
          have m0 := HM1.out.cell 0
          have m1 := HM1.out.cell 1
          have m2 := HM1.out.cell 2
          have m3 := HM1.out.cell 3
          simp only [List.getElem?_cons_zero, List.getElem?_cons_succ] at m0 m1 m2 m3
          have hp' : decide (2147483647 < n0) = false := by simp; omega
          have hp2 : decide ((2147483647 : Int) < (n0 : Int)) = false := by simp; omega
          go_wp2_with fail
          refine (sk_bare w1 ⟨2, [n0, n1, n2, n3, t], addrs, body⟩ _ _ _ HA1.out (by simp) (by simp)).mono ?_
          rintro e w2 ⟨⟨v2, rfl, ho2, _⟩, hf2⟩
          have HF2 := Lib.hid (HF1.out.trans hf2)
          have HM2 := Lib.hid (HM1.out.fr hf2 (by simp))
          have HN2 := Lib.hid (HN.out.fr HF2.out (by simp))
          have HO2 := Lib.hid ho2
          clear c0 m0 m1 m2 m3 hf2 ho2
          have c0 : w2.cell? ⟨g, off, none⟩ = some (.int .u64 n0) := (World.cell?_of_block (w := w) (HF2.out.block g hg (by simp))).trans HC0.out
          have ct : w2.cell? ⟨g, off + 4, none⟩ = some (.int .u64 t) := (World.cell?_of_block (w := w) (HF2.out.block g hg (by simp))).trans HCT.out
          have m1 := HM2.out.cell 1
          simp only [List.getElem?_cons_zero, List.getElem?_cons_succ] at m1
          have hw0 : IntKind.i64.wrap (n0 : Int) = n0 := IntWalk.i64_in _ (by omega)
          have hi0 : (0 : Int) ≤ (n0 : Int) := by omega
          have hi1 : (n0 : Int) ≤ 2147483647 := by omega
          have hwk : IntKind.i64.wrap 4 = 4 := by decide
          have EG : Hid (∀ args w, (callFunc 63 args).run Try.prog w = .ok (.enter 63 args) w) := enters_of Try.func63 (by kernel_rfl) rfl
          go_wp2_with fail
          go_region_law (first
            | (refine step_callN rfl 63 #[.tmp 33, .tmp 38, .tmp 39, .tmp 45] _ rfl EG.out #[.pointer (some ⟨b, 0, none⟩), .int .i64 n0, v2, .int .u64 t] (by rfl) (not_check w2.drew b mb lv L n0 v2 (mbytes (bareOf ⟨2, [n0, n1, n2, n3, t], addrs, body⟩)) t (HN2.out.fr (Fr.drew _ []) (by simp)) ((sl_of_own HO2.out).fr (Fr.drew _ []) (by simp)) (by omega) hlen) ?_
               rintro e w3 ⟨rfl, hf3⟩
               refine ⟨_, rfl, ?_⟩
               have HF3 : Hid (Fr [] w w3) := HF2.out.cdrew.trans hf3
               clear hf3))
          all_goals
            go_wp2_with fail
            go_ret
            exact ⟨ret_beq _ _, HF3.out⟩
        · have HSC : Hid (skcheck L ⟨2, [n0, n1, n2, n3, t], addrs, body⟩ = false) := by
            show _ = _
            unfold skcheck
            simp [hp]
          rw [HSC.out]
          go_enter Try.func28, Try.ntmps28
          go_wp2_with fail
          refine (wr_may _ _ _ _ _ H1.out).mono ?_
          rw [hd]
          rintro e w1 ⟨rfl, hf1⟩
          have HF1 : Hid (Fr [] w w1) := ((Fr.refl [] w).calloc _).trans hf1
          have HM1 := Lib.hid (HMB.out.fr hf1 (by simp))
          clear hf1 hd
          have c0 : w1.cell? ⟨g, off, none⟩ = some (.int .u64 n0) := (World.cell?_of_block (w := w) (HF1.out.block g hg (by simp))).trans HC0.out
          have m1 := HM1.out.cell 1
          simp only [List.getElem?_cons_zero, List.getElem?_cons_succ] at m1
          have hp' : decide (2147483647 < n0) = true := by simp; omega
          have hp2 : decide ((2147483647 : Int) < (n0 : Int)) = true := by simp; omega
          go_wp2
          go_ret
          exact ⟨rfl, HF1.out⟩
    · have HV : Hid (skcheck L ⟨kind, nums, addrs, body⟩ = false) := by
        show _ = _
        unfold skcheck
        exact decide_eq_false (fun h => hm h.2.1)
      rw [HV.out]
      have hd := decide_eq_false hm
      clear hm
      rcases hk with rfl | rfl
      all_goals
        go_enter Try.func28, Try.ntmps28
        go_wp2_with fail
        refine (wr_may _ _ _ _ _ H1.out).mono ?_
        rw [hd]
        rintro e w1 ⟨rfl, hf1⟩
        have HF1 : Hid (Fr [] w w1) := ((Fr.refl [] w).calloc _).trans hf1
        clear hf1
        go_wp2
        go_ret
        exact ⟨rfl, HF1.out⟩
  · have HV : Hid (skcheck L m = false) := by
      show _ = _
      unfold skcheck
      exact decide_eq_false (fun h => hk h.1)
    rw [HV.out]
    rw [not_or] at hk
    obtain ⟨k1, k2⟩ := hk
    have k1' : (m.kind != 1) = true := bne_iff_ne.2 k1
    have k2' : (m.kind != 2) = true := bne_iff_ne.2 k2
    clear k1 k2
    unfold mgV
    go_enter Try.func28, Try.ntmps28
    go_wp2
    go_ret
    exact ⟨rfl, (Fr.refl [] w).calloc _⟩
end Go.Proofs.Ytjfmgpelkhgodaa
