/- The walk of wire.May. No condition but the arguments' kinds. -/
import Derived.Test.YtjfmgpelkhgodaaWireB
namespace Go.Proofs.Ytjfmgpelkhgodaa
open Go.RowKit
attribute [local go_sem ↓ high] run_min_whole run_max_whole

/-- The numbers are such as Go's kinds hold. -/
structure Mg.Wf (m : Mg) : Prop where
  nums : ∀ v ∈ m.nums, v < 18446744073709551616
  hosts : ∀ a ∈ m.addrs, a.host < 4294967296
/-- A message, as a struct value, its slices in w. -/
structure MsgAt (w : World) (nv av bv : Value) (m : Mg) : Prop where
  nums : SlEx w nv (u64s m.nums)
  addrs : AdsAt w av m.addrs
  body : SlEx w bv (u8s m.body)
  wf : m.Wf
def mgV (m : Mg) (nv av bv : Value) : Value := .agg #[.int .i64 m.kind, nv, av, bv]
theorem sl_shape {w : World} {v : Value} {xs : List Value} (h : SlAt w v xs) : ∃ ao cap, v = .slice ao xs.length cap := by
  rcases h with ⟨rfl, rfl⟩ | ⟨g, off, cap, rfl, _⟩
  · exact ⟨none, 0, rfl⟩
  · exact ⟨_, cap, rfl⟩
theorem ads_shape {w : World} {v : Value} {l : List Ad} (h : AdsAt w v l) : ∃ ao cap, v = .slice ao l.length cap := by
  rcases h with ⟨rfl, rfl⟩ | ⟨g, off, cap, rfl, _⟩ | ⟨ad, rfl, rfl⟩
  · exact ⟨none, 0, rfl⟩
  · exact ⟨_, cap, rfl⟩
  · exact ⟨some ad, 0, rfl⟩

set_option maxRecDepth 100000 in
set_option maxHeartbeats 1600000 in
theorem wr_may (w : World) (m : Mg) (nv av bv : Value) (h : MsgAt w nv av bv m) :
    Calls Try.prog 54 #[mgV m nv av bv] w fun e w' => e = .returned (.bool (decide (mmay m))) ∧ Fr [] w w' := by
  have H := Lib.hid h
  obtain ⟨na, nc, hnv⟩ := h.nums.shape
  obtain ⟨aa, ac, hav⟩ := ads_shape h.addrs
  obtain ⟨ba, bc, hbv⟩ := h.body.shape
  rw [u64s_length] at hnv
  rw [u8s_length] at hbv
  clear h
  subst hnv hav hbv
  unfold mgV
  by_cases h1 : (m.nums.length : Int) = numsOf m.kind
  · have hb1 : ((m.nums.length : Int) == numsOf m.kind) = true := by simpa using h1
    by_cases h2 : m.addrs.length ≤ 8
    · have hb2 : decide ((m.addrs.length : Int) ≤ 8) = true := by simp; omega
      by_cases h3 : m.body.length ≤ 1000
      · have hb3 : decide ((m.body.length : Int) ≤ 1000) = true := by simp; omega
        by_cases h4 : ∃ v ∈ m.nums, 9223372036854775808 ≤ v
        · have hd : decide (mmay m) = false := by
            apply decide_eq_false
            rintro ⟨_, _, _, h5, _⟩
            obtain ⟨v, hv, hb⟩ := h4
            have := h5 v hv
            omega
          have HNB : Hid (Says true (∃ v ∈ m.nums, 9223372036854775808 ≤ v)) := ⟨fun _ => h4, fun _ => rfl⟩
          rw [hd]
          clear hd h4 h1
          go_enter Try.func54, Try.ntmps54
          go_wp2
          have hC := Cells.new w 56 [.int .i64 m.kind, .slice na m.nums.length nc, .slice aa m.addrs.length ac, .slice ba m.body.length bc]
          have c0 := fun p => grow_cell (S := []) hC (by simp) 0 p
          have c1 := fun p => grow_cell (S := []) hC (by simp) 1 p
          have c2 := fun p => grow_cell (S := []) hC (by simp) 2 p
          have c3 := fun p => grow_cell (S := []) hC (by simp) 3 p
          simp only [List.getElem?_cons_zero, List.getElem?_cons_succ] at c0 c1 c2 c3
          clear hC
          refine wp_region_grow [] (by kernel_rfl) (by kernel_rfl) ?_
          repeat (quiet_step ((first | (go_at_call 59; exact grow_of (wr_nums _ _)) | (go_at_call 91; exact grow_of (wr_big_has _ _ _ H.out.wf.nums (H.out.nums.fr ((Fr.alloc _ _ []).trans (GrowTo.fr _)) (by simp)) true HNB.out)))))
          refine wpQuiet_nil ?_
          intro _ hw'
          obtain ⟨p, hw''⟩ := hw'
          subst hw''
          have HF : Hid (Fr [] w p.world) := (Fr.alloc _ _ _).trans p.fr
          generalize p.world = w2 at *
          go_wp2
          go_returns
          exact ⟨rfl, HF.out⟩
        · have HNB : Hid (Says false (∃ v ∈ m.nums, 9223372036854775808 ≤ v)) := ⟨fun h => (by cases h), fun h => absurd h h4⟩
          by_cases h5 : ∃ a ∈ m.addrs, ¬ amay a
          · have hd : decide (mmay m) = false := by
              apply decide_eq_false
              rintro ⟨_, _, _, _, h6⟩
              obtain ⟨a, ha, hb⟩ := h5
              exact hb (h6 a ha)
            have HAB : Hid (Says true (∃ a ∈ m.addrs, ¬ amay a)) := ⟨fun _ => h5, fun _ => rfl⟩
            rw [hd]
            clear hd h4 h5 h1
            go_enter Try.func54, Try.ntmps54
            go_wp2
            have hC := Cells.new w 56 [.int .i64 m.kind, .slice na m.nums.length nc, .slice aa m.addrs.length ac, .slice ba m.body.length bc]
            have c0 := fun p => grow_cell (S := []) hC (by simp) 0 p
            have c1 := fun p => grow_cell (S := []) hC (by simp) 1 p
            have c2 := fun p => grow_cell (S := []) hC (by simp) 2 p
            have c3 := fun p => grow_cell (S := []) hC (by simp) 3 p
            simp only [List.getElem?_cons_zero, List.getElem?_cons_succ] at c0 c1 c2 c3
            clear hC
            refine wp_region_grow [] (by kernel_rfl) (by kernel_rfl) ?_
            repeat (quiet_step ((first | (go_at_call 59; exact grow_of (wr_nums _ _)) | (go_at_call 91; exact grow_of (wr_big_has _ _ _ H.out.wf.nums (H.out.nums.fr ((Fr.alloc _ _ []).trans (GrowTo.fr _)) (by simp)) false HNB.out)) | (go_at_call 94; exact grow_of (wr_ad_has _ _ _ (H.out.addrs.fr ((Fr.alloc _ _ []).trans (GrowTo.fr _)) (by simp)) true HAB.out)))))
            refine wpQuiet_nil ?_
            intro _ hw'
            obtain ⟨p, hw''⟩ := hw'
            subst hw''
            have HF : Hid (Fr [] w p.world) := (Fr.alloc _ _ _).trans p.fr
            generalize p.world = w2 at *
            go_wp2
            go_returns
            exact ⟨rfl, HF.out⟩
          · have hd : decide (mmay m) = true := by
              apply decide_eq_true
              refine ⟨h1, h2, h3, fun v hv => ?_, fun a ha => ?_⟩
              · by_cases hb : v < 9223372036854775808
                · exact hb
                · exact absurd ⟨v, hv, by omega⟩ h4
              · by_cases hb : amay a
                · exact hb
                · exact absurd ⟨a, ha, hb⟩ h5
            have HAB : Hid (Says false (∃ a ∈ m.addrs, ¬ amay a)) := ⟨fun h => (by cases h), fun h => absurd h h5⟩
            rw [hd]
            clear hd h4 h5 h1
            go_enter Try.func54, Try.ntmps54
            go_wp2
            have hC := Cells.new w 56 [.int .i64 m.kind, .slice na m.nums.length nc, .slice aa m.addrs.length ac, .slice ba m.body.length bc]
            have c0 := fun p => grow_cell (S := []) hC (by simp) 0 p
            have c1 := fun p => grow_cell (S := []) hC (by simp) 1 p
            have c2 := fun p => grow_cell (S := []) hC (by simp) 2 p
            have c3 := fun p => grow_cell (S := []) hC (by simp) 3 p
            simp only [List.getElem?_cons_zero, List.getElem?_cons_succ] at c0 c1 c2 c3
            clear hC
            refine wp_region_grow [] (by kernel_rfl) (by kernel_rfl) ?_
            repeat (quiet_step ((first | (go_at_call 59; exact grow_of (wr_nums _ _)) | (go_at_call 91; exact grow_of (wr_big_has _ _ _ H.out.wf.nums (H.out.nums.fr ((Fr.alloc _ _ []).trans (GrowTo.fr _)) (by simp)) false HNB.out)) | (go_at_call 94; exact grow_of (wr_ad_has _ _ _ (H.out.addrs.fr ((Fr.alloc _ _ []).trans (GrowTo.fr _)) (by simp)) false HAB.out)))))
            refine wpQuiet_nil ?_
            intro _ hw'
            obtain ⟨p, hw''⟩ := hw'
            subst hw''
            have HF : Hid (Fr [] w p.world) := (Fr.alloc _ _ _).trans p.fr
            generalize p.world = w2 at *
            go_wp2
            go_returns
            exact ⟨rfl, HF.out⟩
      · have hd : decide (mmay m) = false := by simp [mmay, h3]
        have hb3 : decide ((m.body.length : Int) ≤ 1000) = false := by simp; omega
        rw [hd]
        clear hd h1
        go_enter Try.func54, Try.ntmps54
        go_wp2
        have hC := Cells.new w 56 [.int .i64 m.kind, .slice na m.nums.length nc, .slice aa m.addrs.length ac, .slice ba m.body.length bc]
        have c0 := fun p => grow_cell (S := []) hC (by simp) 0 p
        have c1 := fun p => grow_cell (S := []) hC (by simp) 1 p
        have c2 := fun p => grow_cell (S := []) hC (by simp) 2 p
        have c3 := fun p => grow_cell (S := []) hC (by simp) 3 p
        simp only [List.getElem?_cons_zero, List.getElem?_cons_succ] at c0 c1 c2 c3
        clear hC
        refine wp_region_grow [] (by kernel_rfl) (by kernel_rfl) ?_
        repeat (quiet_step ((go_at_call 59; exact grow_of (wr_nums _ _))))
        refine wpQuiet_nil ?_
        intro _ hw'
        obtain ⟨p, hw''⟩ := hw'
        subst hw''
        have HF : Hid (Fr [] w p.world) := (Fr.alloc _ _ _).trans p.fr
        generalize p.world = w2 at *
        go_wp2
        go_returns
        exact ⟨rfl, HF.out⟩
    · have hd : decide (mmay m) = false := by simp [mmay, h2]
      have hb2 : decide ((m.addrs.length : Int) ≤ 8) = false := by simp; omega
      rw [hd]
      clear hd h1
      go_enter Try.func54, Try.ntmps54
      go_wp2
      have hC := Cells.new w 56 [.int .i64 m.kind, .slice na m.nums.length nc, .slice aa m.addrs.length ac, .slice ba m.body.length bc]
      have c0 := fun p => grow_cell (S := []) hC (by simp) 0 p
      have c1 := fun p => grow_cell (S := []) hC (by simp) 1 p
      have c2 := fun p => grow_cell (S := []) hC (by simp) 2 p
      have c3 := fun p => grow_cell (S := []) hC (by simp) 3 p
      simp only [List.getElem?_cons_zero, List.getElem?_cons_succ] at c0 c1 c2 c3
      clear hC
      refine wp_region_grow [] (by kernel_rfl) (by kernel_rfl) ?_
      repeat (quiet_step ((go_at_call 59; exact grow_of (wr_nums _ _))))
      refine wpQuiet_nil ?_
      intro _ hw'
      obtain ⟨p, hw''⟩ := hw'
      subst hw''
      have HF : Hid (Fr [] w p.world) := (Fr.alloc _ _ _).trans p.fr
      generalize p.world = w2 at *
      go_wp2
      go_returns
      exact ⟨rfl, HF.out⟩
  · have hd : decide (mmay m) = false := by simp [mmay, h1]
    have hb1 : ((m.nums.length : Int) == numsOf m.kind) = false := by simpa using h1
    rw [hd]
    clear hd h1
    go_enter Try.func54, Try.ntmps54
    go_wp2
    have hC := Cells.new w 56 [.int .i64 m.kind, .slice na m.nums.length nc, .slice aa m.addrs.length ac, .slice ba m.body.length bc]
    have c0 := fun p => grow_cell (S := []) hC (by simp) 0 p
    have c1 := fun p => grow_cell (S := []) hC (by simp) 1 p
    have c2 := fun p => grow_cell (S := []) hC (by simp) 2 p
    have c3 := fun p => grow_cell (S := []) hC (by simp) 3 p
    simp only [List.getElem?_cons_zero, List.getElem?_cons_succ] at c0 c1 c2 c3
    clear hC
    refine wp_region_grow [] (by kernel_rfl) (by kernel_rfl) ?_
    repeat (quiet_step ((go_at_call 59; exact grow_of (wr_nums _ _))))
    refine wpQuiet_nil ?_
    intro _ hw'
    obtain ⟨p, hw''⟩ := hw'
    subst hw''
    have HF : Hid (Fr [] w p.world) := (Fr.alloc _ _ _).trans p.fr
    generalize p.world = w2 at *
    go_wp2
    go_returns
    exact ⟨rfl, HF.out⟩
end Go.Proofs.Ytjfmgpelkhgodaa
