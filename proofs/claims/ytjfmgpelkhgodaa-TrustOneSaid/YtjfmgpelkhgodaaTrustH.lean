/- The walk of TrustOne: it answers true. No condition. -/
import Derived.Test.YtjfmgpelkhgodaaTrustG
import Derived.StillTailTactics
import Derived.Laws.BitsAllLaws
namespace Go.Proofs.Ytjfmgpelkhgodaa
open Go.RowKit
attribute [local go_sem ↓ high] run_min_whole run_max_whole

/-- A step, as far as TrustOne reads it: wait, by, told. -/
structure Stp where
  wait : Int
  by_ : Nat
  told : Int

/-- The steps lie behind the slice. -/
def StpsAt (w : World) (v : Value) (L : List Stp) : Prop :=
  (v = .slice none 0 0 ∧ L = []) ∨
  ∃ b off cap sp, v = .slice (some ⟨b, off, sp⟩) L.length cap ∧ L.length ≤ 9223372036854775807 ∧ (L ≠ [] → sp = none ∧ b < w.heap.size) ∧ ∀ (j : Nat) (s : Stp), L[j]? = some s →
    w.cell? ⟨b, off + j * 4, none⟩ = some (.int .i64 s.wait) ∧ w.cell? ⟨b, off + j * 4 + 1, none⟩ = some (.int .u32 s.by_) ∧ w.cell? ⟨b, off + j * 4 + 2, none⟩ = some (.int .i64 s.told)

theorem or_group (g y : Nat) (hg : g < 65536) : bits .or .u32 ((g : Int) * 65536) ((y : Int) % 65536) = ((g * 65536 + y % 65536 : Nat) : Int) := by
  rw [show ((g : Int) * 65536) = ((g * 65536 : Nat) : Int) from by omega, show ((y : Int) % 65536) = ((y % 65536 : Nat) : Int) from by omega]
  rw [u32_or_nat _ _ (by omega) (by omega), nat_join 16 _ _ (by omega) (by omega)]

structure OneRel (g : Nat) (now : Int) (σ : Bf) : Prop where
  cf : σ.cf = 0
  kn : (σ.kn = [] ∧ σ.st = 0) ∨ σ.kn = [g]
  nw : σ.nw ≤ now

theorem OneRel.on {g : Nat} {now now' : Int} {σ : Bf} (h : OneRel g now σ) (hn : now ≤ now') : OneRel g now' (σ.on now') := by
  have h3 := h.nw
  have e : σ.now now' ≤ now' := by
    unfold Bf.now
    omega
  unfold Bf.on
  split
  · exact ⟨rfl, .inl ⟨rfl, rfl⟩, e⟩
  · exact ⟨h.cf, h.kn, e⟩
theorem OneRel.hear {g : Nat} {now now' : Int} {σ : Bf} (h : OneRel g now σ) (hn : now ≤ now') (y : Nat) (told : Int) (hy : y / 65536 = g) : OneRel g now' (σ.hear now' y told) := by
  unfold Bf.hear
  split
  · exact ⟨h.cf, h.kn, by have := h.nw; omega⟩
  · have h1 := h.on hn
    rw [hy]
    split
    · exact h1
    · rename_i hm
      have hk : (σ.on now').kn = [] ∧ (σ.on now').st = 0 := by
        rcases h1.kn with h2 | h2
        · exact h2
        · exact absurd (by rw [h2]; simp) hm
      unfold Bf.told
      simp only [hk.1, hk.2, List.nil_append, List.length_cons, List.length_nil]
      rw [if_neg (by rintro ⟨h3, h4⟩; exact h4 h3.symm)]
      simp only [if_true]
      exact ⟨h1.cf, .inr rfl, h1.nw⟩

/-- Told 1 by k + 1 groups, then 2 by i groups, looked at ahead of each, all at time 1. -/
def tD (k : Nat) : Nat → Bf
  | 0 => tA 1 (k + 1)
  | i + 1 => ((tD k i).on 1).hear 1 ((i + 100) * 65536) 2
theorem tD_ok (k i : Nat) : (tD k i).Ok := by
  induction i with
  | zero => exact tA_ok _ _
  | succ i ih => exact (ih.on _).hear _ _ _
def chkE : Bool := (List.range 4).all fun k => (List.range (k + 1)).all fun i => decide (((tD k i).on 1).st = 1 ∧ ((tD k i).on 1).cf = (k : Int) - i)
def chkF : Bool := (List.range 4).all fun k => decide (((tD k (k + 1)).on 1).st = 2 ∧ ((tD k (k + 1)).on 1).cf = 0)
theorem chk_one : (chkE && chkF) = true := by decide +kernel
theorem tD_at {k i : Nat} (hk : k < 4) (hi : i ≤ k) : ((tD k i).on 1).st = 1 ∧ ((tD k i).on 1).cf = (k : Int) - i := by
  have c := chk_one
  simp only [Bool.and_eq_true] at c
  have c := c.1
  unfold chkE at c
  exact of_decide_eq_true (List.all_eq_true.1 (List.all_eq_true.1 c k (List.mem_range.2 hk)) i (List.mem_range.2 (by omega)))
theorem tD_end {k : Nat} (hk : k < 4) : ((tD k (k + 1)).on 1).st = 2 ∧ ((tD k (k + 1)).on 1).cf = 0 := by
  have c := chk_one
  simp only [Bool.and_eq_true] at c
  have c := c.2
  unfold chkF at c
  exact of_decide_eq_true (List.all_eq_true.1 c k (List.mem_range.2 hk))

theorem BelAt.drew {w : World} {b : Nat} {σ : Bf} (h : BelAt w b σ) : BelAt w.drew b σ := by
  obtain ⟨kv, h1, h2, h3⟩ := h
  exact ⟨kv, h1.drew, h2.fr (Fr.drew w []) (by simp), h3⟩

set_option maxRecDepth 100000 in
set_option maxHeartbeats 1600000 in
theorem tr_one_nil (g n : Nat) (hn : n < 256) (w : World) : Calls Try.prog 3 #[.int .u16 g, .int .u8 n, .slice none 0 0] w fun e w' => e = .returned (.bool true) ∧ Fr [] w w' := by
  go_enter Try.func3, Try.ntmps3
  go_wp2_with fail
  refine (tr_awake w).mono ?_
  rintro e w0 ⟨rfl, hF0⟩
  have HF0 := Lib.hid hF0
  clear hF0
  go_wp2_with fail
  refine (bf_new0 w0).mono ?_
  rintro e w1 ⟨b, rfl, hB, hbw, hb, hF⟩
  have HF : Hid (Fr [] w w1) := HF0.out.trans hF
  have HB := Lib.hid hB
  have HBW : Hid (w.heap.size ≤ b) := by
    have := HF0.out.size
    show _ ≤ _
    omega
  clear hF hB hbw
  go_wp2_with fail
  refine wp_loop_rounds 1 ?_
  rw [rounds_succ]
  have HF1 := HF
  clear HB HF HF0 HBW hb
  go_wp2_with fail
  rw [show ((n : Int) % 4) = ((n % 4 : Nat) : Int) from by omega]
  have hk4 : n % 4 < 4 := by omega
  generalize n % 4 = k at hk4 ⊢
  refine (bf_new0 _).mono ?_
  rintro e w2 ⟨x, rfl, hB2, hxw, hx, hF2⟩
  have HB2 := Lib.hid hB2
  have HXW : Hid (w.heap.size ≤ x) := by
    have := HF1.out.size
    show _ ≤ _
    omega
  have HF2 : Hid (Fr [] w w2) := HF1.out.trans hF2
  clear hB2 hxw hF2
  go_wp2_with fail
  go_loopw [14] (fun v wr => ∃ i : Nat, i ≤ k + 1 ∧ v = .int .i64 i ∧ BelAt wr x (tA 1 i) ∧ Fr [] w wr) (fun v _ => k + 1 - (intOf v).toNat)
  case atStart => exact ⟨0, by omega, rfl, HB2.out, HF2.out⟩
  case round =>
    clear HB2 HF2
    obtain ⟨i, hi, rfl, hB3, hF3⟩ := hrel
    have HB3 := Lib.hid hB3
    have HF3 := Lib.hid hF3
    clear hB3 hF3
    by_cases h4 : i < k + 1
    · have h4' : (i : Int) ≤ (k : Int) := by omega
      go_wp2_with fail
      rw [show ((i : Int) + 1) * 65536 = (((i + 1) * 65536 : Nat) : Int) from by omega]
      refine (bf_hear x _ (tA 1 i) 1 ((i + 1) * 65536) 1 HB3.out (tA_ok 1 i)).mono ?_
      rw [tA_answer (.inl rfl) (by omega)]
      rintro e w4 ⟨rfl, hB4, hF4⟩
      have HB4 : Hid (BelAt w4 x (tA 1 (i + 1))) := hB4
      have HF4 : Hid (Fr [] w w4) := HF3.out.own HXW.out hF4
      clear hB4 hF4
      go_wp2
      go_roundw
      case rel => exact ⟨i + 1, by omega, by go_num, HB4.out, HF4.out⟩
      case measure =>
        simp [intOf]
        omega
    · obtain rfl : i = k + 1 := by omega
      have h4' : ¬ ((k + 1 : Nat) : Int) ≤ (k : Int) := by omega
      rw [show ((k + 1 : Nat) : Int) = (k : Int) + 1 from by omega] at h4' ⊢
      clear hi h4
      go_wp2_with fail
      go_loopw [15] (fun v wr => ∃ i : Nat, i ≤ k + 1 ∧ v = .int .i64 i ∧ BelAt wr x (tD k i) ∧ Fr [] w wr) (fun v _ => k + 1 - (intOf v).toNat)
      case atStart => exact ⟨0, by omega, rfl, HB3.out, HF3.out⟩
      case round =>
        clear HB3 HF3
        obtain ⟨i, hi, rfl, hB4, hF4⟩ := hrel
        have HB4 := Lib.hid hB4
        have HF4 := Lib.hid hF4
        clear hB4 hF4
        by_cases h5 : i < k + 1
        · have h5' : (i : Int) ≤ (k : Int) := by omega
          go_wp2_with fail
          refine (bf_status x _ (tD k i) 1 HB4.out (tD_ok k i)).mono ?_
          rw [(tD_at hk4 (by omega : i ≤ k)).1, (tD_at hk4 (by omega : i ≤ k)).2]
          rintro e w5 ⟨rfl, hB5, hF5⟩
          have HB5 := Lib.hid hB5
          have HF5 : Hid (Fr [] w w5) := HF4.out.own HXW.out hF5
          clear hB5 hF5 HB4 HF4
          go_wp2_with fail
          rw [show ((i : Int) + 100) * 65536 = (((i + 100) * 65536 : Nat) : Int) from by omega]
          refine (bf_hear x _ ((tD k i).on 1) 1 ((i + 100) * 65536) 2 HB5.out ((tD_ok k i).on 1)).mono ?_
          rintro e w6 ⟨rfl, hB6, hF6⟩
          have HB6 : Hid (BelAt w6 x (tD k (i + 1))) := hB6
          have HF6 : Hid (Fr [] w w6) := HF5.out.own HXW.out hF6
          clear hB6 hF6
          go_wp2
          go_roundw
          case rel => exact ⟨i + 1, by omega, by go_num, HB6.out, HF6.out⟩
          case measure =>
            simp [intOf]
            omega
        · obtain rfl : i = k + 1 := by omega
          have h5' : ¬ ((k + 1 : Nat) : Int) ≤ (k : Int) := by omega
          clear hi h5
          go_wp2_with fail
          refine (bf_status x _ (tD k (k + 1)) 1 HB4.out (tD_ok k (k + 1))).mono ?_
          rw [(tD_end hk4).1, (tD_end hk4).2]
          rintro e w5 ⟨rfl, hB5, hF5⟩
          have HF5 : Hid (Fr [] w w5) := HF4.out.own HXW.out hF5
          clear hB5 hF5
          go_wp2
          go_returns
          exact ⟨rfl, HF5.out⟩

set_option maxRecDepth 100000 in
set_option maxHeartbeats 3200000 in
theorem tr_one_some (g n : Nat) (L : List Stp) (hg : g < 65536) (hn : n < 256) (w : World) (sb off cap : Nat) (sp : Option Nat) (hlen : L.length ≤ 9223372036854775807) (hsp : L ≠ [] → sp = none ∧ sb < w.heap.size)
    (hcells : ∀ (j : Nat) (s : Stp), L[j]? = some s → w.cell? ⟨sb, off + j * 4, none⟩ = some (.int .i64 s.wait) ∧ w.cell? ⟨sb, off + j * 4 + 1, none⟩ = some (.int .u32 s.by_) ∧ w.cell? ⟨sb, off + j * 4 + 2, none⟩ = some (.int .i64 s.told)) :
    Calls Try.prog 3 #[.int .u16 g, .int .u8 n, .slice (some ⟨sb, off, sp⟩) L.length cap] w fun e w' => e = .returned (.bool true) ∧ Fr [] w w' := by
  have HSP := Lib.hid hsp
  have HCE := Lib.hid hcells
  clear hsp hcells
  go_enter Try.func3, Try.ntmps3
  go_wp2_with fail
  refine (tr_awake w).mono ?_
  rintro e w0 ⟨rfl, hF0⟩
  have HF0 := Lib.hid hF0
  clear hF0
  go_wp2_with fail
  refine (bf_new0 w0).mono ?_
  rintro e w1 ⟨b, rfl, hB, hbw, hb, hF⟩
  have HF : Hid (Fr [] w w1) := HF0.out.trans hF
  have HB := Lib.hid hB
  have HBW : Hid (w.heap.size ≤ b) := by
    have := HF0.out.size
    show _ ≤ _
    omega
  clear hF hB hbw
  go_wp2_with fail
  go_loopw [8, 9] (fun t v wr => ∃ (i : Nat) (now : Int) (σ : Bf), i ≤ L.length ∧ i ≤ 100 ∧ v = .int .i64 i ∧ t = .int .i64 now ∧ 0 ≤ now ∧ now ≤ i * 100 ∧ BelAt wr b σ ∧ σ.Ok ∧ OneRel g now σ ∧ Fr [] w wr) (fun _ v _ => 100 - (intOf v).toNat)
  case atStart => exact ⟨0, 0, Bf.zero, by omega, by omega, rfl, rfl, by omega, by omega, HB.out, Bf.Ok.zero, ⟨rfl, .inl ⟨rfl, rfl⟩, Int.le_refl _⟩, HF.out⟩
  case round =>
    clear HB HF
    obtain ⟨i, now, σ, hi, hi2, rfl, rfl, hn0, hn1, hB1, hok, hrel, hF1⟩ := hrel
    have HB1 := Lib.hid hB1
    have HOK := Lib.hid hok
    have HREL := Lib.hid hrel
    have HF1 := Lib.hid hF1
    clear hB1 hF1 hok hrel
    by_cases hiL : i < L.length ∧ i < 100
    · obtain ⟨h1, h2⟩ := hiL
      obtain ⟨s, hs⟩ : ∃ s, L[i]? = some s := ⟨_, List.getElem?_eq_getElem h1⟩
      obtain ⟨hsp', hsb⟩ := HSP.out (by intro h; rw [h] at h1; simp at h1)
      subst hsp'
      obtain ⟨k0, k1, k2⟩ := HCE.out i s hs
      have HS := Lib.hid hs
      clear hs
      have c0 : wr.cell? ⟨sb, off + i * 4, none⟩ = some (.int .i64 s.wait) := (World.cell?_of_block (w := w) (HF1.out.block sb hsb (by simp))).trans k0
      have c1 : wr.cell? ⟨sb, off + i * 4 + 1, none⟩ = some (.int .u32 s.by_) := (World.cell?_of_block (w := w) (HF1.out.block sb hsb (by simp))).trans k1
      have c2 : wr.cell? ⟨sb, off + i * 4 + 2, none⟩ = some (.int .i64 s.told) := (World.cell?_of_block (w := w) (HF1.out.block sb hsb (by simp))).trans k2
      clear k0 k1 k2
      have h1' : (i : Int) < (L.length : Int) := by omega
      have h2' : (i : Int) < 100 := by omega
      by_cases hw1 : 0 < s.wait
      · by_cases hw2 : s.wait < 100
        · go_wp2
          have hnn : now ≤ now + s.wait := by omega
          generalize hnw : now + s.wait = now' at hnn ⊢
          have hn0' : 0 ≤ now' := by omega
          have hn1' : now' ≤ i * 100 + 100 := by omega
          clear hnw
          go_still_tail 17, (by kernel_rfl)
          go_wp2_with fail
          rw [or_group g s.by_ hg]
          refine (bf_hear b _ σ now' (g * 65536 + s.by_ % 65536) s.told (BelAt.drew HB1.out) HOK.out).mono ?_
          rintro e w2 ⟨rfl, hB2, hF2⟩
          have HB2 := Lib.hid hB2
          have HF2 : Hid (Fr [] w w2) := HF1.out.cdrew.own HBW.out hF2
          clear hB2 hF2
          have HR2 : Hid (OneRel g now' (σ.hear now' (g * 65536 + s.by_ % 65536) s.told)) := HREL.out.hear hnn _ _ (by omega)
          have HO2 : Hid (σ.hear now' (g * 65536 + s.by_ % 65536) s.told).Ok := HOK.out.hear _ _ _
          generalize σ.answer now' (g * 65536 + s.by_ % 65536) s.told = ans
          generalize σ.hear now' (g * 65536 + s.by_ % 65536) s.told = τ at HB2 HR2 HO2
          go_wp2_with fail
          refine (bf_status b _ τ now' HB2.out HO2.out).mono ?_
          have HR3 : Hid (OneRel g now' (τ.on now')) := HR2.out.on (Int.le_refl _)
          rw [HR3.out.cf]
          rintro e w3 ⟨rfl, hB3, hF3⟩
          have HB3 := Lib.hid hB3
          have HF3 : Hid (Fr [] w w3) := HF2.out.own HBW.out hF3
          clear hB3 hF3
          go_wp2
          go_roundw
          case rel => exact ⟨i + 1, now', _, by omega, by omega, by go_num, rfl, by omega, by omega, HB3.out, HO2.out.on _, HR3.out, HF3.out⟩
          case measure =>
            simp [intOf]
            omega

        · have hw2' : decide (s.wait < 100) = false := by simpa using hw2
          obtain ⟨now', hnow⟩ : ∃ now' : Int, now = now' := ⟨_, rfl⟩
          subst hnow
          have hnn : now ≤ now := Int.le_refl _
          have hn0' : 0 ≤ now := by omega
          have hn1' : now ≤ i * 100 + 100 := by omega
          go_wp2
          go_still_tail 17, (by kernel_rfl)
          go_wp2_with fail
          rw [or_group g s.by_ hg]
          refine (bf_hear b _ σ now (g * 65536 + s.by_ % 65536) s.told (BelAt.drew HB1.out) HOK.out).mono ?_
          rintro e w2 ⟨rfl, hB2, hF2⟩
          have HB2 := Lib.hid hB2
          have HF2 : Hid (Fr [] w w2) := HF1.out.cdrew.own HBW.out hF2
          clear hB2 hF2
          have HR2 : Hid (OneRel g now (σ.hear now (g * 65536 + s.by_ % 65536) s.told)) := HREL.out.hear hnn _ _ (by omega)
          have HO2 : Hid (σ.hear now (g * 65536 + s.by_ % 65536) s.told).Ok := HOK.out.hear _ _ _
          generalize σ.answer now (g * 65536 + s.by_ % 65536) s.told = ans
          generalize σ.hear now (g * 65536 + s.by_ % 65536) s.told = τ at HB2 HR2 HO2
          go_wp2_with fail
          refine (bf_status b _ τ now HB2.out HO2.out).mono ?_
          have HR3 : Hid (OneRel g now (τ.on now)) := HR2.out.on (Int.le_refl _)
          rw [HR3.out.cf]
          rintro e w3 ⟨rfl, hB3, hF3⟩
          have HB3 := Lib.hid hB3
          have HF3 : Hid (Fr [] w w3) := HF2.out.own HBW.out hF3
          clear hB3 hF3
          go_wp2
          go_roundw
          case rel => exact ⟨i + 1, now, _, by omega, by omega, by go_num, rfl, by omega, by omega, HB3.out, HO2.out.on _, HR3.out, HF3.out⟩
          case measure =>
            simp [intOf]
            omega

      · have hnn : now ≤ now := Int.le_refl _
        have hn0' : 0 ≤ now := by omega
        have hn1' : now ≤ i * 100 + 100 := by omega
        go_wp2
        go_still_tail 17, (by kernel_rfl)
        go_wp2_with fail
        rw [or_group g s.by_ hg]
        refine (bf_hear b _ σ now (g * 65536 + s.by_ % 65536) s.told (BelAt.drew HB1.out) HOK.out).mono ?_
        rintro e w2 ⟨rfl, hB2, hF2⟩
        have HB2 := Lib.hid hB2
        have HF2 : Hid (Fr [] w w2) := HF1.out.cdrew.own HBW.out hF2
        clear hB2 hF2
        have HR2 : Hid (OneRel g now (σ.hear now (g * 65536 + s.by_ % 65536) s.told)) := HREL.out.hear hnn _ _ (by omega)
        have HO2 : Hid (σ.hear now (g * 65536 + s.by_ % 65536) s.told).Ok := HOK.out.hear _ _ _
        generalize σ.answer now (g * 65536 + s.by_ % 65536) s.told = ans
        generalize σ.hear now (g * 65536 + s.by_ % 65536) s.told = τ at HB2 HR2 HO2
        go_wp2_with fail
        refine (bf_status b _ τ now HB2.out HO2.out).mono ?_
        have HR3 : Hid (OneRel g now (τ.on now)) := HR2.out.on (Int.le_refl _)
        rw [HR3.out.cf]
        rintro e w3 ⟨rfl, hB3, hF3⟩
        have HB3 := Lib.hid hB3
        have HF3 : Hid (Fr [] w w3) := HF2.out.own HBW.out hF3
        clear hB3 hF3
        go_wp2
        go_roundw
        case rel => exact ⟨i + 1, now, _, by omega, by omega, by go_num, rfl, by omega, by omega, HB3.out, HO2.out.on _, HR3.out, HF3.out⟩
        case measure =>
          simp [intOf]
          omega

    · clear HREL HOK HB1 hn0 hn1 HSP HCE
      by_cases hil : i < L.length
      · have hi100 : i = 100 := by omega
        have hi1 : (i : Int) < (L.length : Int) := by omega
        have hi2 : ¬ (i : Int) < 100 := by omega
        have hi3 : decide ((i : Int) < 100) = false := by simpa using hi2
        clear hi100 hiL
        go_wp2_with fail
        rw [show ((n : Int) % 4) = ((n % 4 : Nat) : Int) from by omega]
        have hk4 : n % 4 < 4 := by omega
        generalize n % 4 = k at hk4 ⊢
        refine (bf_new0 _).mono ?_
        rintro e w2 ⟨x, rfl, hB2, hxw, hx, hF2⟩
        have HB2 := Lib.hid hB2
        have HXW : Hid (w.heap.size ≤ x) := by
          have := HF1.out.size
          show _ ≤ _
          omega
        have HF2 : Hid (Fr [] w w2) := HF1.out.trans hF2
        clear hB2 hxw hF2
        go_wp2_with fail
        go_loopw [14] (fun v wr => ∃ i : Nat, i ≤ k + 1 ∧ v = .int .i64 i ∧ BelAt wr x (tA 1 i) ∧ Fr [] w wr) (fun v _ => k + 1 - (intOf v).toNat)
        case atStart => exact ⟨0, by omega, rfl, HB2.out, HF2.out⟩
        case round =>
          clear HB2 HF2
          obtain ⟨i, hi, rfl, hB3, hF3⟩ := hrel
          have HB3 := Lib.hid hB3
          have HF3 := Lib.hid hF3
          clear hB3 hF3
          by_cases h4 : i < k + 1
          · have h4' : (i : Int) ≤ (k : Int) := by omega
            go_wp2_with fail
            rw [show ((i : Int) + 1) * 65536 = (((i + 1) * 65536 : Nat) : Int) from by omega]
            refine (bf_hear x _ (tA 1 i) 1 ((i + 1) * 65536) 1 HB3.out (tA_ok 1 i)).mono ?_
            rw [tA_answer (.inl rfl) (by omega)]
            rintro e w4 ⟨rfl, hB4, hF4⟩
            have HB4 : Hid (BelAt w4 x (tA 1 (i + 1))) := hB4
            have HF4 : Hid (Fr [] w w4) := HF3.out.own HXW.out hF4
            clear hB4 hF4
            go_wp2
            go_roundw
            case rel => exact ⟨i + 1, by omega, by go_num, HB4.out, HF4.out⟩
            case measure =>
              simp [intOf]
              omega
          · obtain rfl : i = k + 1 := by omega
            have h4' : ¬ ((k + 1 : Nat) : Int) ≤ (k : Int) := by omega
            rw [show ((k + 1 : Nat) : Int) = (k : Int) + 1 from by omega] at h4' ⊢
            clear hi h4
            go_wp2_with fail
            go_loopw [15] (fun v wr => ∃ i : Nat, i ≤ k + 1 ∧ v = .int .i64 i ∧ BelAt wr x (tD k i) ∧ Fr [] w wr) (fun v _ => k + 1 - (intOf v).toNat)
            case atStart => exact ⟨0, by omega, rfl, HB3.out, HF3.out⟩
            case round =>
              clear HB3 HF3
              obtain ⟨i, hi, rfl, hB4, hF4⟩ := hrel
              have HB4 := Lib.hid hB4
              have HF4 := Lib.hid hF4
              clear hB4 hF4
              by_cases h5 : i < k + 1
              · have h5' : (i : Int) ≤ (k : Int) := by omega
                go_wp2_with fail
                refine (bf_status x _ (tD k i) 1 HB4.out (tD_ok k i)).mono ?_
                rw [(tD_at hk4 (by omega : i ≤ k)).1, (tD_at hk4 (by omega : i ≤ k)).2]
                rintro e w5 ⟨rfl, hB5, hF5⟩
                have HB5 := Lib.hid hB5
                have HF5 : Hid (Fr [] w w5) := HF4.out.own HXW.out hF5
                clear hB5 hF5 HB4 HF4
                go_wp2_with fail
                rw [show ((i : Int) + 100) * 65536 = (((i + 100) * 65536 : Nat) : Int) from by omega]
                refine (bf_hear x _ ((tD k i).on 1) 1 ((i + 100) * 65536) 2 HB5.out ((tD_ok k i).on 1)).mono ?_
                rintro e w6 ⟨rfl, hB6, hF6⟩
                have HB6 : Hid (BelAt w6 x (tD k (i + 1))) := hB6
                have HF6 : Hid (Fr [] w w6) := HF5.out.own HXW.out hF6
                clear hB6 hF6
                go_wp2
                go_roundw
                case rel => exact ⟨i + 1, by omega, by go_num, HB6.out, HF6.out⟩
                case measure =>
                  simp [intOf]
                  omega
              · obtain rfl : i = k + 1 := by omega
                have h5' : ¬ ((k + 1 : Nat) : Int) ≤ (k : Int) := by omega
                clear hi h5
                go_wp2_with fail
                refine (bf_status x _ (tD k (k + 1)) 1 HB4.out (tD_ok k (k + 1))).mono ?_
                rw [(tD_end hk4).1, (tD_end hk4).2]
                rintro e w5 ⟨rfl, hB5, hF5⟩
                have HF5 : Hid (Fr [] w w5) := HF4.out.own HXW.out hF5
                clear hB5 hF5
                go_wp2
                go_returns
                exact ⟨rfl, HF5.out⟩

      · have hi1 : ¬ (i : Int) < (L.length : Int) := by omega
        have hi3 : decide ((i : Int) < (L.length : Int)) = false := by simpa using hi1
        clear hiL
        go_wp2_with fail
        rw [show ((n : Int) % 4) = ((n % 4 : Nat) : Int) from by omega]
        have hk4 : n % 4 < 4 := by omega
        generalize n % 4 = k at hk4 ⊢
        refine (bf_new0 _).mono ?_
        rintro e w2 ⟨x, rfl, hB2, hxw, hx, hF2⟩
        have HB2 := Lib.hid hB2
        have HXW : Hid (w.heap.size ≤ x) := by
          have := HF1.out.size
          show _ ≤ _
          omega
        have HF2 : Hid (Fr [] w w2) := HF1.out.trans hF2
        clear hB2 hxw hF2
        go_wp2_with fail
        go_loopw [14] (fun v wr => ∃ i : Nat, i ≤ k + 1 ∧ v = .int .i64 i ∧ BelAt wr x (tA 1 i) ∧ Fr [] w wr) (fun v _ => k + 1 - (intOf v).toNat)
        case atStart => exact ⟨0, by omega, rfl, HB2.out, HF2.out⟩
        case round =>
          clear HB2 HF2
          obtain ⟨i, hi, rfl, hB3, hF3⟩ := hrel
          have HB3 := Lib.hid hB3
          have HF3 := Lib.hid hF3
          clear hB3 hF3
          by_cases h4 : i < k + 1
          · have h4' : (i : Int) ≤ (k : Int) := by omega
            go_wp2_with fail
            rw [show ((i : Int) + 1) * 65536 = (((i + 1) * 65536 : Nat) : Int) from by omega]
            refine (bf_hear x _ (tA 1 i) 1 ((i + 1) * 65536) 1 HB3.out (tA_ok 1 i)).mono ?_
            rw [tA_answer (.inl rfl) (by omega)]
            rintro e w4 ⟨rfl, hB4, hF4⟩
            have HB4 : Hid (BelAt w4 x (tA 1 (i + 1))) := hB4
            have HF4 : Hid (Fr [] w w4) := HF3.out.own HXW.out hF4
            clear hB4 hF4
            go_wp2
            go_roundw
            case rel => exact ⟨i + 1, by omega, by go_num, HB4.out, HF4.out⟩
            case measure =>
              simp [intOf]
              omega
          · obtain rfl : i = k + 1 := by omega
            have h4' : ¬ ((k + 1 : Nat) : Int) ≤ (k : Int) := by omega
            rw [show ((k + 1 : Nat) : Int) = (k : Int) + 1 from by omega] at h4' ⊢
            clear hi h4
            go_wp2_with fail
            go_loopw [15] (fun v wr => ∃ i : Nat, i ≤ k + 1 ∧ v = .int .i64 i ∧ BelAt wr x (tD k i) ∧ Fr [] w wr) (fun v _ => k + 1 - (intOf v).toNat)
            case atStart => exact ⟨0, by omega, rfl, HB3.out, HF3.out⟩
            case round =>
              clear HB3 HF3
              obtain ⟨i, hi, rfl, hB4, hF4⟩ := hrel
              have HB4 := Lib.hid hB4
              have HF4 := Lib.hid hF4
              clear hB4 hF4
              by_cases h5 : i < k + 1
              · have h5' : (i : Int) ≤ (k : Int) := by omega
                go_wp2_with fail
                refine (bf_status x _ (tD k i) 1 HB4.out (tD_ok k i)).mono ?_
                rw [(tD_at hk4 (by omega : i ≤ k)).1, (tD_at hk4 (by omega : i ≤ k)).2]
                rintro e w5 ⟨rfl, hB5, hF5⟩
                have HB5 := Lib.hid hB5
                have HF5 : Hid (Fr [] w w5) := HF4.out.own HXW.out hF5
                clear hB5 hF5 HB4 HF4
                go_wp2_with fail
                rw [show ((i : Int) + 100) * 65536 = (((i + 100) * 65536 : Nat) : Int) from by omega]
                refine (bf_hear x _ ((tD k i).on 1) 1 ((i + 100) * 65536) 2 HB5.out ((tD_ok k i).on 1)).mono ?_
                rintro e w6 ⟨rfl, hB6, hF6⟩
                have HB6 : Hid (BelAt w6 x (tD k (i + 1))) := hB6
                have HF6 : Hid (Fr [] w w6) := HF5.out.own HXW.out hF6
                clear hB6 hF6
                go_wp2
                go_roundw
                case rel => exact ⟨i + 1, by omega, by go_num, HB6.out, HF6.out⟩
                case measure =>
                  simp [intOf]
                  omega
              · obtain rfl : i = k + 1 := by omega
                have h5' : ¬ ((k + 1 : Nat) : Int) ≤ (k : Int) := by omega
                clear hi h5
                go_wp2_with fail
                refine (bf_status x _ (tD k (k + 1)) 1 HB4.out (tD_ok k (k + 1))).mono ?_
                rw [(tD_end hk4).1, (tD_end hk4).2]
                rintro e w5 ⟨rfl, hB5, hF5⟩
                have HF5 : Hid (Fr [] w w5) := HF4.out.own HXW.out hF5
                clear hB5 hF5
                go_wp2
                go_returns
                exact ⟨rfl, HF5.out⟩

theorem tr_one (g n : Nat) (v : Value) (L : List Stp) (hg : g < 65536) (hn : n < 256) (w : World) (hL : StpsAt w v L) : Calls Try.prog 3 #[.int .u16 g, .int .u8 n, v] w fun e w' => e = .returned (.bool true) ∧ Fr [] w w' := by
  rcases hL with ⟨rfl, rfl⟩ | ⟨sb, off, cap, sp, rfl, hlen, hsp, hcells⟩
  · exact tr_one_nil g n hn w
  · exact tr_one_some g n L hg hn w sb off cap sp hlen hsp hcells
end Go.Proofs.Ytjfmgpelkhgodaa
