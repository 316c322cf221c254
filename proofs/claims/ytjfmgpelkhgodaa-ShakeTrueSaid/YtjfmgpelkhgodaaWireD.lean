/- The walk of wire.Bytes. No condition but the arguments' kinds. -/
import Derived.Test.YtjfmgpelkhgodaaWireC
namespace Go.Proofs.Ytjfmgpelkhgodaa
open Go.RowKit
attribute [local go_sem ↓ high] run_min_whole run_max_whole

theorem MsgAt.fr {S : List Nat} {w w' : World} {nv av bv : Value} {m : Mg} (h : MsgAt w nv av bv m) (hf : Fr S w w') (h1 : ∀ g, nv.ownBlock = some g → g ∉ S) (h2 : ∀ g, av.ownBlock = some g → g ∉ S) (h3 : ∀ g, bv.ownBlock = some g → g ∉ S) : MsgAt w' nv av bv m :=
  ⟨h.nums.fr hf h1, h.addrs.fr hf h2, h.body.fr hf h3, h.wf⟩

theorem sl_some {w : World} {ao : Option Addr} {n c k : Nat} {xs : List Value} (h : SlEx w (.slice ao n c) xs) (hk : k < xs.length) :
    ∃ g off, ao = some ⟨g, off, none⟩ ∧ g < w.heap.size ∧ w.cell? ⟨g, off + k, none⟩ = xs[k]? := by
  exact h.some hk
theorem ads_some {w : World} {ao : Option Addr} {n c k : Nat} {l : List Ad} {a : Ad} (h : AdsAt w (.slice ao n c) l) (hk : l[k]? = some a) :
    ∃ g off, ao = some ⟨g, off, none⟩ ∧ g < w.heap.size ∧ w.cell? ⟨g, off + k * 2, none⟩ = some (.int .u32 (a.host : Nat)) ∧ w.cell? ⟨g, off + k * 2 + 1, none⟩ = some (.int .i64 a.port) := by
  rcases h with ⟨_, rfl⟩ | ⟨g, off, cap, hv, hg, _, _, h3⟩ | ⟨_, _, rfl⟩
  · simp at hk
  · cases hv
    exact ⟨g, off, rfl, hg, h3 k a hk⟩
  · simp at hk

/-- What Bytes answers. -/
def MBytes (w0 w : World) (m : Mg) (e : Ending) : Prop := ∃ v, e = .returned v ∧ w.ownsRow w0.heap.size 5 1 v (mbytes m).length (u8s (mbytes m)) ∧ (v = .slice none 0 0 ↔ mbytes m = [])

theorem uputs_len (l : List Nat) : (l.flatMap uput).length ≤ 9 * l.length := by
  induction l with
  | nil => simp
  | cons v l ih =>
    have := ulen_le v
    simp only [List.flatMap_cons, List.length_append, uput_length, List.length_cons]
    omega
theorem abs_len (l : List Ad) : (l.flatMap abytes).length = 6 * l.length := by
  induction l with
  | nil => simp
  | cons v l ih =>
    simp only [List.flatMap_cons, List.length_append, abytes_length, List.length_cons]
    omega
theorem take_flat {α : Type} (f : α → List UInt8) (l : List α) (k : Nat) (x : α) (h : l[k]? = some x) : (l.take (k + 1)).flatMap f = (l.take k).flatMap f ++ f x := by
  rw [List.take_add_one, h]
  simp

def pre1 (m : Mg) (k : Nat) : List UInt8 := uput m.kind.toNat ++ (m.nums.take k).flatMap uput
def pre2 (m : Mg) (k : Nat) : List UInt8 := uput m.kind.toNat ++ (m.nums.flatMap uput ++ (uput m.addrs.length ++ (m.addrs.take k).flatMap abytes))

set_option maxRecDepth 100000 in
set_option maxHeartbeats 3200000 in
theorem wr_bytes_may (w : World) (m : Mg) (nv av bv : Value) (h : MsgAt w nv av bv m) (hm : mmay m) :
    Calls Try.prog 25 #[mgV m nv av bv] w fun e w' => MBytes w w' m e ∧ Fr [] w w' := by
  have H := Lib.hid h
  have HM := Lib.hid hm
  have hn6 : m.nums.length ≤ 6 := by
    have := numsOf_le m.kind
    have := hm.1
    omega
  have ha8 := hm.2.1
  have hb1000 := hm.2.2.1
  have hk := numsOf_kind (k := m.kind) (by have := hm.1; omega)
  have hk1 := hk.1
  have hk2 := hk.2
  obtain ⟨na, nc, hnv⟩ := h.nums.shape
  obtain ⟨aa, ac, hav⟩ := ads_shape h.addrs
  obtain ⟨ba, bc, hbv⟩ := h.body.shape
  rw [u64s_length] at hnv
  rw [u8s_length] at hbv
  clear h hm hk
  subst hnv hav hbv
  unfold mgV
  obtain ⟨kk, hkk⟩ := Int.eq_ofNat_of_zero_le (show 0 ≤ m.kind by omega)
  have HMAY : Hid (∀ w, MsgAt w (.slice na m.nums.length nc) (.slice aa m.addrs.length ac) (.slice ba m.body.length bc) m → Calls Try.prog 54 #[.agg #[.int .i64 kk, .slice na m.nums.length nc, .slice aa m.addrs.length ac, .slice ba m.body.length bc]] w fun e w' => e = .returned (.bool true) ∧ Fr [] w w') := by
    intro w h
    have := wr_may w m _ _ _ h
    rw [mgV, hkk, decide_eq_true HM.out] at this
    exact this
  rw [hkk] at hk1 hk2 ⊢
  have HKK : Hid (m.kind.toNat = kk) := by
    show _ = _
    omega
  clear hkk
  have hkk1 : kk ≤ 18 := by omega
  obtain ⟨i0, hi, hz0, hz1, hz2⟩ := info_parts Try.info_u8
  go_enter Try.func25, Try.ntmps25
  go_wp2_with fail
  have hC := Cells.new w 56 [.int .i64 kk, .slice na m.nums.length nc, .slice aa m.addrs.length ac, .slice ba m.body.length bc]
  have hF0 := Fr.alloc w (.cells #[.int .i64 kk, .slice na m.nums.length nc, .slice aa m.addrs.length ac, .slice ba m.body.length bc] 56) []
  have hsz : (w.alloc (.cells #[.int .i64 kk, .slice na m.nums.length nc, .slice aa m.addrs.length ac, .slice ba m.body.length bc] 56)).heap.size = w.heap.size + 1 := by simp
  generalize hW : w.alloc (.cells #[.int .i64 kk, .slice na m.nums.length nc, .slice aa m.addrs.length ac, .slice ba m.body.length bc] 56) = W at *
  have H0 : Hid (MsgAt W (.slice na m.nums.length nc) (.slice aa m.addrs.length ac) (.slice ba m.body.length bc) m) := H.out.fr hF0 (by simp) (by simp) (by simp)
  have HC := Lib.hid hC
  have HF0 := Lib.hid hF0
  have HSZ := Lib.hid hsz
  generalize hB : w.heap.size = B at *
  have HB := Lib.hid hB
  clear hW hC hF0 hsz H hB
  refine (HMAY.out _ H0.out).mono ?_
  rintro e w1 ⟨rfl, hF1⟩
  have HF1 := Lib.hid hF1
  have hC1 := HC.out.fr hF1 (by simp)
  have c0 := hC1.cell 0
  have c1 := hC1.cell 1
  simp only [List.getElem?_cons_zero, List.getElem?_cons_succ] at c0 c1
  clear hF1 hC1
  go_wp2_with fail
  refine (uv_put _ kk (by omega)).mono ?_
  rintro e w2 ⟨⟨pv, rfl, hown, hne⟩, hF2⟩
  have HOWN := Lib.hid (own_base hown HF1.out.size)
  have HNE := Lib.hid hne
  have HF2 : Hid (Fr [] W w2) := HF1.out.trans hF2
  have hC2 := HC.out.fr HF2.out (by simp)
  have d1 := hC2.cell 1
  simp only [List.getElem?_cons_zero, List.getElem?_cons_succ] at d1
  clear hown hne hF2 hC2 c0 c1
  go_wp2_with fail
  go_loopw [3, 20] (fun o t wr => ∃ k : Nat, k ≤ m.nums.length ∧ t = .int .i64 k ∧ wr.ownsRow W.heap.size 5 1 o (pre1 m k).length (u8s (pre1 m k)) ∧ o ≠ .slice none 0 0 ∧ Fr [] W wr) (fun _ t _ => m.nums.length - (intOf t).toNat)
  case atStart =>
    refine ⟨0, by omega, rfl, ?_, HNE.out, HF2.out⟩
    have e : pre1 m 0 = uput kk := by simp [pre1, HKK.out]
    rw [e]
    exact HOWN.out
  case round =>
    clear HOWN HNE HF2 d1
    obtain ⟨k, hkl, rfl, hown, hne, hF⟩ := hrel
    have HOWN := Lib.hid hown
    have HNE := Lib.hid hne
    have HF := Lib.hid hF
    have hC2 := HC.out.fr HF.out (by simp)
    have d2 := hC2.cell 2
    simp only [List.getElem?_cons_zero, List.getElem?_cons_succ] at d2
    clear hown hne hF hC2
    have hp1 : (pre1 m k).length ≤ 9 + 9 * 6 := by
      unfold pre1
      have h1 := uputs_len (m.nums.take k)
      have h2 := ulen_le m.kind.toNat
      rw [List.length_take] at h1
      rw [List.length_append, uput_length]
      omega
    by_cases hlt : k < m.nums.length
    · obtain ⟨g, off, rfl, hg, hc⟩ := sl_some (H0.out.nums.fr HF.out (by simp)) (k := k) (by rw [u64s_length]; exact hlt)
      have hx : (u64s m.nums)[k]? = some (.int .u64 (m.nums.getD k 0 : Nat)) := by simp [u64s, hlt, List.getD]
      rw [hx] at hc
      have HG : Hid (m.nums[k]? = some (m.nums.getD k 0)) := by
        show _ = _
        simp [List.getD, hlt]
      have hv : m.nums.getD k 0 < 18446744073709551616 := H0.out.wf.nums _ (List.mem_of_getElem? HG.out)
      generalize m.nums.getD k 0 = v at hc hv HG
      have hlt' : (k : Int) < (m.nums.length : Int) := by omega
      have hu9 := ulen_le v
      clear hx
      go_wp2_with fail
      refine (uv_put _ v hv).mono ?_
      rintro e w3 ⟨⟨qv, rfl, hown, hne⟩, hF3⟩
      have HS : Hid (SlAt w3 qv (u8s (uput v))) := sl_of_own hown
      have HO3 : Hid (w3.ownsRow W.heap.size 5 1 u3 (pre1 m k).length (u8s (pre1 m k))) := own_fr HOWN.out hF3 (by simp)
      have HF3 : Hid (Fr [] W w3) := HF.out.trans hF3
      have hul : (u8s (uput v)).length = ulen v := by rw [u8s_length, uput_length]
      have HUL := Lib.hid hul
      clear hown hne hF3 hul
      go_wp2_with (at_builtin; refine wpList_append_sl rfl _ _ 52 rfl W.heap.size 5 i0 (.int .u8 0) 1 Try.underlying52 hi hz0 hz1 hz2 rfl u3 (pre1 m k).length (u8s (pre1 m k)) rfl HO3.out qv (u8s (uput v)) rfl HS.out (u8s_one _) ?b1 ?b2 HF3.out.size ?_)
      case b1 =>
        rw [HUL.out]
        unfold maxLen
        omega
      case b2 =>
        rw [HUL.out]
        omega
      intro v' w4 hown4 hgrow hnil
      have HO4 : Hid (w4.ownsRow W.heap.size 5 1 v' (pre1 m (k + 1)).length (u8s (pre1 m (k + 1)))) := by
        have e : pre1 m (k + 1) = pre1 m k ++ uput v := by
          unfold pre1
          rw [take_flat _ _ _ _ HG.out, List.append_assoc]
        show World.ownsRow _ _ _ _ _ _ _
        rw [e, u8s_append, List.length_append]
        rw [u8s_length] at hown4
        exact hown4
      have HN4 : Hid (v' ≠ .slice none 0 0) := fun h => HNE.out (hnil.1 h).1
      have HF4 : Hid (Fr [] W w4) := HF3.out.cgrown hgrow (by
        intro k hk
        right
        exact (HO3.out.lt k hk).1)
      clear hown4 hgrow hnil
      go_wp2
      go_roundw
      case rel => exact ⟨k + 1, by omega, by go_num, HO4.out, HN4.out, HF4.out⟩
      case measure =>
        simp [intOf]
        omega
    · have hlt' : ¬ (k : Int) < (m.nums.length : Int) := by omega
      have hkn : k = m.nums.length := by omega
      have HOK : Hid (pre1 m k = uput m.kind.toNat ++ m.nums.flatMap uput) := by
        show _ = _
        unfold pre1
        rw [List.take_of_length_le (by omega)]
      clear hkn
      go_wp2_with fail
      refine (uv_put _ m.addrs.length (by omega)).mono ?_
      rintro e w3 ⟨⟨qv, rfl, hown, hne⟩, hF3⟩
      have HS : Hid (SlAt w3 qv (u8s (uput m.addrs.length))) := sl_of_own hown
      have HO3 : Hid (w3.ownsRow W.heap.size 5 1 u3 (pre1 m k).length (u8s (pre1 m k))) := own_fr HOWN.out hF3 (by simp)
      have HF3 : Hid (Fr [] W w3) := HF.out.trans hF3
      have hul : (u8s (uput m.addrs.length)).length = ulen m.addrs.length := by rw [u8s_length, uput_length]
      have HUL := Lib.hid hul
      have hu9 := ulen_le m.addrs.length
      clear hown hne hF3 hul d2
      go_wp2_with (at_builtin; refine wpList_append_sl rfl _ _ 52 rfl W.heap.size 5 i0 (.int .u8 0) 1 Try.underlying52 hi hz0 hz1 hz2 rfl u3 (pre1 m k).length (u8s (pre1 m k)) rfl HO3.out qv (u8s (uput m.addrs.length)) rfl HS.out (u8s_one _) ?b3 ?b4 HF3.out.size ?_)
      case b3 =>
        rw [HUL.out]
        unfold maxLen
        omega
      case b4 =>
        rw [HUL.out]
        omega
      intro v' w4 hown4 hgrow hnil
      have HO4 : Hid (w4.ownsRow W.heap.size 5 1 v' (pre2 m 0).length (u8s (pre2 m 0))) := by
        have e : pre2 m 0 = pre1 m k ++ uput m.addrs.length := by
          unfold pre2
          rw [HOK.out]
          simp
        show World.ownsRow _ _ _ _ _ _ _
        rw [e, u8s_append, List.length_append]
        rw [u8s_length] at hown4
        exact hown4
      have HN4 : Hid (v' ≠ .slice none 0 0) := fun h => HNE.out (hnil.1 h).1
      have HF4 : Hid (Fr [] W w4) := HF3.out.cgrown hgrow (by
        intro k hk
        right
        exact (HO3.out.lt k hk).1)
      have hC4 := HC.out.fr HF4.out (by simp)
      have d2 := hC4.cell 2
      simp only [List.getElem?_cons_zero, List.getElem?_cons_succ] at d2
      clear hown4 hgrow hnil hC4
      go_wp2_with fail
      go_loopw [3, 39] (fun o t wr => ∃ k : Nat, k ≤ m.addrs.length ∧ t = .int .i64 k ∧ wr.ownsRow W.heap.size 5 1 o (pre2 m k).length (u8s (pre2 m k)) ∧ o ≠ .slice none 0 0 ∧ Fr [] W wr) (fun _ t _ => m.addrs.length - (intOf t).toNat)
      case atStart => exact ⟨0, by omega, rfl, HO4.out, HN4.out, HF4.out⟩
      case round =>
        clear HO4 HN4 HF4 d2 HOK HOWN HNE HF hp1 hkl hlt hlt'
        obtain ⟨k, hkl, rfl, hown, hne, hF⟩ := hrel
        have HOWN := Lib.hid hown
        have HNE := Lib.hid hne
        have HF := Lib.hid hF
        clear hown hne hF
        have hp2 : (pre2 m k).length ≤ 9 + 54 + 9 + 48 := by
          unfold pre2
          have h1 := uputs_len m.nums
          have h2 := ulen_le m.kind.toNat
          have h3 := abs_len (m.addrs.take k)
          rw [List.length_take] at h3
          simp only [List.length_append, uput_length]
          omega
        by_cases hlt : k < m.addrs.length
        · obtain ⟨a, ha⟩ : ∃ a, m.addrs[k]? = some a := ⟨_, List.getElem?_eq_getElem hlt⟩
          obtain ⟨g, off, rfl, hg, hc0, hc1⟩ := ads_some (H0.out.addrs.fr HF.out (by simp)) ha
          have HA := Lib.hid ha
          have hmem := List.mem_of_getElem? ha
          have HBY : Hid (∀ w, Calls Try.prog 56 #[.agg #[.int .u32 a.host, .int .i64 a.port]] w fun e w' => ByteOwn w w' (abytes a) e ∧ Fr [] w w') := fun w => ad_bytes w a (HM.out.2.2.2.2 a hmem) (H0.out.wf.hosts a hmem)
          clear ha hmem
          have hlt' : (k : Int) < (m.addrs.length : Int) := by omega
          go_wp2_with fail
          refine (HBY.out _).mono ?_
          rintro e w3 ⟨⟨qv, rfl, hown, hne⟩, hF3⟩
          have HS : Hid (SlAt w3 qv (u8s (abytes a))) := sl_of_own hown
          have hF3' : Fr [] wr w3 := (Fr.alloc _ _ _).trans hF3
          have HO3 : Hid (w3.ownsRow W.heap.size 5 1 u3 (pre2 m k).length (u8s (pre2 m k))) := own_fr HOWN.out hF3' (by simp)
          have HF3 : Hid (Fr [] W w3) := HF.out.trans hF3'
          have hul : (u8s (abytes a)).length = 6 := by rw [u8s_length, abytes_length]
          have HUL := Lib.hid hul
          clear hown hne hF3 hF3' hul
          go_wp2_with (at_builtin; refine wpList_append_sl rfl _ _ 52 rfl W.heap.size 5 i0 (.int .u8 0) 1 Try.underlying52 hi hz0 hz1 hz2 rfl u3 (pre2 m k).length (u8s (pre2 m k)) rfl HO3.out qv (u8s (abytes a)) rfl HS.out (u8s_one _) ?b5 ?b6 HF3.out.size ?_)
          case b5 =>
            rw [HUL.out]
            unfold maxLen
            omega
          case b6 =>
            rw [HUL.out]
            omega
          intro v' w4 hown4 hgrow hnil
          have HO4 : Hid (w4.ownsRow W.heap.size 5 1 v' (pre2 m (k + 1)).length (u8s (pre2 m (k + 1)))) := by
            have e : pre2 m (k + 1) = pre2 m k ++ abytes a := by
              unfold pre2
              rw [take_flat _ _ _ _ HA.out]
              simp only [List.append_assoc]
            show World.ownsRow _ _ _ _ _ _ _
            rw [e, u8s_append, List.length_append]
            rw [u8s_length] at hown4
            exact hown4
          have HN4 : Hid (v' ≠ .slice none 0 0) := fun h => HNE.out (hnil.1 h).1
          have HF4 : Hid (Fr [] W w4) := HF3.out.cgrown hgrow (by
            intro k hk
            right
            exact (HO3.out.lt k hk).1)
          clear hown4 hgrow hnil
          go_wp2
          go_roundw
          case rel => exact ⟨k + 1, by omega, by go_num, HO4.out, HN4.out, HF4.out⟩
          case measure =>
            simp [intOf]
            omega
        · have hlt' : ¬ (k : Int) < (m.addrs.length : Int) := by omega
          have hkn : k = m.addrs.length := by omega
          have HOK : Hid (pre2 m k ++ fput m.body = mraw m) := by
            show _ = _
            unfold pre2 mraw
            rw [List.take_of_length_le (by omega)]
            simp only [List.append_assoc]
          clear hkn
          have hC5 := HC.out.fr HF.out (by simp)
          have d3 := hC5.cell 3
          simp only [List.getElem?_cons_zero, List.getElem?_cons_succ] at d3
          clear hC5
          go_wp2_with fail
          refine (fr_put _ _ m.body (H0.out.body.fr HF.out (by simp)) (by omega)).mono ?_
          rintro e w3 ⟨⟨qv, rfl, hown, hne⟩, hF3⟩
          have HS : Hid (SlAt w3 qv (u8s (fput m.body))) := sl_of_own hown
          have HO3 : Hid (w3.ownsRow W.heap.size 5 1 u3 (pre2 m k).length (u8s (pre2 m k))) := own_fr HOWN.out hF3 (by simp)
          have HF3 : Hid (Fr [] W w3) := HF.out.trans hF3
          have hul : (u8s (fput m.body)).length ≤ 1009 := by
            rw [u8s_length]
            unfold fput
            rw [List.length_append, uput_length]
            have := ulen_le m.body.length
            omega
          have HUL := Lib.hid hul
          clear hown hne hF3 hul d3
          go_wp2_with (at_builtin; refine wpList_append_sl rfl _ _ 52 rfl W.heap.size 5 i0 (.int .u8 0) 1 Try.underlying52 hi hz0 hz1 hz2 rfl u3 (pre2 m k).length (u8s (pre2 m k)) rfl HO3.out qv (u8s (fput m.body)) rfl HS.out (u8s_one _) ?b7 ?b8 HF3.out.size ?_)
          case b7 =>
            have := HUL.out
            unfold maxLen
            omega
          case b8 =>
            have := HUL.out
            omega
          intro v' w4 hown4 hgrow hnil
          have HO4 : Hid (w4.ownsRow W.heap.size 5 1 v' (mraw m).length (u8s (mraw m))) := by
            show World.ownsRow _ _ _ _ _ _ _
            rw [← HOK.out, u8s_append, List.length_append]
            rw [u8s_length] at hown4
            exact hown4
          have HN4 : Hid (v' ≠ .slice none 0 0) := fun h => HNE.out (hnil.1 h).1
          have HF4 : Hid (Fr [] W w4) := HF3.out.cgrown hgrow (by
            intro k hk
            right
            exact (HO3.out.lt k hk).1)
          clear hown4 hgrow hnil
          go_wp2
          go_returns
          have hmb := mbytes_may HM.out
          refine ⟨⟨v', rfl, ?_, ?_⟩, HF0.out.trans HF4.out⟩
          · rw [hmb]
            exact own_base HO4.out (by rw [HB.out, HSZ.out]; omega)
          · constructor
            · intro h
              exact absurd h HN4.out
            · intro h
              exact absurd h (mbytes_ne HM.out)

set_option maxRecDepth 100000 in
set_option maxHeartbeats 800000 in
theorem wr_bytes_not (w : World) (m : Mg) (nv av bv : Value) (h : MsgAt w nv av bv m) (hm : ¬ mmay m) :
    Calls Try.prog 25 #[mgV m nv av bv] w fun e w' => MBytes w w' m e ∧ Fr [] w w' := by
  have H := Lib.hid h
  have hmb : mbytes m = [] := by rw [mbytes, if_neg hm]
  have HMB := Lib.hid hmb
  obtain ⟨na, nc, hnv⟩ := h.nums.shape
  obtain ⟨aa, ac, hav⟩ := ads_shape h.addrs
  obtain ⟨ba, bc, hbv⟩ := h.body.shape
  rw [u64s_length] at hnv
  rw [u8s_length] at hbv
  subst hnv hav hbv
  have HMAY : Hid (∀ w, MsgAt w (.slice na m.nums.length nc) (.slice aa m.addrs.length ac) (.slice ba m.body.length bc) m → Calls Try.prog 54 #[.agg #[.int .i64 m.kind, .slice na m.nums.length nc, .slice aa m.addrs.length ac, .slice ba m.body.length bc]] w fun e w' => e = .returned (.bool false) ∧ Fr [] w w') := by
    intro w h
    have := wr_may w m _ _ _ h
    rw [mgV, decide_eq_false hm] at this
    exact this
  clear h hm hmb
  unfold mgV
  go_enter Try.func25, Try.ntmps25
  go_wp2_with fail
  refine (HMAY.out _ (H.out.fr (Fr.alloc _ _ []) (by simp) (by simp) (by simp))).mono ?_
  rintro e w1 ⟨rfl, hF1⟩
  have HF1 : Hid (Fr [] w w1) := (Fr.alloc _ _ _).trans hF1
  clear hF1
  go_wp2
  go_returns
  refine ⟨⟨_, rfl, ?_, ?_⟩, HF1.out⟩
  · rw [HMB.out]
    exact World.ownsRow_nil _ _ _ _
  · rw [HMB.out]
    simp

theorem wr_bytes (w : World) (m : Mg) (nv av bv : Value) (h : MsgAt w nv av bv m) :
    Calls Try.prog 25 #[mgV m nv av bv] w fun e w' => MBytes w w' m e ∧ Fr [] w w' := by
  by_cases hm : mmay m
  · exact wr_bytes_may w m nv av bv h hm
  · exact wr_bytes_not w m nv av bv h hm
end Go.Proofs.Ytjfmgpelkhgodaa
