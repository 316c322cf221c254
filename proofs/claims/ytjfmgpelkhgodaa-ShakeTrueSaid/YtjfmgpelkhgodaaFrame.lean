/- The walks of package frame: Put, Get. No condition but the arguments' kinds, and that a row to be put fits. -/
import Derived.Test.YtjfmgpelkhgodaaAddr
namespace Go.Proofs.Ytjfmgpelkhgodaa
open Go.RowKit
attribute [local go_sem ↓ high] run_min_whole run_max_whole

theorem u8s_one (l : List UInt8) : ∀ u ∈ u8s l, u.oneCell' = true := by
  intro u hu
  obtain ⟨c, _, rfl⟩ := List.mem_map.1 hu
  rfl

def ByteOwnOk (w0 w : World) (l : List UInt8) (e : Ending) : Prop := ∃ v, e = .returned (.tuple #[v, .int .i64 0]) ∧ w.ownsRow w0.heap.size 5 1 v l.length (u8s l) ∧ v ≠ .slice none 0 0

set_option maxRecDepth 100000 in
set_option maxHeartbeats 1600000 in
theorem fr_put (w : World) (rv : Value) (row : List UInt8) (hr : SlEx w rv (u8s row)) (hlen : row.length ≤ 1200) :
    Calls Try.prog 57 #[rv] w fun e w' => ByteOwnOk w w' (fput row) e ∧ Fr [] w w' := by
  have HR := Lib.hid hr
  obtain ⟨ao, cap, hv⟩ : ∃ ao cap, rv = .slice ao row.length cap := by
    obtain ⟨ao, cap, h⟩ := hr.shape
    exact ⟨ao, cap, by rw [h, u8s_length]⟩
  subst hv
  clear hr
  obtain ⟨i0, hi, hz0, hz1, hz2⟩ := info_parts Try.info_u8
  go_enter Try.func57, Try.ntmps57
  go_wp2_with fail
  refine (uv_put _ row.length (by omega)).mono ?_
  rintro e w1 ⟨⟨pv, rfl, hown, hne⟩, hF⟩
  have HOWN := Lib.hid hown
  have HNE := Lib.hid hne
  have HF := Lib.hid hF
  have HR1 : Hid (SlEx w1 (.slice ao row.length cap) (u8s row)) := HR.out.fr hF (by simp)
  have hu9 : (uput row.length).length ≤ 9 := by
    rw [uput_length]
    exact ulen_le _
  clear hown hne hF
  go_wp2_with (at_builtin; refine wpList_append_ex rfl _ _ 52 rfl w.heap.size 5 i0 (.int .u8 0) 1 Try.underlying52 hi hz0 hz1 hz2 rfl pv (uput row.length).length (u8s (uput row.length)) rfl HOWN.out (.slice ao row.length cap) (u8s row) rfl HR1.out (u8s_one _) ?b1 ?b2 HF.out.size ?_)
  case b1 =>
    rw [u8s_length]
    unfold maxLen
    omega
  case b2 =>
    rw [u8s_length]
    omega
  intro v' w2 hown2 hgrow hnil
  have HO : Hid (w2.ownsRow w.heap.size 5 1 v' (fput row).length (u8s (fput row))) := by
    show World.ownsRow _ _ _ _ _ _ _
    unfold fput
    rw [u8s_length] at hown2
    rw [u8s_append, List.length_append]
    exact hown2
  have HN : Hid (v' ≠ .slice none 0 0) := fun h => HNE.out (hnil.1 h).1
  have HF2 : Hid (Fr [] w w2) := HF.out.cgrown hgrow (by
    intro k hk
    right
    exact (HOWN.out.lt k hk).1)
  clear hown2 hgrow hnil
  go_wp2
  go_ret2
  exact ⟨⟨v', rfl, HO.out, HN.out⟩, HF2.out⟩

theorem by_clone (w : World) (bv : Value) (l : List UInt8) (hb : SlAt w bv (u8s l)) (hlen : l.length ≤ 140737488355328) :
    Calls Try.prog 124 #[bv] w fun e w' => ∃ v', e = .returned v' ∧ w'.ownsRow w.heap.size 5 1 v' l.length (u8s l) ∧ (v' = .slice none 0 0 ↔ bv = .slice none 0 0) ∧ Fr [] w w' := by
  rcases hb with ⟨rfl, hx⟩ | ⟨g, off, cap, rfl, hg, h1, h2, h3⟩
  · have : l = [] := by simpa [u8s] using hx
    subst this
    refine (Try.bytes_Clone_nil 0 0 w).mono ?_
    rintro e w' ⟨rfl, hw⟩
    subst hw
    exact ⟨_, rfl, World.ownsRow_nil _ _ _ _, by simp, Fr.refl _ _⟩
  · rw [u8s_length] at h1 h3 ⊢
    refine (Try.bytes_Clone_at ⟨g, off, none⟩ l.length cap (l.map fun c => (c.toNat : Int)) w (by simp) hlen ?_).mono ?_
    · intro i hi
      have e : (⟨g, off, none⟩ : Addr).add i = ⟨g, off + i, none⟩ := by
        unfold Addr.add
        split <;> simp_all
      rw [e, h3 i hi]
      simp [u8s, List.getD, hi]
    · rintro e w' ⟨v', rfl, hown, hne, hb⟩
      refine ⟨v', rfl, own_as hown (by simp [u8s]), by simp [hne], Fr.of_below hb _⟩

/-- What frame.Get answers. -/
def FGot (w0 w : World) (l : List UInt8) (e : Ending) : Prop :=
  ∃ v, e = .returned (.tuple #[v, .int .i64 (fget l).2.1, .int .i64 (fget l).2.2]) ∧ w.ownsRow w0.heap.size 5 1 v (fget l).1.length (u8s (fget l).1)
theorem FGot.nil {w0 w : World} {l : List UInt8} {n : Nat} {c : Int} (h : fget l = ([], n, c)) : FGot w0 w l (.returned (.tuple #[.slice none 0 0, .int .i64 n, .int .i64 c])) :=
  ⟨_, by rw [h], by rw [h]; exact World.ownsRow_nil _ _ _ _⟩

set_option maxRecDepth 100000 in
set_option maxHeartbeats 1600000 in
theorem fr_get (w : World) (bv : Value) (l : List UInt8) (hb : SlAt w bv (u8s l)) :
    Calls Try.prog 101 #[bv] w fun e w' => FGot w w' l e ∧ Fr [] w w' := by
  have HB := Lib.hid hb
  clear hb
  by_cases he : (uget l).2.2 = 0
  · have hok := uget_ok (b := l) (w := (uget l).1) (n := (uget l).2.1) (by rw [← he])
    obtain ⟨hw, hn, hp, hl⟩ := hok
    have hnl := uget_n_le l
    have HL := Lib.hid hl
    clear hl
    have hun := ulen_le (uget l).1
    rcases HB.out with ⟨rfl, hx⟩ | ⟨g, off, cap, rfl, hg, h1, h2, h3⟩
    · have : l = [] := by simpa [u8s] using hx
      subst this
      simp at hnl
      omega
    · rw [u8s_length] at h1 h3 HB ⊢
      have H3 := Lib.hid h3
      clear h3
      by_cases h12 : 1200 < (uget l).1
      · have HG : Hid (fget l = ([], 0, 4)) := by
          show _ = _
          unfold fget
          rw [if_neg (by simpa using he), if_pos h12]
        have HU := Lib.hid (Prod.ext rfl (Prod.ext rfl he) : uget l = ((uget l).1, (uget l).2.1, 0))
        generalize (uget l).1 = sz at *
        generalize (uget l).2.1 = n at *
        have h12' : (1200 : Int) < (sz : Int) := by omega
        clear he hn
        go_enter Try.func101, Try.ntmps101
        go_wp2_with fail
        refine (uv_get _ _ l HB.out).mono ?_
        unfold Got
        rw [HU.out]
        rintro e w' ⟨rfl, rfl⟩
        go_wp2
        go_ret3
        exact ⟨FGot.nil HG.out, Fr.refl _ _⟩
      · by_cases hsh : l.length - (uget l).2.1 < (uget l).1
        · have HG : Hid (fget l = ([], 0, 2)) := by
            show _ = _
            unfold fget
            rw [if_neg (by simpa using he), if_neg h12, if_pos hsh]
          have HU := Lib.hid (Prod.ext rfl (Prod.ext rfl he) : uget l = ((uget l).1, (uget l).2.1, 0))
          generalize (uget l).1 = sz at *
          generalize (uget l).2.1 = n at *
          have h12' : ¬ (1200 : Int) < (sz : Int) := by omega
          have hsh' : (l.length : Int) - (n : Int) < (sz : Int) := by omega
          unfold maxLen at h2
          clear he hn
          go_enter Try.func101, Try.ntmps101
          go_wp2_with fail
          refine (uv_get _ _ l HB.out).mono ?_
          unfold Got
          rw [HU.out]
          rintro e w' ⟨rfl, rfl⟩
          go_wp2
          go_ret3
          exact ⟨FGot.nil HG.out, Fr.refl _ _⟩
        · have HG : Hid (fget l = ((l.drop (uget l).2.1).take (uget l).1, (uget l).2.1 + (uget l).1, 0)) := by
            show _ = _
            unfold fget
            rw [if_neg (by simpa using he), if_neg h12, if_neg hsh]
          have HU := Lib.hid (Prod.ext rfl (Prod.ext rfl he) : uget l = ((uget l).1, (uget l).2.1, 0))
          generalize (uget l).1 = sz at *
          generalize (uget l).2.1 = n at *
          have h12' : ¬ (1200 : Int) < (sz : Int) := by omega
          have hsh' : ¬ (l.length : Int) - (n : Int) < (sz : Int) := by omega
          unfold maxLen at h2
          clear he hn
          by_cases hcn : cap = n
          · subst hcn
            go_enter Try.func101, Try.ntmps101
            go_wp2_with fail
            refine (uv_get _ _ l HB.out).mono ?_
            unfold Got
            rw [HU.out]
            rintro e w' ⟨rfl, rfl⟩
            go_wp2_with fail
            have hs : SlAt w (.slice (some ⟨g, off, none⟩) sz 0) (u8s ((l.drop cap).take sz)) := by
              refine .inr ⟨g, off, 0, ?_, hg, ?_, ?_, ?_⟩
              · rw [u8s_length]
                congr 1
                simp
                omega
              · rw [u8s_length]
                simp
                omega
              · unfold maxLen
                omega
              · intro j hj
                rw [u8s_length] at hj
                simp at hj
                omega
            refine (by_clone _ _ _ hs (by simp; omega)).mono ?_
            rintro e w2 ⟨v', rfl, hown, _, hF⟩
            have HOWN := Lib.hid hown
            have HF := Lib.hid hF
            clear hown hF hs
            go_wp2
            go_ret3
            refine ⟨⟨v', ?_, ?_⟩, HF.out⟩
            · rw [HG.out]
              rfl
            · rw [HG.out]
              exact HOWN.out
          · go_enter Try.func101, Try.ntmps101
            go_wp2_with fail
            refine (uv_get _ _ l HB.out).mono ?_
            unfold Got
            rw [HU.out]
            rintro e w' ⟨rfl, rfl⟩
            go_wp2_with fail
            have hs : SlAt w (.slice (some ⟨g, off + n, none⟩) sz (cap - n)) (u8s ((l.drop n).take sz)) := by
              refine .inr ⟨g, off + n, (cap - n), ?_, hg, ?_, ?_, ?_⟩
              · rw [u8s_length]
                congr 1
                simp
                omega
              · rw [u8s_length]
                simp
                omega
              · unfold maxLen
                omega
              · intro j hj
                rw [u8s_length] at hj
                simp at hj
                rw [show off + n + j = off + (n + j) from by omega, H3.out (n + j) (by omega)]
                simp [u8s, List.getElem?_drop, show j < sz by omega]
            refine (by_clone _ _ _ hs (by simp; omega)).mono ?_
            rintro e w2 ⟨v', rfl, hown, _, hF⟩
            have HOWN := Lib.hid hown
            have HF := Lib.hid hF
            clear hown hF hs
            go_wp2
            go_ret3
            refine ⟨⟨v', ?_, ?_⟩, HF.out⟩
            · rw [HG.out]
              rfl
            · rw [HG.out]
              exact HOWN.out
  · have HG : Hid (fget l = ([], 0, (uget l).2.2)) := by
      show _ = _
      unfold fget
      rw [if_pos he]
    have hz : (uget l).1 = 0 ∧ (uget l).2.1 = 0 := ugetL_bad he
    have HU := Lib.hid (Prod.ext hz.1 (Prod.ext hz.2 rfl) : uget l = (0, 0, (uget l).2.2))
    have hbne : ((uget l).2.2 != 0) = true := by
      rw [bne_iff_ne]
      exact he
    generalize (uget l).2.2 = c at *
    clear he hz
    go_enter Try.func101, Try.ntmps101
    go_wp2_with fail
    refine (uv_get _ bv l HB.out).mono ?_
    unfold Got
    rw [HU.out]
    rintro e w' ⟨rfl, rfl⟩
    go_wp2
    go_ret3
    exact ⟨FGot.nil HG.out, Fr.refl _ _⟩
end Go.Proofs.Ytjfmgpelkhgodaa
