/- The walks of package shake: bare. -/
import Derived.BigRegion
import Derived.Test.YtjfmgpelkhgodaaShelf
import Derived.Test.YtjfmgpelkhgodaaConcat
import Derived.Test.YtjfmgpelkhgodaaNotC
namespace Go.Proofs.Ytjfmgpelkhgodaa
open Go.RowKit
attribute [local go_sem ↓ high] run_min_whole run_max_whole

theorem cl_u64 (w : World) (v : Value) (l : List Nat) (h : SlAt w v (u64s l)) (hl : l.length ≤ 100000) :
    Calls Try.prog 102 #[v] w fun e w' => ∃ v', e = .returned v' ∧ w'.ownsRow w.heap.size 40 1 v' l.length (u64s l) ∧ Fr [] w w' := by
  obtain ⟨i0, hi, hz0, hz1, hz2⟩ := info_parts Try.info_u64
  rcases h with ⟨rfl, hx⟩ | ⟨g, off, cap, rfl, hg, h1, h2, h3⟩
  · have : l = [] := by simpa [u64s] using hx
    subst this
    refine (Try.slices_Clone_nil 0 0 w).mono ?_
    rintro e w' ⟨rfl, hw⟩
    subst hw
    exact ⟨_, rfl, World.ownsRow_nil _ _ _ _, Fr.refl _ _⟩
  · rw [u64s_length] at h1 h3 ⊢
    refine (Try.slices_Clone i0 (.int .u64 0) 1 8 hi hz0 hz1 hz2 rfl (by decide) (fun w => by simp [Go.sizeOf, typeInfo, hi, hz1]) g off l.length cap (u64s l) w (by rw [u64s_length]; omega) (by unfold maxLen; omega) (by omega) ?_ (u64s_one l)).mono ?_
    · intro j u hj
      have hlt := (List.getElem?_eq_some_iff.1 hj).1
      rw [u64s_length] at hlt
      rw [h3 j hlt, hj]
    · rintro e w' ⟨v', rfl, hown, _, hb⟩
      exact ⟨v', rfl, hown, Fr.of_below hb _⟩

def bareOf (m : Mg) : Mg := { m with nums := m.nums.set (m.nums.length - 1) 0 }
theorem u64s_set (l : List Nat) (j n : Nat) : (u64s l).set j (.int .u64 n) = u64s (l.set j n) := by simp [u64s, List.map_set]

/-- A number put into an own row. -/
theorem own_set {w : World} {base g n cap : Nat} {l : List Nat} (h : w.ownsRow base 40 1 (.slice (some ⟨g, 0, none⟩) n cap) n (u64s l)) (j v : Nat) :
    (w.setCell ⟨g, j, none⟩ (.int .u64 v)).ownsRow base 40 1 (.slice (some ⟨g, 0, none⟩) n cap) n (u64s (l.set j v)) := by
  rcases h with ⟨hl, ⟨h, _⟩ | ⟨g', cap', cur, hv, hb, hh, h1, h2, h3, h4⟩⟩
  · cases h
  · simp at hv
    obtain ⟨rfl, rfl⟩ := hv
    refine ⟨by simpa [u64s] using hl, .inr ⟨g, cap, cur.set! j (.int .u64 v), rfl, hb, ?_, h1, h2, by simpa using h3, ?_⟩⟩
    · have hlt := (Array.getElem?_eq_some_iff.1 hh).1
      simp [World.setCell, Array.getElem?_modify, hh]
    · rw [← u64s_set, ← h4]
      simp [List.take_set]

set_option maxRecDepth 100000 in
set_option maxHeartbeats 4000000 in
theorem sk_bare (w : World) (m : Mg) (nv av bv : Value) (h : MsgAt w nv av bv m) (hne : m.nums ≠ []) (hlen : m.nums.length ≤ 100000) :
    Calls Try.prog 62 #[mgV m nv av bv] w fun e w' => MBytes w w' (bareOf m) e ∧ Fr [] w w' := by
  have H := Lib.hid h
  obtain ⟨na, nc, hnv⟩ := h.nums.shape
  obtain ⟨aa, ac, hav⟩ := ads_shape h.addrs
  obtain ⟨ba, bc, hbv⟩ := h.body.shape
  rw [u64s_length] at hnv
  rw [u8s_length] at hbv
  clear h
  subst hnv hav hbv
  obtain ⟨k, hk⟩ : ∃ k, m.nums.length = k + 1 := ⟨m.nums.length - 1, by have := List.length_pos_iff.2 hne; omega⟩
  have HK := Lib.hid hk
  have HL := Lib.hid hlen
  have HNE : Hid (u64s m.nums ≠ []) := by
    show _ ≠ _
    simpa [u64s] using hne
  clear hne hlen
  unfold mgV
  go_enter Try.func62, Try.ntmps62
  rw [hk]
  clear hk
  go_wp2_with fail
  obtain ⟨w1, hw1⟩ : ∃ w1, w.alloc (.cells #[.int .i64 m.kind, .slice na (k + 1) nc, .slice aa m.addrs.length ac, .slice ba m.body.length bc] 56) = w1 := ⟨_, rfl⟩
  rw [hw1]
  obtain ⟨bm, hbm⟩ : ∃ bm, bm = w.heap.size := ⟨_, rfl⟩
  rw [← hbm]
  have HBM := Lib.hid hbm
  have hf1 : Fr [] w w1 := by
    rw [← hw1]
    exact (Fr.refl [] w).calloc _
  have HC1 : Hid (Cells w1 bm 56 [.int .i64 m.kind, .slice na (k + 1) nc, .slice aa m.addrs.length ac, .slice ba m.body.length bc]) := by
    rw [← hw1, hbm]
    exact Cells.new _ _ _
  have hz1' : w1.heap.size = bm + 1 := by
    rw [← hw1, hbm]
    simp
  have hz1 := Lib.hid hz1'
  clear hz1'
  have HF1 := Lib.hid hf1
  have HN1 : Hid (SlAt w1 (.slice na (k + 1) nc) (u64s m.nums)) := by
    have := (H.out.nums.full HNE.out).fr hf1 (by simp)
    rw [HK.out] at this
    exact this
  clear hw1 hf1 hbm
  refine (cl_u64 w1 _ m.nums HN1.out HL.out).mono ?_
  rintro e w2 ⟨v2, rfl, ho2, hf2⟩
  rw [HK.out] at ho2
  obtain ⟨g, c2, rfl⟩ := ownsRow_succ ho2
  have HO2 := Lib.hid ho2
  have HF2 := Lib.hid hf2
  have HC2 := Lib.hid (HC1.out.fr hf2 (by simp))
  have hgb : g ≠ bm := by
    have := own_ge ho2 (g := g) rfl
    have := hz1.out
    omega
  have hgl : g < w2.heap.size := own_lt ho2 rfl
  obtain ⟨x0, hx0⟩ : ∃ x0, w2.cell? ⟨g, k, none⟩ = some x0 := by
    have hs := sl_of_own ho2
    rcases hs with ⟨h, _⟩ | ⟨g', off, cap', hv, _, _, _, h3⟩
    · cases h
    · simp at hv
      obtain ⟨⟨rfl, rfl⟩, hl, rfl⟩ := hv
      exact ⟨_, (Nat.zero_add k ▸ h3 k (by omega)).trans (List.getElem?_eq_getElem (by omega))⟩
  have hfz : w2.frozen? ⟨g, k, none⟩ = false := by
    obtain ⟨cur, hcur⟩ := own_type ho2 (g := g) rfl
    simp [World.frozen?, hcur]
  have m1 := HC2.out.cell 1
  simp only [List.getElem?_cons_zero, List.getElem?_cons_succ] at m1
  have f1 := HC2.out.frozen 1
  clear ho2 hf2
  obtain ⟨w3, hw3⟩ : ∃ w3, w2.setCell ⟨bm, 1, none⟩ (.slice (some ⟨g, 0, none⟩) (k + 1) c2) = w3 := ⟨_, rfl⟩
  have hf3 : Fr [bm] w2 w3 := by
    rw [← hw3]
    exact (Fr.refl _ _).cset _ _ (.inl (by simp))
  have HF3 := Lib.hid hf3
  have HC3 : Hid (Cells w3 bm 56 [.int .i64 m.kind, .slice (some ⟨g, 0, none⟩) (k + 1) c2, .slice aa m.addrs.length ac, .slice ba m.body.length bc]) := by
    rw [← hw3]
    exact (HC2.out.set 1 _).as (by simp)
  have n1 := HC3.out.cell 1
  simp only [List.getElem?_cons_zero, List.getElem?_cons_succ] at n1
  have hx3 : w3.cell? ⟨g, k, none⟩ = some x0 := (World.cell?_of_block (w := w2) (hf3.block g hgl (by simpa using hgb))).trans hx0
  have hz3 : w3.frozen? ⟨g, k, none⟩ = false := (World.frozen?_of_block (w := w2) (hf3.block g hgl (by simpa using hgb))).trans hfz
  have HO3 := Lib.hid (own_fr HO2.out hf3 (by simpa [Value.ownBlock] using hgb))
  have hk0 : (0 : Int) ≤ (k : Int) := by omega
  have hk2 : (k : Int) ≤ 100000 := by have := HL.out; have := HK.out; omega
  have hwk : IntKind.i64.wrap (k : Int) = (k : Int) := IntWalk.i64_in _ (by omega)
  obtain ⟨w4, hw4⟩ : ∃ w4, w3.setCell ⟨g, k, none⟩ (.int .u64 0) = w4 := ⟨_, rfl⟩
  have hf4 : Fr [g] w3 w4 := by
    rw [← hw4]
    exact (Fr.refl _ _).cset _ _ (.inl (by simp))
  have HF4 := Lib.hid hf4
  have HC4 := Lib.hid (HC3.out.fr hf4 (by simpa using Ne.symm hgb))
  have HO4 : Hid (w4.ownsRow w1.heap.size 40 1 (.slice (some ⟨g, 0, none⟩) (k + 1) c2) (k + 1) (u64s (m.nums.set k 0))) := by
    rw [← hw4]
    exact own_set HO3.out k 0
  have o0 := HC4.out.cell 0
  have o1 := HC4.out.cell 1
  have o2 := HC4.out.cell 2
  have o3 := HC4.out.cell 3
  simp only [List.getElem?_cons_zero, List.getElem?_cons_succ] at o0 o1 o2 o3
  have hgg := own_ge HO2.out (g := g) rfl
  have hz1' := hz1.out
  have hbm' := HBM.out
  have hFA : Fr [] w w4 := ((((HF1.out.trans HF2.out)).step HF3.out (by simp; omega)).step hf4 (by simp; omega))
  have HFA := Lib.hid hFA
  have HMA : Hid (MsgAt w4 (.slice (some ⟨g, 0, none⟩) (k + 1) c2) (.slice aa m.addrs.length ac) (.slice ba m.body.length bc) (bareOf m)) := by
    have hkk := HK.out
    refine ⟨?_, H.out.addrs.fr hFA (by simp), H.out.body.fr hFA (by simp), ⟨?_, H.out.wf.hosts⟩⟩
    · have := (sl_of_own HO4.out).ex
      show SlEx _ _ (u64s (m.nums.set (m.nums.length - 1) 0))
      rw [hkk, Nat.add_sub_cancel]
      exact this
    · intro v hv
      rcases List.mem_or_eq_of_mem_set hv with hv | rfl
      · exact H.out.wf.nums v hv
      · omega
  clear hf3 hx0 hfz hf4 hgg hz1' hbm' hFA hgb hgl
  go_wp2_with fail
  refine (wr_bytes w4 (bareOf m) _ _ _ HMA.out).mono ?_
  rintro e w5 ⟨⟨v5, rfl, ho5, hn5⟩, hf5⟩
  have HO5 := Lib.hid ho5
  have HN5 := Lib.hid hn5
  have HF5 := Lib.hid hf5
  clear ho5 hn5 hf5
  go_wp2_with fail
  go_ret
  exact ⟨⟨_, rfl, own_base HO5.out HFA.out.size, HN5.out⟩, HFA.out.trans HF5.out⟩
end Go.Proofs.Ytjfmgpelkhgodaa
