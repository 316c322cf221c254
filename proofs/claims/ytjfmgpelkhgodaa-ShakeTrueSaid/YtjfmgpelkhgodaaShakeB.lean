/- The walk of shake.made. -/
import Derived.Test.YtjfmgpelkhgodaaShakeA
namespace Go.Proofs.Ytjfmgpelkhgodaa
open Go.RowKit
attribute [local go_sem ↓ high] run_min_whole run_max_whole

theorem abytes_flat_len (l : List Ad) : (l.flatMap abytes).length = 6 * l.length := by
  induction l with
  | nil => rfl
  | cons a l ih =>
    rw [List.flatMap_cons, List.length_append, ih, abytes_length, List.length_cons]
    omega
theorem mbytes_len (m : Mg) : (mbytes m).length ≤ 2000 := by
  unfold mbytes
  split
  · rename_i h
    obtain ⟨h1, h2, h3, _⟩ := h
    have h4 := numsOf_le m.kind
    have h5 := uputs_len m.nums
    have h6 := ulen_le m.kind.toNat
    have h7 := ulen_le m.addrs.length
    have h8 := ulen_le m.body.length
    unfold mraw fput
    simp only [List.length_append, uput_length, abytes_flat_len]
    omega
  · simp

/-- What made gives: the notary's list behind it, and the bytes. -/
def made (L : List En) (kind own : Nat) (body : List UInt8) (nums : List Nat) : List En × List UInt8 :=
  let r := mint L own (mbytes ⟨kind, own :: (nums ++ [0]), [], body⟩)
  if r.2.2 ≠ 0 then (r.1, []) else (r.1, mbytes ⟨kind, own :: (nums ++ [r.2.1]), [], body⟩)

/-- What a call leaves that may have minted: the notary, and own bytes. -/
def SentAt (w w' : World) (b mb : Nat) (lv : Value) (L' : List En) (bs : List UInt8) (v : Value) : Prop :=
  w'.ownsRow w.heap.size 5 1 v bs.length (u8s bs) ∧ (v = .slice none 0 0 ↔ bs = []) ∧ Fr (NBlocks b mb lv) w w' ∧ ∃ lv', NotIn w' b mb lv' L' ∧ ∀ g, lv'.ownBlock = some g → lv.ownBlock = some g ∨ w.heap.size ≤ g

set_option maxRecDepth 100000 in
set_option maxHeartbeats 4000000 in
theorem sk_made (w : World) (b mb : Nat) (lv : Value) (L : List En) (kind own : Nat) (bv : Value) (body : List UInt8) (nv : Value) (nums : List Nat) (hN : NotIn w b mb lv L) (hlen : L.length ≤ 100000)
    (hb : SlAt w bv (u8s body)) (hn : SlAt w nv (u64s nums)) (hno : ∀ v ∈ nums, v < 18446744073709551616) (hnl : nums.length ≤ 100) (ho : own < 9223372036854775808)
    (hbN : ∀ g, bv.ownBlock = some g → g ∉ NBlocks b mb lv) :
    Calls Try.prog 89 #[.pointer (some ⟨b, 0, none⟩), .int .i64 kind, .int .i64 own, bv, nv] w fun e w' => ∃ v, e = .returned v ∧ SentAt w w' b mb lv (made L kind own body nums).1 (made L kind own body nums).2 v := by
  have HN := Lib.hid hN
  have HB := Lib.hid hb
  have HNN := Lib.hid hn
  have ho1 : (0 : Int) ≤ (own : Int) := by omega
  have ho2 : (own : Int) ≤ 18446744073709551615 := by omega
  obtain ⟨na, nc, hnv⟩ := sl_shape hn
  obtain ⟨ba, bc, hbv⟩ := sl_shape hb
  rw [u64s_length] at hnv
  rw [u8s_length] at hbv
  clear hN hb hn
  subst hnv hbv
  go_enter Try.func89, Try.ntmps89
  go_wp2_with fail
  obtain ⟨w1, hw1⟩ : ∃ w1, ((w.alloc (.cells #[.int .u64 own] 40)).alloc (.cells #[.int .u64 0] 40)).alloc (.cells #[.slice (some ⟨w.heap.size, 0, none⟩) 1 1, .slice na nums.length nc, .slice (some ⟨w.heap.size + 1, 0, none⟩) 1 1] 53) = w1 := ⟨_, rfl⟩
  rw [hw1]
  have hf1 : Fr [] w w1 := by
    rw [← hw1]
    exact (((Fr.refl [] w).calloc _).calloc _).calloc _
  have hcA : Cells w1 w.heap.size 40 [.int .u64 own] := by
    rw [← hw1]
    exact ((Cells.new w _ _).alloc _).alloc _
  have hcB : Cells w1 (w.heap.size + 1) 40 [.int .u64 0] := by
    rw [← hw1]
    have := Cells.new (w.alloc (.cells #[.int .u64 own] 40)) 40 [.int .u64 0]
    rw [World.size_alloc] at this
    exact this.alloc _
  have hcC : Cells w1 (w.heap.size + 1 + 1) 53 [.slice (some ⟨w.heap.size, 0, none⟩) 1 1, .slice na nums.length nc, .slice (some ⟨w.heap.size + 1, 0, none⟩) 1 1] := by
    rw [← hw1]
    have := Cells.new ((w.alloc (.cells #[.int .u64 own] 40)).alloc (.cells #[.int .u64 0] 40)) 53 [.slice (some ⟨w.heap.size, 0, none⟩) 1 1, .slice na nums.length nc, .slice (some ⟨w.heap.size + 1, 0, none⟩) 1 1]
    simpa using this
  have hsl : ∀ {g : Nat} {x : Nat}, Cells w1 g 40 [.int .u64 x] → SlAt w1 (.slice (some ⟨g, 0, none⟩) 1 1) (u64s [x]) := by
    intro g x hc
    refine .inr ⟨g, 0, 1, rfl, hc.lt, by simp [u64s], by unfold maxLen; omega, fun j hj => ?_⟩
    rw [Nat.zero_add, hc.cell j]
    rfl
  have hU : U64At w1 [(.slice (some ⟨w.heap.size, 0, none⟩) 1 1, [own]), (.slice na nums.length nc, nums), (.slice (some ⟨w.heap.size + 1, 0, none⟩) 1 1, [0])] (w.heap.size + 1 + 1) := by
    intro j s hs
    match j, hs with
    | 0, hs =>
      simp at hs
      subst hs
      exact ⟨by simpa using hcC.cell 0, hsl hcA⟩
    | 1, hs =>
      simp at hs
      subst hs
      exact ⟨by simpa using hcC.cell 1, HNN.out.fr hf1 (by simp)⟩
    | 2, hs =>
      simp at hs
      subst hs
      exact ⟨by simpa using hcC.cell 2, hsl (x := 0) hcB⟩
    | (j + 3), hs => simp at hs
  have hfl : flat [((.slice (some ⟨w.heap.size, 0, none⟩) 1 1 : Value), [own]), (.slice na nums.length nc, nums), (.slice (some ⟨w.heap.size + 1, 0, none⟩) 1 1, [0])] = own :: (nums ++ [0]) := by simp [flat]
  have hcc := sl_concat w1 (w.heap.size + 1 + 1) 3 3 _ rfl hcC.lt hU (by rw [hfl]; simp) (by rw [hfl]; simp; omega) (by omega)
  rw [hfl] at hcc
  refine hcc.mono ?_
  rintro e w2 ⟨v2, rfl, ho2, hf2⟩
  have HF2 := Lib.hid (hf1.trans hf2)
  have HO2 := Lib.hid (own_base ho2 hf1.size)
  clear hw1 hf1 hcA hcB hcC hsl hU hfl hcc ho2 hf2
  have hlen2 : (own :: (nums ++ [0])).length = nums.length + 1 + 1 := by simp
  rw [hlen2] at HO2
  obtain ⟨g, c2, rfl⟩ := ownsRow_succ HO2.out
  clear hlen2
  have hNlt : ∀ q, q ∈ NBlocks b mb lv → q < w.heap.size := fun q hq => by
    simp [NBlocks] at hq
    rcases hq with rfl | rfl | hq
    · exact HN.out.cells.lt
    · exact (Array.getElem?_eq_some_iff.1 HN.out.map).1
    · exact own_lt HN.out.list hq
  have HNLT := Lib.hid hNlt
  clear hNlt
  go_wp2_with fail
  obtain ⟨w3, hw3⟩ : ∃ w3, w2.alloc (.cells #[.int .i64 kind, .slice (some ⟨g, 0, none⟩) (nums.length + 1 + 1) c2, .slice none 0 0, .slice ba body.length bc] 56) = w3 := ⟨_, rfl⟩
  rw [hw3]
  obtain ⟨bm, hbm⟩ : ∃ bm, bm = w2.heap.size := ⟨_, rfl⟩
  rw [← hbm]
  have hf3 : Fr [] w2 w3 := by
    rw [← hw3]
    exact (Fr.refl [] w2).calloc _
  have HM3 : Hid (Cells w3 bm 56 [.int .i64 kind, .slice (some ⟨g, 0, none⟩) (nums.length + 1 + 1) c2, .slice none 0 0, .slice ba body.length bc]) := by
    rw [← hw3, hbm]
    exact Cells.new _ _ _
  have hbw : w.heap.size ≤ bm := by
    rw [hbm]
    exact HF2.out.size
  have hgw : w.heap.size ≤ g := own_ge HO2.out rfl
  have hgm : g < bm := by
    rw [hbm]
    exact own_lt HO2.out rfl
  have HF3 := Lib.hid (HF2.out.trans hf3)
  have HO3 := Lib.hid (own_fr HO2.out hf3 (by simp))
  have HA3 : Hid (MsgAt w3 (.slice (some ⟨g, 0, none⟩) (nums.length + 1 + 1) c2) (.slice none 0 0) (.slice ba body.length bc) ⟨kind, own :: (nums ++ [0]), [], body⟩) := by
    refine ⟨(sl_of_own HO3.out).ex, .inl ⟨rfl, rfl⟩, (HB.out.fr HF3.out (by simp)).ex, ⟨?_, by simp⟩⟩
    intro v hv
    simp at hv
    rcases hv with rfl | hv | rfl
    · omega
    · exact hno v hv
    · omega
  have HBARE : Hid (bareOf ⟨kind, own :: (nums ++ [0]), [], body⟩ = ⟨kind, own :: (nums ++ [0]), [], body⟩) := by
    show _ = _
    unfold bareOf
    simp
  have HN3 := Lib.hid (HN.out.fr HF3.out (by simp))
  clear hw3 hbm hf3
  refine (sk_bare w3 ⟨kind, own :: (nums ++ [0]), [], body⟩ _ _ _ HA3.out (by simp) (by simp; omega)).mono ?_
  rw [HBARE.out]
  rintro e w4 ⟨⟨v4, rfl, ho4, hn4⟩, hf4⟩
  have HO4 := Lib.hid ho4
  have HF4 := Lib.hid (HF3.out.trans hf4)
  have HN4 := Lib.hid (HN3.out.fr hf4 (by simp))
  have HM4 := Lib.hid (HM3.out.fr hf4 (by simp))
  have HR4 := Lib.hid (own_fr HO3.out hf4 (by simp))
  clear ho4 hn4 hf4
  go_wp2_with fail
  refine (not_mint w4 b mb lv L own v4 (mbytes ⟨kind, own :: (nums ++ [0]), [], body⟩) HN4.out (sl_of_own HO4.out).ex (by simp [Lit.wf, IntKind.min, IntKind.max, IntKind.bits, IntKind.signed]; omega) (by have := mbytes_len ⟨kind, own :: (nums ++ [0]), [], body⟩; omega) hlen).mono ?_
  rintro e w5 ⟨rfl, hf5, lv5, hn5, hl5⟩
  obtain ⟨⟨L', tag, code⟩, hmi⟩ : ∃ t, mint L own (mbytes ⟨kind, own :: (nums ++ [0]), [], body⟩) = t := ⟨_, rfl⟩
  have HMI := Lib.hid hmi
  clear hmi
  rw [HMI.out] at hn5 ⊢
  have HM5 := Lib.hid (HM4.out.fr hf5 (fun hm => by have := HNLT.out _ hm; omega))
  have HR5 := Lib.hid (own_fr HR4.out hf5 (fun q hq hm => by have := HNLT.out _ hm; have := own_ge HR4.out hq; omega))
  have HF5 : Hid (Fr (NBlocks b mb lv) w w5) := (HF4.out.mono (by simp)).trans hf5
  have HN5 := Lib.hid hn5
  have hz4 : w.heap.size ≤ w4.heap.size := HF4.out.size
  have HL5 : Hid (∀ g, lv5.ownBlock = some g → lv.ownBlock = some g ∨ w.heap.size ≤ g) := fun q hq => by
    rcases hl5 q hq with h | h
    · exact .inl h
    · right
      omega
  clear hf5 hn5 hl5 hz4
  by_cases hcode : code = 0
  · have HMD : Hid (made L kind own body nums = (L', mbytes ⟨kind, own :: (nums ++ [tag]), [], body⟩)) := by
      show _ = _
      unfold made
      rw [HMI.out]
      simp [hcode]
    have htag : tag < 18446744073709551616 := by
      have := HMI.out
      unfold mint at this
      split at this
      · simp at this
        omega
      · split at this
        · rename_i hmem
          simp at this
          have := List.idxOf_lt_length_of_mem hmem
          omega
        · simp at this
          omega
    subst hcode
    dsimp only
    have n0 := HM5.out.cell 0
    have n1 := HM5.out.cell 1
    have n2 := HM5.out.cell 2
    have n3 := HM5.out.cell 3
    simp only [List.getElem?_cons_zero, List.getElem?_cons_succ] at n0 n1 n2 n3
    obtain ⟨x0, hx0⟩ : ∃ x0, w5.cell? ⟨g, nums.length + 1, none⟩ = some x0 := by
      have hs := sl_of_own HR5.out
      rcases hs with ⟨h, _⟩ | ⟨g', off, cap', hv, _, _, _, h3⟩
      · cases h
      · simp at hv
        obtain ⟨⟨rfl, rfl⟩, hl, rfl⟩ := hv
        exact ⟨_, (Nat.zero_add (nums.length + 1) ▸ h3 (nums.length + 1) (by simp [u64s])).trans (List.getElem?_eq_getElem (by simp [u64s]))⟩
    have hfz : w5.frozen? ⟨g, nums.length + 1, none⟩ = false := by
      obtain ⟨cur, hcur⟩ := own_type HR5.out (g := g) rfl
      simp [World.frozen?, hcur]
    have hk0 : (0 : Int) ≤ (nums.length : Int) := by omega
    have hk2 : (nums.length : Int) ≤ 100 := by omega
    have hwk : IntKind.i64.wrap ((nums.length : Int) + 1) = (nums.length : Int) + 1 := IntWalk.i64_in _ (by omega)
    go_wp2_with fail
    have hf6 : Fr [g] w5 (w5.setCell ⟨g, nums.length + 1, none⟩ (.int .u64 tag)) := (Fr.refl _ _).cset _ _ (.inl (by simp))
    have hR6 := own_set HR5.out (nums.length + 1) tag
    have hset : (own :: (nums ++ [0])).set (nums.length + 1) tag = own :: (nums ++ [tag]) := by simp
    rw [hset] at hR6
    generalize w5.setCell ⟨g, nums.length + 1, none⟩ (.int .u64 tag) = w6 at hf6 hR6 ⊢
    have HF6 : Hid (Fr (NBlocks b mb lv) w w6) := HF5.out.step hf6 (by
      intro q hq
      right
      simp at hq
      omega)
    have hgN : g ∉ NBlocks b mb lv5 := by
      intro hm
      simp [NBlocks] at hm
      rcases hm with h | h | h
      · have := HN.out.cells.lt
        omega
      · have := (Array.getElem?_eq_some_iff.1 HN.out.map).1
        omega
      · obtain ⟨cur, hc⟩ := own_type HN5.out.list h
        obtain ⟨cur', hc'⟩ := own_type HR5.out (g := g) rfl
        rw [hc] at hc'
        cases hc'
    have HN6 := Lib.hid (HN5.out.fr hf6 (by simpa using hgN))
    have HA6 : Hid (MsgAt w6 (.slice (some ⟨g, 0, none⟩) (nums.length + 1 + 1) c2) (.slice none 0 0) (.slice ba body.length bc) ⟨kind, own :: (nums ++ [tag]), [], body⟩) := by
      refine ⟨(sl_of_own hR6).ex, .inl ⟨rfl, rfl⟩, (HB.out.fr HF6.out hbN).ex, ⟨?_, by simp⟩⟩
      intro v hv
      simp at hv
      rcases hv with rfl | hv | rfl
      · omega
      · exact hno v hv
      · exact htag
    clear hf6 hR6 hset hgN hx0 hfz n0 n1 n2 n3
    refine (wr_bytes w6 ⟨kind, own :: (nums ++ [tag]), [], body⟩ _ _ _ HA6.out).mono ?_
    rintro e w7 ⟨⟨v7, rfl, ho7, hn7⟩, hf7⟩
    have HO7 := Lib.hid ho7
    have HN7 := Lib.hid hn7
    have HF7 := Lib.hid hf7
    clear ho7 hn7 hf7
    go_wp2_with fail
    rw [HMD.out]
    go_ret
    exact ⟨_, rfl, own_base HO7.out HF6.out.size, HN7.out, HF6.out.trans (HF7.out.mono (by simp)), lv5, HN6.out.fr HF7.out (by simp), HL5.out⟩
  · have HMD : Hid (made L kind own body nums = (L', [])) := by
      show _ = _
      unfold made
      rw [HMI.out]
      simp [hcode]
    go_wp2_with fail
    rw [HMD.out]
    go_ret
    exact ⟨_, rfl, World.ownsRow_nil _ _ _ _, by simp, HF5.out, lv5, HN5.out, HL5.out⟩
end Go.Proofs.Ytjfmgpelkhgodaa
