/- Words for a law's own walk: what the law's blocks hold, its byte rows, the notary beside them. Plain bounds on what the handshake leaves. -/
import Derived.Test.YtjfmgpelkhgodaaShakeJ
namespace Go.Proofs.Ytjfmgpelkhgodaa
open Go.RowKit

/-- The law's own blocks O, the slices B that it holds, the blocks N of another thing. -/
structure St (w0 w : World) (N : List Nat) (O : List (Nat × TypeId × List Value)) (B : List (Value × List Value)) : Prop where
  fr : Fr [] w0 w
  nlo : ∀ q, q ∈ N → w0.heap.size ≤ q ∧ q < w.heap.size
  own : ∀ p, p ∈ O → Cells w p.1 p.2.1 p.2.2 ∧ w0.heap.size ≤ p.1 ∧ p.1 ∉ N
  dis : (O.map (·.1)).Nodup
  sl : ∀ p, p ∈ B → SlAt w p.1 p.2 ∧ ∀ g, p.1.ownBlock = some g → g ∉ N ∧ g ∉ O.map (·.1)

theorem sl_lt {w : World} {v : Value} {xs : List Value} (h : SlAt w v xs) {g : Nat} (hg : v.ownBlock = some g) : g < w.heap.size := by
  rcases h with ⟨rfl, _⟩ | ⟨g', off, cap, rfl, h1, _⟩
  · simp [Value.ownBlock] at hg
  · simp only [Value.ownBlock, Option.some.injEq] at hg
    subst hg
    exact h1

section
variable {w0 w w' : World} {N : List Nat} {O : List (Nat × TypeId × List Value)} {B : List (Value × List Value)}

theorem St.start (w : World) : St w w [] [] [] := ⟨Fr.refl _ _, by simp, by simp, by simp, by simp⟩
theorem St.cells (h : St w0 w N O B) (i : Nat) {g : Nat} {T : TypeId} {cs : List Value} (hi : O[i]? = some (g, T, cs)) : Cells w g T cs := (h.own _ (List.mem_of_getElem? hi)).1
theorem St.slice (h : St w0 w N O B) (i : Nat) {v : Value} {xs : List Value} (hi : B[i]? = some (v, xs)) : SlAt w v xs := (h.sl _ (List.mem_of_getElem? hi)).1
theorem St.grow (h : St w0 w N O B) (hf : Fr [] w w') : St w0 w' N O B :=
  ⟨h.fr.trans hf, fun q hq => ⟨(h.nlo q hq).1, Nat.lt_of_lt_of_le (h.nlo q hq).2 hf.size⟩, fun p hp => ⟨(h.own p hp).1.fr hf (by simp), (h.own p hp).2⟩, h.dis, fun p hp => ⟨(h.sl p hp).1.fr hf (by simp), (h.sl p hp).2⟩⟩
theorem St.drew (h : St w0 w N O B) : St w0 w.drew N O B := h.grow (Fr.drew w [])
theorem St.drewN (h : St w0 w N O B) (n : Nat) : St w0 (w.drewN n) N O B := h.grow (Fr.drewN w n [])
theorem St.lay (h : St w0 w N O B) (T : TypeId) (cs : List Value) : St w0 (w.alloc (.cells cs.toArray T)) N ((w.heap.size, T, cs) :: O) B := by
  have hg := h.grow (Fr.alloc w (.cells cs.toArray T) [])
  refine ⟨hg.fr, hg.nlo, ?_, ?_, ?_⟩
  · intro p hp
    rcases List.mem_cons.1 hp with rfl | hp
    · refine ⟨Cells.new _ _ _, h.fr.size, fun hm => ?_⟩
      have := (h.nlo _ hm).2
      omega
    · exact hg.own p hp
  · rw [List.map_cons, List.nodup_cons]
    refine ⟨fun hm => ?_, h.dis⟩
    obtain ⟨p, hp, he⟩ := List.mem_map.1 hm
    have h1 := (h.own p hp).1.lt
    simp only at he
    omega
  · intro p hp
    refine ⟨(hg.sl p hp).1, fun g hgo => ⟨((h.sl p hp).2 g hgo).1, ?_⟩⟩
    rw [List.map_cons, List.mem_cons, not_or]
    refine ⟨fun e => ?_, ((h.sl p hp).2 g hgo).2⟩
    have h1 := sl_lt (h.sl p hp).1 hgo
    simp only at e
    omega
theorem St.put (h : St w0 w N O B) (i : Nat) {g : Nat} {T : TypeId} {cs cs' : List Value} (hi : O[i]? = some (g, T, cs)) (hf : Fr [g] w w') (hc : Cells w' g T cs') : St w0 w' N (O.set i (g, T, cs')) B := by
  have hg := h.own _ (List.mem_of_getElem? hi)
  have hilt := (List.getElem?_eq_some_iff.1 hi).1
  have hOi : O[i] = (g, T, cs) := (List.getElem?_eq_some_iff.1 hi).2
  have hmap : (O.set i (g, T, cs')).map (·.1) = O.map (·.1) := by
    rw [List.map_set]
    apply List.ext_getElem (by simp)
    intro j h1 h2
    rw [List.getElem_set]
    split
    · rename_i hij
      subst hij
      simp [hOi]
    · rfl
  refine ⟨h.fr.step hf (fun k hk => .inr (by simp only [List.mem_singleton] at hk; subst hk; exact hg.2.1)), fun q hq => ⟨(h.nlo q hq).1, Nat.lt_of_lt_of_le (h.nlo q hq).2 hf.size⟩, ?_, ?_, ?_⟩
  · intro p hp
    obtain ⟨j, hj⟩ := List.getElem?_of_mem hp
    by_cases hij : i = j
    · subst hij
      rw [List.getElem?_set_self hilt] at hj
      cases hj
      exact ⟨hc, hg.2⟩
    · rw [List.getElem?_set_ne hij] at hj
      have hp' := h.own p (List.mem_of_getElem? hj)
      refine ⟨hp'.1.fr hf ?_, hp'.2⟩
      intro hm
      simp only [List.mem_singleton] at hm
      have hd := h.dis
      have hjlt := (List.getElem?_eq_some_iff.1 hj).1
      have h1 : (O.map (·.1))[i]? = some g := by simp [hi]
      have h2 : (O.map (·.1))[j]? = some g := by simp [hj, hm]
      have := (List.getElem?_inj (by simpa using hilt) hd).1 (h1.trans h2.symm)
      exact hij this
  · rw [hmap]
    exact h.dis
  · intro p hp
    have hp' := h.sl p hp
    refine ⟨hp'.1.fr hf ?_, ?_⟩
    · intro q hq hm
      simp only [List.mem_singleton] at hm
      subst hm
      exact (hp'.2 q hq).2 (List.mem_map.2 ⟨_, List.mem_of_getElem? hi, rfl⟩)
    · rw [hmap]
      exact hp'.2
/-- A slice that was there ahead of the law. -/
theorem St.old (h : St w0 w N O B) {v : Value} {xs : List Value} (hs : SlAt w0 v xs) : St w0 w N O ((v, xs) :: B) := by
  refine ⟨h.fr, h.nlo, h.own, h.dis, ?_⟩
  intro p hp
  rcases List.mem_cons.1 hp with rfl | hp
  · refine ⟨hs.fr h.fr (by simp), fun g hg => ?_⟩
    have hlt := sl_lt hs hg
    refine ⟨fun hm => ?_, fun hm => ?_⟩
    · have := (h.nlo g hm).1
      omega
    · obtain ⟨q, hq, rfl⟩ := List.mem_map.1 hm
      have := (h.own q hq).2.1
      omega
  · exact h.sl p hp
/-- A call that may have minted. -/
theorem St.sent {nb mb : Nat} {lv : Value} {L' : List En} {bs : List UInt8} {v : Value} (h : St w0 w (NBlocks nb mb lv) O B) (hs : SentAt w w' nb mb lv L' bs v) :
    ∃ lv', NotIn w' nb mb lv' L' ∧ St w0 w' (NBlocks nb mb lv') O ((v, u8s bs) :: B) := by
  obtain ⟨h1, h2, h3, lv', h4, h5⟩ := hs
  have hnew : ∀ q, q ∈ NBlocks nb mb lv' → q ∈ NBlocks nb mb lv ∨ w.heap.size ≤ q := by
    intro q hq
    simp only [NBlocks, List.mem_cons, Option.mem_toList] at hq ⊢
    rcases hq with hq | hq | hq
    · exact .inl (.inl hq)
    · exact .inl (.inr (.inl hq))
    · rcases h5 q hq with h | h
      · exact .inl (.inr (.inr h))
      · exact .inr h
  have hON : ∀ p, p ∈ O → p.1 ∉ NBlocks nb mb lv' := by
    intro p hp hm
    rcases hnew _ hm with h6 | h6
    · exact (h.own p hp).2.2 h6
    · have := (h.own p hp).1.lt
      omega
  refine ⟨lv', h4, h.fr.step h3 (fun k hk => .inr (h.nlo k hk).1), ?_, ?_, h.dis, ?_⟩
  · intro q hq
    refine ⟨?_, NotIn.blt h4 q hq⟩
    rcases hnew q hq with h6 | h6
    · exact (h.nlo q h6).1
    · exact Nat.le_trans h.fr.size h6
  · intro p hp
    exact ⟨(h.own p hp).1.fr h3 (h.own p hp).2.2, (h.own p hp).2.1, hON p hp⟩
  · intro p hp
    rcases List.mem_cons.1 hp with rfl | hp
    · refine ⟨sl_of_own h1, fun g hg => ?_⟩
      have hge := own_ge h1 hg
      simp only at hg
      refine ⟨fun hm => ?_, fun hm => ?_⟩
      · simp only [NBlocks, List.mem_cons, Option.mem_toList] at hm
        rcases hm with hm | hm | hm
        · have := (h.nlo g (by simp [NBlocks, hm])).2
          omega
        · have := (h.nlo g (by simp [NBlocks, hm])).2
          omega
        · obtain ⟨cur, hc⟩ := own_type h4.list hm
          obtain ⟨cur', hc'⟩ := own_type h1 hg
          rw [hc] at hc'
          cases hc'
      · obtain ⟨q, hq, rfl⟩ := List.mem_map.1 hm
        have := (h.own q hq).1.lt
        omega
    · have hp' := h.sl p hp
      refine ⟨hp'.1.fr h3 (fun g hg => (hp'.2 g hg).1), fun g hg => ⟨fun hm => ?_, (hp'.2 g hg).2⟩⟩
      rcases hnew _ hm with h6 | h6
      · exact (hp'.2 g hg).1 h6
      · have := sl_lt hp'.1 hg
        omega
/-- A notary is made. -/
theorem St.notary {nb mb : Nat} (h : St w0 w [] O B) (hN : NotIn w' nb mb (.slice none 0 0) []) (hf : Fr [] w w') (hnb : w.heap.size ≤ nb) (hmb : w.heap.size ≤ mb) : St w0 w' (NBlocks nb mb (.slice none 0 0)) O B := by
  have hg := h.grow hf
  have hm : ∀ q, q ∈ NBlocks nb mb (.slice none 0 0) → w.heap.size ≤ q := by
    intro q hq
    simp only [NBlocks, Value.ownBlock, Option.toList_none, List.mem_cons, List.not_mem_nil, or_false] at hq
    omega
  refine ⟨hg.fr, fun q hq => ⟨Nat.le_trans h.fr.size (hm q hq), NotIn.blt hN q hq⟩, fun p hp => ⟨(hg.own p hp).1, (hg.own p hp).2.1, fun hq => ?_⟩, h.dis, fun p hp => ⟨(hg.sl p hp).1, fun g hgo => ⟨fun hq => ?_, ((h.sl p hp).2 g hgo).2⟩⟩⟩
  · have h1 := hm _ hq
    have h2 := (h.own p hp).1.lt
    omega
  · have h1 := hm _ hq
    have h2 := sl_lt (h.sl p hp).1 hgo
    omega
end

def skCells (s : Sk) : List Value := [.int .i64 s.state, .int .i64 s.own, .int .i64 s.other, .int .u64 s.nonce, .int .u64 s.echo]

/-! ### bounds -/
theorem mint_len (L : List En) (p : Int) (t : List UInt8) : L.length ≤ (mint L p t).1.length ∧ (mint L p t).1.length ≤ L.length + 1 := by
  unfold mint
  split
  · simp
  · split
    · simp
    · simp
theorem made_len (L : List En) (k o : Nat) (b : List UInt8) (ns : List Nat) : L.length ≤ (made L k o b ns).1.length ∧ (made L k o b ns).1.length ≤ L.length + 1 := by
  have h := mint_len L o (mbytes ⟨k, o :: (ns ++ [0]), [], b⟩)
  unfold made
  dsimp only
  split <;> exact h
theorem called_len (L : List En) (s : Sk) : L.length ≤ (called L s).2.1.length ∧ (called L s).2.1.length ≤ L.length + 1 := by
  unfold called
  split
  · exact made_len _ _ _ _ _
  · simp
theorem again_len (L : List En) (s : Sk) : L.length ≤ (again L s).1.length ∧ (again L s).1.length ≤ L.length + 1 := by
  unfold again
  split
  · exact made_len _ _ _ _ _
  · split
    · exact made_len _ _ _ _ _
    · simp
theorem heardM_len (L : List En) (s : Sk) (m : Mg) : L.length ≤ (heardM L s m).2.1.length ∧ (heardM L s m).2.1.length ≤ L.length + 1 := by
  unfold heardM hearHello hearAnswer
  repeat' split
  all_goals first
    | exact made_len _ _ _ _ _
    | exact ⟨Nat.le_refl _, Nat.le_succ _⟩
theorem heard_len (L : List En) (s : Sk) (b : List UInt8) : L.length ≤ (heard L s b).2.1.length ∧ (heard L s b).2.1.length ≤ L.length + 1 := by
  unfold heard
  split
  · simp
  · exact heardM_len _ _ _
theorem called_wf {L : List En} {s : Sk} (h : s.Wf) : (called L s).1.Wf := by
  unfold called
  split
  · exact ⟨h.own, h.other, h.nonce, h.echo⟩
  · exact h
theorem getD_lt {l : List Nat} {n : Nat} (h : ∀ v ∈ l, v < n) (hn : 0 < n) (i : Nat) : l.getD i 0 < n := by
  by_cases hi : i < l.length
  · have : l.getD i 0 = l[i] := by simp [List.getD, hi]
    rw [this]
    exact h _ (List.getElem_mem hi)
  · have : l.getD i 0 = 0 := by simp [List.getD, hi]
    omega
theorem heardM_wf {L : List En} {s : Sk} {m : Mg} (h : s.Wf) (hm : m.Wf) : (heardM L s m).1.Wf := by
  have hx := getD_lt hm.nums (by omega) 2
  unfold heardM hearHello hearAnswer
  repeat' split
  all_goals first
    | exact h
    | exact ⟨h.own, h.other, h.nonce, hx⟩
theorem heard_wf {L : List En} {s : Sk} {b : List UInt8} (h : s.Wf) : (heard L s b).1.Wf := by
  unfold heard
  split
  · exact h
  · rename_i m hm
    exact heardM_wf h (mfrom_wf hm)
end Go.Proofs.Ytjfmgpelkhgodaa
