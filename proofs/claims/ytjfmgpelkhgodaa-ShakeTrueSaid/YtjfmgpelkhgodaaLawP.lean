/- Plain facts on tags, hellos and answers: what is made is right, what was made stays right, what was changed is not. -/
import Derived.Test.YtjfmgpelkhgodaaLawA
namespace Go.Proofs.Ytjfmgpelkhgodaa

/-- L' has what L has, where L has it. -/
def Ext (L L' : List En) : Prop := ∀ (i : Nat) e, L[i]? = some e → L'[i]? = some e
theorem Ext.refl (L : List En) : Ext L L := fun _ _ h => h
theorem Ext.trans {A B C : List En} (h : Ext A B) (k : Ext B C) : Ext A C := fun i e hi => k i e (h i e hi)
theorem Ext.snoc (L : List En) (e : En) : Ext L (L ++ [e]) := fun i x h => by
  have := (List.getElem?_eq_some_iff.1 h).1
  rw [List.getElem?_append_left this]
  exact h

def peer (a : Nat) : Prop := 1 ≤ a ∧ a ≤ 2147483647
def nonce (n : Nat) : Prop := 1 ≤ n ∧ n ≤ 9223372036854775807

theorem mint_ok {L : List En} {p : Nat} (hp : peer p) (t : List UInt8) : ∃ L' tag, mint L p t = (L', tag, 0) ∧ 1 ≤ tag ∧ tag ≤ L.length + 1 ∧ L'[tag - 1]? = some ((p : Int), t) ∧ Ext L L' ∧ ∀ e, e ∈ L' → e ∈ L ∨ e = ((p : Int), t) := by
  obtain ⟨h1, h2⟩ := hp
  unfold mint
  rw [if_neg (by omega)]
  by_cases hm : ((p : Int), t) ∈ L
  · rw [if_pos hm]
    have hlt := List.idxOf_lt_length_of_mem hm
    refine ⟨L, _, rfl, by omega, by omega, ?_, Ext.refl L, fun e he => .inl he⟩
    rw [Nat.add_sub_cancel, List.getElem?_eq_getElem hlt, List.getElem_idxOf]
  · rw [if_neg hm]
    refine ⟨_, _, rfl, by omega, by omega, by simp, Ext.snoc _ _, fun e he => ?_⟩
    simpa using he
/-- It is minted already: the very same tag. -/
theorem mint_again {L : List En} {p tag : Nat} (hp : peer p) {t : List UInt8} (hL : L.Nodup) (h1 : 1 ≤ tag) (h : L[tag - 1]? = some ((p : Int), t)) : mint L p t = (L, tag, 0) := by
  obtain ⟨h2, h3⟩ := hp
  unfold mint
  rw [if_neg (by omega), if_pos (List.mem_of_getElem? h), idxOf_of_nodup hL h, Nat.sub_add_cancel h1]
theorem mint_nodup {L : List En} (hL : L.Nodup) (p : Int) (t : List UInt8) : (mint L p t).1.Nodup := by
  unfold mint
  split
  · exact hL
  · split
    · exact hL
    · rename_i h
      rw [List.nodup_append]
      refine ⟨hL, by simp, ?_⟩
      intro a ha c hc
      simp at hc
      subst hc
      rintro rfl
      exact h ha

def helloOf (a b n t : Nat) : Mg := ⟨1, [a, b, n, t], [], []⟩
def answerOf (a b n e t : Nat) (body : List UInt8) : Mg := ⟨2, [a, b, n, e, t], [], body⟩
theorem hello_may {a b n t : Nat} (ha : a < 9223372036854775808) (hb : b < 9223372036854775808) (hn : n < 9223372036854775808) (ht : t < 9223372036854775808) : mmay (helloOf a b n t) := by
  refine ⟨by show ((4 : Nat) : Int) = numsOf 1; decide, Nat.zero_le _, Nat.zero_le _, ?_, by simp [helloOf]⟩
  intro v hv
  simp [helloOf] at hv
  omega
theorem answer_may {a b n e t : Nat} {body : List UInt8} (ha : a < 9223372036854775808) (hb : b < 9223372036854775808) (hn : n < 9223372036854775808) (he : e < 9223372036854775808) (ht : t < 9223372036854775808) (hbd : body.length ≤ 1000) : mmay (answerOf a b n e t body) := by
  refine ⟨by show ((5 : Nat) : Int) = numsOf 2; decide, Nat.zero_le _, hbd, ?_, by simp [answerOf]⟩
  intro v hv
  simp [answerOf] at hv
  omega
theorem bare_hello (a b n t : Nat) : bareOf (helloOf a b n t) = helloOf a b n 0 := rfl
theorem bare_answer (a b n e t : Nat) (body : List UInt8) : bareOf (answerOf a b n e t body) = answerOf a b n e 0 body := rfl

/-- A hello, as it is made. -/
structure HelloIn (L : List En) (a b n : Nat) (bs : List UInt8) : Prop where
  get : ∃ tag, 1 ≤ tag ∧ tag ≤ 1000000 ∧ L[tag - 1]? = some ((a : Int), mbytes (helloOf a b n 0)) ∧ bs = mbytes (helloOf a b n tag)
structure AnswerIn (L : List En) (a b n e : Nat) (body bs : List UInt8) : Prop where
  get : ∃ tag, 1 ≤ tag ∧ tag ≤ 1000000 ∧ L[tag - 1]? = some ((a : Int), mbytes (answerOf a b n e 0 body)) ∧ bs = mbytes (answerOf a b n e tag body)
theorem HelloIn.ext {L L' : List En} {a b n : Nat} {bs : List UInt8} (h : HelloIn L a b n bs) (hx : Ext L L') : HelloIn L' a b n bs := by
  obtain ⟨tag, h1, h2, h3, h4⟩ := h.get
  exact ⟨tag, h1, h2, hx _ _ h3, h4⟩
theorem AnswerIn.ext {L L' : List En} {a b n e : Nat} {body bs : List UInt8} (h : AnswerIn L a b n e body bs) (hx : Ext L L') : AnswerIn L' a b n e body bs := by
  obtain ⟨tag, h1, h2, h3, h4⟩ := h.get
  exact ⟨tag, h1, h2, hx _ _ h3, h4⟩

theorem made_hello {L : List En} {a b n : Nat} (ha : peer a) (hl : L.length ≤ 100000) : ∃ L' bs, made L 1 a [] [b, n] = (L', bs) ∧ HelloIn L' a b n bs ∧ Ext L L' ∧ (∀ e, e ∈ L' → e ∈ L ∨ e = ((a : Int), mbytes (helloOf a b n 0))) := by
  obtain ⟨L', tag, hm, h1, h2, h3, h4, h5⟩ := mint_ok (L := L) ha (mbytes (helloOf a b n 0))
  refine ⟨L', mbytes (helloOf a b n tag), ?_, ⟨tag, h1, by omega, h3, rfl⟩, h4, h5⟩
  unfold made
  have e : (⟨((1 : Nat) : Int), a :: ([b, n] ++ [0]), [], []⟩ : Mg) = helloOf a b n 0 := rfl
  rw [e, hm]
  rfl
theorem made_answer {L : List En} {a b n x : Nat} {body : List UInt8} (ha : peer a) (hl : L.length ≤ 100000) : ∃ L' bs, made L 2 a body [b, n, x] = (L', bs) ∧ AnswerIn L' a b n x body bs ∧ Ext L L' ∧ (∀ e, e ∈ L' → e ∈ L ∨ e = ((a : Int), mbytes (answerOf a b n x 0 body))) := by
  obtain ⟨L', tag, hm, h1, h2, h3, h4, h5⟩ := mint_ok (L := L) ha (mbytes (answerOf a b n x 0 body))
  refine ⟨L', mbytes (answerOf a b n x tag body), ?_, ⟨tag, h1, by omega, h3, rfl⟩, h4, h5⟩
  unfold made
  have e : (⟨((2 : Nat) : Int), a :: ([b, n, x] ++ [0]), [], body⟩ : Mg) = answerOf a b n x 0 body := rfl
  rw [e, hm]
  rfl
/-- Made again: the very same bytes, nothing new. -/
theorem made_hello_again {L : List En} {a b n : Nat} {bs : List UInt8} (ha : peer a) (hL : L.Nodup) (h : HelloIn L a b n bs) : made L 1 a [] [b, n] = (L, bs) := by
  obtain ⟨tag, h1, h2, h3, h4⟩ := h.get
  have hm := mint_again ha hL h1 h3
  unfold made
  have e : (⟨((1 : Nat) : Int), a :: ([b, n] ++ [0]), [], []⟩ : Mg) = helloOf a b n 0 := rfl
  rw [e, hm, h4]
  rfl
theorem made_answer_again {L : List En} {a b n x : Nat} {body bs : List UInt8} (ha : peer a) (hL : L.Nodup) (h : AnswerIn L a b n x body bs) : made L 2 a body [b, n, x] = (L, bs) := by
  obtain ⟨tag, h1, h2, h3, h4⟩ := h.get
  have hm := mint_again ha hL h1 h3
  unfold made
  have e : (⟨((2 : Nat) : Int), a :: ([b, n, x] ++ [0]), [], body⟩ : Mg) = answerOf a b n x 0 body := rfl
  rw [e, hm, h4]
  rfl
theorem made_nodup {L : List En} (hL : L.Nodup) (k o : Nat) (b : List UInt8) (ns : List Nat) : (made L k o b ns).1.Nodup := by
  have h := mint_nodup hL o (mbytes ⟨k, o :: (ns ++ [0]), [], b⟩)
  unfold made
  dsimp only
  split <;> exact h

theorem ncheck_ok {L : List En} {p : Int} {t : List UInt8} {tag : Nat} (h1 : 1 ≤ tag) (h : L[tag - 1]? = some (p, t)) : ncheck L p t tag = 0 := by
  unfold ncheck
  rw [if_pos ⟨h1, h⟩]
theorem skcheck_hello {L : List En} {a b n tag : Nat} (ha : peer a) (hb : b < 9223372036854775808) (hn : n < 9223372036854775808) (h1 : 1 ≤ tag) (h2 : tag ≤ 1000000) (h : L[tag - 1]? = some ((a : Int), mbytes (helloOf a b n 0))) : skcheck L (helloOf a b n tag) = true := by
  unfold skcheck
  rw [decide_eq_true_eq]
  obtain ⟨k1, k2⟩ := ha
  exact ⟨.inl rfl, hello_may (by omega) hb hn (by omega), by simpa [helloOf] using k2, ncheck_ok h1 h⟩
theorem skcheck_answer {L : List En} {a b n e tag : Nat} {body : List UInt8} (ha : peer a) (hb : b < 9223372036854775808) (hn : n < 9223372036854775808) (he : e < 9223372036854775808) (hbd : body.length ≤ 1000) (h1 : 1 ≤ tag) (h2 : tag ≤ 1000000) (h : L[tag - 1]? = some ((a : Int), mbytes (answerOf a b n e 0 body))) : skcheck L (answerOf a b n e tag body) = true := by
  unfold skcheck
  rw [decide_eq_true_eq]
  obtain ⟨k1, k2⟩ := ha
  exact ⟨.inr rfl, answer_may (by omega) hb hn he (by omega) hbd, by simpa [answerOf] using k2, ncheck_ok h1 h⟩

/-- A hello that comes to whom it is for. -/
theorem heard_hello {L : List En} {s : Sk} {a b n : Nat} {bs : List UInt8} (ha : peer a) (hb : peer b) (hn : nonce n) (h : HelloIn L a b n bs) (ho : s.other = a) (hw : s.own = b) (h4 : s.state ≠ 4) :
    ∃ m, mfrom bs = some m ∧ m.nums.getD 2 0 = n ∧ heard L s bs = hearHello L s m := by
  obtain ⟨tag, h1, h2, h3, rfl⟩ := h.get
  obtain ⟨a1, a2⟩ := ha
  obtain ⟨b1, b2⟩ := hb
  obtain ⟨n1, n2⟩ := hn
  have hm := hello_may (a := a) (b := b) (n := n) (t := tag) (by omega) (by omega) (by omega) (by omega)
  have hf : mfrom (mbytes (helloOf a b n tag)) = some (helloOf a b n tag) := mfrom_mbytes hm (by simp [helloOf])
  refine ⟨_, hf, rfl, ?_⟩
  unfold heard
  rw [hf]
  dsimp only
  unfold heardM
  have hc := skcheck_hello (L := L) (b := b) (n := n) ⟨a1, a2⟩ (by omega) (by omega) h1 h2 h3
  rw [if_neg]
  · rw [if_pos (show (helloOf a b n tag).kind = 1 from rfl)]
  · rintro (h | h | h | h)
    · exact h4 h
    · rw [hc] at h
      cases h
    · exact h ho.symm
    · exact h hw.symm
theorem heard_answer {L : List En} {s : Sk} {a b n x : Nat} {body bs : List UInt8} (ha : peer a) (hb : peer b) (hn : nonce n) (hx : x < 9223372036854775808) (hbd : body.length ≤ 1000) (h : AnswerIn L a b n x body bs) (ho : s.other = a) (hw : s.own = b) (h4 : s.state ≠ 4) :
    ∃ m, mfrom bs = some m ∧ m.nums.getD 2 0 = n ∧ m.nums.getD 3 0 = x ∧ m.body = body ∧ m.kind = 2 ∧ heard L s bs = hearAnswer L s m := by
  obtain ⟨tag, h1, h2, h3, rfl⟩ := h.get
  obtain ⟨a1, a2⟩ := ha
  obtain ⟨b1, b2⟩ := hb
  obtain ⟨n1, n2⟩ := hn
  have hm := answer_may (a := a) (b := b) (n := n) (e := x) (t := tag) (body := body) (by omega) (by omega) (by omega) hx (by omega) hbd
  have hf : mfrom (mbytes (answerOf a b n x tag body)) = some (answerOf a b n x tag body) := mfrom_mbytes hm (by simp [answerOf])
  refine ⟨_, hf, rfl, rfl, rfl, rfl, ?_⟩
  unfold heard
  rw [hf]
  dsimp only
  unfold heardM
  have hc := skcheck_answer (L := L) (b := b) (n := n) (e := x) ⟨a1, a2⟩ (by omega) (by omega) hx hbd h1 h2 h3
  rw [if_neg]
  · rw [if_neg (show ¬ (answerOf a b n x tag body).kind = 1 from by show ¬ (2 : Int) = 1; decide)]
  · rintro (h | h | h | h)
    · exact h4 h
    · rw [hc] at h
      cases h
    · exact h ho.symm
    · exact h hw.symm
theorem HelloIn.ne {L : List En} {a b n : Nat} {bs : List UInt8} (h : HelloIn L a b n bs) (ha : peer a) (hb : peer b) (hn : nonce n) : 0 < bs.length := by
  obtain ⟨tag, h1, h2, h3, rfl⟩ := h.get
  obtain ⟨a1, a2⟩ := ha
  obtain ⟨b1, b2⟩ := hb
  obtain ⟨n1, n2⟩ := hn
  exact List.length_pos_iff.2 (mbytes_ne (hello_may (by omega) (by omega) (by omega) (by omega)))
theorem AnswerIn.ne {L : List En} {a b n x : Nat} {body bs : List UInt8} (h : AnswerIn L a b n x body bs) (ha : peer a) (hb : peer b) (hn : nonce n) (hx : x < 9223372036854775808) (hbd : body.length ≤ 1000) : 0 < bs.length := by
  obtain ⟨tag, h1, h2, h3, rfl⟩ := h.get
  obtain ⟨a1, a2⟩ := ha
  obtain ⟨b1, b2⟩ := hb
  obtain ⟨n1, n2⟩ := hn
  exact List.length_pos_iff.2 (mbytes_ne (answer_may (by omega) (by omega) (by omega) hx (by omega) hbd))
/-- What may be a handshake's own words. -/
theorem skMay_iff {own other : Int} {n : Nat} : skMay own other n = true ↔ ∃ a b : Nat, own = a ∧ other = b ∧ peer a ∧ peer b ∧ a ≠ b ∧ nonce n := by
  unfold skMay mayPeer
  simp only [Bool.and_eq_true, decide_eq_true_eq]
  constructor
  · rintro ⟨⟨⟨⟨⟨h1, h2⟩, h3, h4⟩, h5⟩, h6⟩, h7⟩
    obtain ⟨a, rfl⟩ := Int.eq_ofNat_of_zero_le (show 0 ≤ own by omega)
    obtain ⟨b, rfl⟩ := Int.eq_ofNat_of_zero_le (show 0 ≤ other by omega)
    exact ⟨a, b, rfl, rfl, ⟨by omega, by omega⟩, ⟨by omega, by omega⟩, by omega, h6, h7⟩
  · rintro ⟨a, b, rfl, rfl, ⟨h1, h2⟩, ⟨h3, h4⟩, h5, h6, h7⟩
    exact ⟨⟨⟨⟨⟨by omega, by omega⟩, by omega, by omega⟩, by omega⟩, h6⟩, h7⟩
end Go.Proofs.Ytjfmgpelkhgodaa
