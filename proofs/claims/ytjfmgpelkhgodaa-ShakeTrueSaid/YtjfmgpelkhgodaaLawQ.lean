/- Plain: what each state does with each message; two that meet, with losses. -/
import Derived.Test.YtjfmgpelkhgodaaLawP
namespace Go.Proofs.Ytjfmgpelkhgodaa

structure Grown (L L' : List En) : Prop where
  ext : Ext L L'
  nodup : L'.Nodup
  len : L'.length ≤ L.length + 1
theorem Grown.same {L : List En} (h : L.Nodup) : Grown L L := ⟨Ext.refl _, h, by omega⟩

section
variable {L : List En} {a b nA nB : Nat}
theorem hnil (L : List En) (s : Sk) : heard L s [] = (s, (L, [])) := by
  unfold heard
  rw [mfrom_nil]
/-- A hello comes to one that is Fresh or Called. -/
theorem hh0 {st : Int} (hst : st = 0 ∨ st = 1) {x : List UInt8} (ha : peer a) (hb : peer b) (hA : nonce nA) (hL : L.Nodup) (hl : L.length ≤ 1000) (h : HelloIn L a b nA x) :
    ∃ L1 v, heard L ⟨st, b, a, nB, 0⟩ x = (⟨2, b, a, nB, nA⟩, (L1, v)) ∧ AnswerIn L1 b a nB nA [] v ∧ Grown L L1 := by
  obtain ⟨m, h1, h2, h3⟩ := heard_hello (s := ⟨st, b, a, nB, 0⟩) ha hb hA h rfl rfl (by dsimp only; omega)
  obtain ⟨L1, v, k1, k2, k3, k4⟩ := made_answer (L := L) (a := b) (b := a) (n := nB) (x := nA) (body := []) hb (by omega)
  refine ⟨L1, v, ?_, k2, k3, ?_, ?_⟩
  · rw [h3]
    unfold hearHello
    rw [h2, if_neg (by have := hA.1; omega), if_pos (by dsimp only; omega)]
    dsimp only
    rw [k1]
  · have := made_nodup hL 2 b [] [a, nB, nA]
    rw [k1] at this
    exact this
  · have := made_len L 2 b [] [a, nB, nA]
    rw [k1] at this
    exact this.2
theorem hh2 {st : Int} (hst : st = 2 ∨ st = 3) {x : List UInt8} (ha : peer a) (hb : peer b) (hA : nonce nA) (hL : L.Nodup) (hl : L.length ≤ 1000) (h : HelloIn L a b nA x) :
    ∃ L1 v, heard L ⟨st, b, a, nB, nA⟩ x = (⟨st, b, a, nB, nA⟩, (L1, v)) ∧ made L 2 b [] [a, nB, nA] = (L1, v) ∧ AnswerIn L1 b a nB nA [] v ∧ Grown L L1 := by
  obtain ⟨m, h1, h2, h3⟩ := heard_hello (s := ⟨st, b, a, nB, nA⟩) ha hb hA h rfl rfl (by dsimp only; omega)
  obtain ⟨L1, v, k1, k2, k3, k4⟩ := made_answer (L := L) (a := b) (b := a) (n := nB) (x := nA) (body := []) hb (by omega)
  refine ⟨L1, v, ?_, k1, k2, k3, ?_, ?_⟩
  · rw [h3]
    unfold hearHello
    rw [h2, if_neg (by have := hA.1; omega), if_neg (by dsimp only; omega), if_neg (by dsimp only; simp)]
    dsimp only
    rw [k1]
  · have := made_nodup hL 2 b [] [a, nB, nA]
    rw [k1] at this
    exact this
  · have := made_len L 2 b [] [a, nB, nA]
    rw [k1] at this
    exact this.2
/-- An answer of an empty body comes to one that is Called, or that has its nonce. -/
theorem ha1 {st : Int} {ec : Nat} (hst : st = 1 ∨ (st = 2 ∨ st = 3) ∧ ec = nB) {y : List UInt8} (ha : peer a) (hb : peer b) (hA : nonce nA) (hB : nonce nB) (hL : L.Nodup) (hl : L.length ≤ 1000) (h : AnswerIn L b a nB nA [] y) :
    ∃ L1 v, heard L ⟨st, a, b, nA, ec⟩ y = (⟨3, a, b, nA, nB⟩, (L1, v)) ∧ AnswerIn L1 a b nA nB [1] v ∧ Grown L L1 := by
  obtain ⟨m, h1, h2, h3, h4, h5, h6⟩ := heard_answer (s := ⟨st, a, b, nA, ec⟩) hb ha hB (by have := hA.2; omega) (by simp) h rfl rfl (by dsimp only; omega)
  obtain ⟨L1, v, k1, k2, k3, k4⟩ := made_answer (L := L) (a := a) (b := b) (n := nA) (x := nB) (body := [1]) ha (by omega)
  refine ⟨L1, v, ?_, k2, k3, ?_, ?_⟩
  · rw [h6]
    unfold hearAnswer
    have hz := hB.1
    rw [h2, h3, h4, if_neg (by dsimp only; omega), if_neg (by dsimp only; omega), if_neg (by simp)]
    dsimp only
    rw [k1]
  · have := made_nodup hL 2 a [1] [b, nA, nB]
    rw [k1] at this
    exact this
  · have := made_len L 2 a [1] [b, nA, nB]
    rw [k1] at this
    exact this.2
/-- A last answer. -/
theorem hal {st : Int} (hst : st = 2 ∨ st = 3) {x : List UInt8} (ha : peer a) (hb : peer b) (hA : nonce nA) (hB : nonce nB) (h : AnswerIn L a b nA nB [1] x) : heard L ⟨st, b, a, nB, nA⟩ x = (⟨3, b, a, nB, nA⟩, (L, [])) := by
  obtain ⟨m, h1, h2, h3, h4, h5, h6⟩ := heard_answer (s := ⟨st, b, a, nB, nA⟩) ha hb hA (by have := hB.2; omega) (by simp) h rfl rfl (by dsimp only; omega)
  rw [h6]
  unfold hearAnswer
  have hz := hA.1
  rw [h2, h3, h4, if_neg (by dsimp only; omega), if_neg (by dsimp only; simp), if_pos (by simp)]
theorem ag1 {ec : Nat} {x : List UInt8} (ha : peer a) (hL : L.Nodup) (h : HelloIn L a b nA x) : again L ⟨1, a, b, nA, ec⟩ = (L, x) := by
  unfold again
  rw [if_pos rfl]
  exact made_hello_again ha hL h
theorem ag2 {x : List UInt8} (hb : peer b) (hL : L.Nodup) (h : AnswerIn L b a nB nA [] x) : again L ⟨2, b, a, nB, nA⟩ = (L, x) := by
  unfold again
  rw [if_neg (show ¬ (2 : Int) = 1 by decide), if_pos rfl]
  exact made_answer_again hb hL h
theorem ag3 (s : Sk) (h1 : s.state ≠ 1) (h2 : s.state ≠ 2) : again L s = (L, []) := by
  unfold again
  rw [if_neg h1, if_neg h2]
theorem call0 (ha : peer a) (hL : L.Nodup) (hl : L.length ≤ 1000) : ∃ L1 x, called L ⟨0, a, b, nA, 0⟩ = (⟨1, a, b, nA, 0⟩, (L1, x)) ∧ HelloIn L1 a b nA x ∧ Grown L L1 := by
  obtain ⟨L1, v, k1, k2, k3, k4⟩ := made_hello (L := L) (a := a) (b := b) (n := nA) ha (by omega)
  refine ⟨L1, v, ?_, k2, k3, ?_, ?_⟩
  · unfold called
    rw [if_pos rfl]
    dsimp only
    rw [k1]
  · have := made_nodup hL 1 a [] [b, nA]
    rw [k1] at this
    exact this
  · have := made_len L 1 a [] [b, nA]
    rw [k1] at this
    exact this.2
end

/-! ### two that meet -/
inductive Ph where
  | s0 | s1 | s2 | s3 | t0 | t1
def Ph.rank : Ph → Nat
  | .s0 => 3
  | .s1 => 2
  | .s2 => 1
  | .s3 => 2
  | .t0 => 2
  | .t1 => 1
def Ph.is (a b nA nB : Nat) (sa sb : Sk) (x y : List UInt8) (L : List En) : Ph → Prop
  | .s0 => sa = ⟨1, a, b, nA, 0⟩ ∧ sb = ⟨0, b, a, nB, 0⟩ ∧ HelloIn L a b nA x ∧ y = []
  | .s1 => sa = ⟨1, a, b, nA, 0⟩ ∧ sb = ⟨2, b, a, nB, nA⟩ ∧ HelloIn L a b nA x ∧ AnswerIn L b a nB nA [] y
  | .s2 => sa = ⟨3, a, b, nA, nB⟩ ∧ sb = ⟨2, b, a, nB, nA⟩ ∧ AnswerIn L a b nA nB [1] x ∧ AnswerIn L b a nB nA [] y
  | .s3 => sa = ⟨3, a, b, nA, nB⟩ ∧ sb = ⟨2, b, a, nB, nA⟩ ∧ x = [] ∧ AnswerIn L b a nB nA [] y
  | .t0 => sa = ⟨1, a, b, nA, 0⟩ ∧ sb = ⟨1, b, a, nB, 0⟩ ∧ HelloIn L a b nA x ∧ HelloIn L b a nB y
  | .t1 => sa = ⟨2, a, b, nA, nB⟩ ∧ sb = ⟨2, b, a, nB, nA⟩ ∧ AnswerIn L a b nA nB [] x ∧ AnswerIn L b a nB nA [] y
/-- Where the two are, ahead of round i. -/
structure Meet (a b nA nB i : Nat) (sa sb : Sk) (x y : List UInt8) (L : List En) : Prop where
  nodup : L.Nodup
  len : L.length ≤ 4 * i + 2
  ph : ∃ p : Ph, i + p.rank ≤ 13 ∧ p.is a b nA nB sa sb x y L
/-- What a round comes to. -/
structure Round (a b nA nB i : Nat) (L : List En) (sa sb : Sk) (x y : List UInt8) (c : Sk) (L1 : List En) (v : List UInt8) (d : Sk) (L2 : List En) (w : List UInt8) (L3 : List En) (x2 : List UInt8) (L4 : List En) (y2 : List UInt8) : Prop where
  hb : heard L sb x = (c, (L1, v))
  ha : heard L1 sa y = (d, (L2, w))
  done : d.state = 3 → c.state = 3 → d.echo = nB ∧ c.echo = nA
  xx : if w = [] then again L2 d = (L3, x2) else L3 = L2 ∧ x2 = w
  yy : if v = [] then again L3 c = (L4, y2) else L4 = L3 ∧ y2 = v
  on : ¬ (d.state = 3 ∧ c.state = 3) → Meet a b nA nB (i + 1) d c x2 y2 L4
  len : L1.length ≤ 1000 ∧ L2.length ≤ 1000 ∧ L3.length ≤ 1000

theorem Meet.round {a b nA nB i : Nat} {sa sb : Sk} {x y : List UInt8} {L : List En} (ha : peer a) (hb : peer b) (hA : nonce nA) (hB : nonce nB) (h : Meet a b nA nB i sa sb x y L) :
    ∃ c L1 v d L2 w L3 x2 L4 y2, Round a b nA nB i L sa sb x y c L1 v d L2 w L3 x2 L4 y2 := by
  obtain ⟨hL, hlen, p, hr, hp⟩ := h
  have hn : nB < 9223372036854775808 := by have := hB.2; omega
  have hnA : nA < 9223372036854775808 := by have := hA.2; omega
  have hi : i ≤ 12 := by
    have : 1 ≤ p.rank := by cases p <;> decide
    omega
  cases p with
  | s0 =>
    obtain ⟨rfl, rfl, hx, rfl⟩ := hp
    obtain ⟨L1, v, e1, e2, e3⟩ := hh0 (nB := nB) (.inl rfl) ha hb hA hL (by omega) hx
    have hv : v ≠ [] := List.length_pos_iff.1 (e2.ne hb ha hB hnA (by simp))
    have hx' := hx.ext e3.ext
    have l1 := e3.len
    exact ⟨_, L1, v, _, L1, [], L1, x, L1, v, e1, hnil _ _, (fun h => by have h' : (1 : Int) = 3 := h; omega), by rw [if_pos rfl]; exact ag1 ha e3.nodup hx', by rw [if_neg hv]; exact ⟨rfl, rfl⟩,
      fun _ => ⟨e3.nodup, by omega, .s1, by simp only [Ph.rank] at hr ⊢; omega, rfl, rfl, hx', e2⟩, by omega, by omega, by omega⟩
  | s1 =>
    obtain ⟨rfl, rfl, hx, hy⟩ := hp
    obtain ⟨L1, v, e1, e4, e2, e3⟩ := hh2 (nB := nB) (.inl rfl) ha hb hA hL (by omega) hx
    have hy' := hy.ext e3.ext
    have l1 := e3.len
    obtain ⟨L2, w, f1, f2, f3⟩ := ha1 (st := 1) (ec := 0) (.inl rfl) ha hb hA hB e3.nodup (by omega) hy'
    have l2 := f3.len
    have hv : v ≠ [] := List.length_pos_iff.1 (e2.ne hb ha hB hnA (by simp))
    have hw : w ≠ [] := List.length_pos_iff.1 (f2.ne ha hb hA hn (by simp))
    exact ⟨_, L1, v, _, L2, w, L2, w, L2, v, e1, f1, (fun _ h => by have h' : (2 : Int) = 3 := h; omega), by rw [if_neg hw]; exact ⟨rfl, rfl⟩, by rw [if_neg hv]; exact ⟨rfl, rfl⟩,
      fun _ => ⟨f3.nodup, by omega, .s2, by simp only [Ph.rank] at hr ⊢; omega, rfl, rfl, f2, e2.ext f3.ext⟩, by omega, by omega, by omega⟩
  | s2 =>
    obtain ⟨rfl, rfl, hx, hy⟩ := hp
    have e1 := hal (L := L) (.inl rfl) ha hb hA hB hx
    obtain ⟨L2, w, f1, f2, f3⟩ := ha1 (st := 3) (ec := nB) (.inr ⟨.inr rfl, rfl⟩) ha hb hA hB hL (by omega) hy
    have l2 := f3.len
    have hw : w ≠ [] := List.length_pos_iff.1 (f2.ne ha hb hA hn (by simp))
    exact ⟨_, L, [], _, L2, w, L2, w, L2, [], e1, f1, fun _ _ => ⟨rfl, rfl⟩, by rw [if_neg hw]; exact ⟨rfl, rfl⟩, by rw [if_pos rfl]; exact ag3 _ (by show ¬ (3 : Int) = 1; decide) (by show ¬ (3 : Int) = 2; decide),
      fun h => absurd ⟨rfl, rfl⟩ h, by omega, by omega, by omega⟩
  | s3 =>
    obtain ⟨rfl, rfl, rfl, hy⟩ := hp
    obtain ⟨L2, w, f1, f2, f3⟩ := ha1 (st := 3) (ec := nB) (.inr ⟨.inr rfl, rfl⟩) ha hb hA hB hL (by omega) hy
    have l2 := f3.len
    have hw : w ≠ [] := List.length_pos_iff.1 (f2.ne ha hb hA hn (by simp))
    have hy' := hy.ext f3.ext
    exact ⟨_, L, [], _, L2, w, L2, w, L2, y, hnil _ _, f1, (fun _ h => by have h' : (2 : Int) = 3 := h; omega), by rw [if_neg hw]; exact ⟨rfl, rfl⟩, by rw [if_pos rfl]; exact ag2 hb f3.nodup hy',
      fun _ => ⟨f3.nodup, by omega, .s2, by simp only [Ph.rank] at hr ⊢; omega, rfl, rfl, f2, hy'⟩, by omega, by omega, by omega⟩
  | t0 =>
    obtain ⟨rfl, rfl, hx, hy⟩ := hp
    obtain ⟨L1, v, e1, e2, e3⟩ := hh0 (nB := nB) (.inr rfl) ha hb hA hL (by omega) hx
    have l1 := e3.len
    obtain ⟨L2, w, f1, f2, f3⟩ := hh0 (nB := nA) (.inr rfl) hb ha hB e3.nodup (by omega) (hy.ext e3.ext)
    have l2 := f3.len
    have hv : v ≠ [] := List.length_pos_iff.1 (e2.ne hb ha hB hnA (by simp))
    have hw : w ≠ [] := List.length_pos_iff.1 (f2.ne ha hb hA hn (by simp))
    exact ⟨_, L1, v, _, L2, w, L2, w, L2, v, e1, f1, (fun h => by have h' : (2 : Int) = 3 := h; omega), by rw [if_neg hw]; exact ⟨rfl, rfl⟩, by rw [if_neg hv]; exact ⟨rfl, rfl⟩,
      fun _ => ⟨f3.nodup, by omega, .t1, by simp only [Ph.rank] at hr ⊢; omega, rfl, rfl, f2, e2.ext f3.ext⟩, by omega, by omega, by omega⟩
  | t1 =>
    obtain ⟨rfl, rfl, hx, hy⟩ := hp
    obtain ⟨L1, v, e1, e2, e3⟩ := ha1 (st := 2) (ec := nA) (.inr ⟨.inl rfl, rfl⟩) hb ha hB hA hL (by omega) hx
    have l1 := e3.len
    obtain ⟨L2, w, f1, f2, f3⟩ := ha1 (st := 2) (ec := nB) (.inr ⟨.inl rfl, rfl⟩) ha hb hA hB e3.nodup (by omega) (hy.ext e3.ext)
    have l2 := f3.len
    have hv : v ≠ [] := List.length_pos_iff.1 (e2.ne hb ha hB hnA (by simp))
    have hw : w ≠ [] := List.length_pos_iff.1 (f2.ne ha hb hA hn (by simp))
    exact ⟨_, L1, v, _, L2, w, L2, w, L2, v, e1, f1, fun _ _ => ⟨rfl, rfl⟩, by rw [if_neg hw]; exact ⟨rfl, rfl⟩, by rw [if_neg hv]; exact ⟨rfl, rfl⟩,
      fun h => absurd ⟨rfl, rfl⟩ h, by omega, by omega, by omega⟩
/-- A round in which both are lost. -/
theorem Meet.lost {a b nA nB i : Nat} {sa sb : Sk} {x y : List UInt8} {L : List En} (ha : peer a) (hb : peer b) (hi : i < 10) (h : Meet a b nA nB i sa sb x y L) :
    ∃ x2 y2, Round a b nA nB i L sa sb [] [] sb L [] sa L [] L x2 L y2 := by
  obtain ⟨hL, hlen, p, hr, hp⟩ := h
  cases p with
  | s0 =>
    obtain ⟨rfl, rfl, hx, rfl⟩ := hp
    exact ⟨x, [], hnil _ _, hnil _ _, (fun h => by have h' : (1 : Int) = 3 := h; omega), by rw [if_pos rfl]; exact ag1 ha hL hx, by rw [if_pos rfl]; exact ag3 _ (by show ¬ (0 : Int) = 1; decide) (by show ¬ (0 : Int) = 2; decide), fun _ => ⟨hL, by omega, .s0, by simp only [Ph.rank]; omega, rfl, rfl, hx, rfl⟩, by omega, by omega, by omega⟩
  | s1 =>
    obtain ⟨rfl, rfl, hx, hy⟩ := hp
    exact ⟨x, y, hnil _ _, hnil _ _, (fun h => by have h' : (1 : Int) = 3 := h; omega), by rw [if_pos rfl]; exact ag1 ha hL hx, by rw [if_pos rfl]; exact ag2 hb hL hy, fun _ => ⟨hL, by omega, .s1, by simp only [Ph.rank]; omega, rfl, rfl, hx, hy⟩, by omega, by omega, by omega⟩
  | s2 =>
    obtain ⟨rfl, rfl, hx, hy⟩ := hp
    exact ⟨[], y, hnil _ _, hnil _ _, (fun _ h => by have h' : (2 : Int) = 3 := h; omega), by rw [if_pos rfl]; exact ag3 _ (by show ¬ (3 : Int) = 1; decide) (by show ¬ (3 : Int) = 2; decide), by rw [if_pos rfl]; exact ag2 hb hL hy, fun _ => ⟨hL, by omega, .s3, by simp only [Ph.rank]; omega, rfl, rfl, rfl, hy⟩, by omega, by omega, by omega⟩
  | s3 =>
    obtain ⟨rfl, rfl, rfl, hy⟩ := hp
    exact ⟨[], y, hnil _ _, hnil _ _, (fun _ h => by have h' : (2 : Int) = 3 := h; omega), by rw [if_pos rfl]; exact ag3 _ (by show ¬ (3 : Int) = 1; decide) (by show ¬ (3 : Int) = 2; decide), by rw [if_pos rfl]; exact ag2 hb hL hy, fun _ => ⟨hL, by omega, .s3, by simp only [Ph.rank]; omega, rfl, rfl, rfl, hy⟩, by omega, by omega, by omega⟩
  | t0 =>
    obtain ⟨rfl, rfl, hx, hy⟩ := hp
    exact ⟨x, y, hnil _ _, hnil _ _, (fun h => by have h' : (1 : Int) = 3 := h; omega), by rw [if_pos rfl]; exact ag1 ha hL hx, by rw [if_pos rfl]; exact ag1 hb hL hy, fun _ => ⟨hL, by omega, .t0, by simp only [Ph.rank]; omega, rfl, rfl, hx, hy⟩, by omega, by omega, by omega⟩
  | t1 =>
    obtain ⟨rfl, rfl, hx, hy⟩ := hp
    exact ⟨x, y, hnil _ _, hnil _ _, (fun h => by have h' : (2 : Int) = 3 := h; omega), by rw [if_pos rfl]; exact ag2 ha hL hx, by rw [if_pos rfl]; exact ag2 hb hL hy, fun _ => ⟨hL, by omega, .t1, by simp only [Ph.rank]; omega, rfl, rfl, hx, hy⟩, by omega, by omega, by omega⟩
end Go.Proofs.Ytjfmgpelkhgodaa
