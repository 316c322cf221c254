/- Plain: what holds of one who hears whatever, as ShakeTrue asks. -/
import Derived.Test.YtjfmgpelkhgodaaLawQ
namespace Go.Proofs.Ytjfmgpelkhgodaa

structure TS where
  sa : Sk
  sb : Sk
  L : List En
  sent : List (List UInt8)
  ans : Bool
def isAns (nA : Nat) (Y : List UInt8) : Bool :=
  match mfrom Y with
  | some m => decide (m.kind = 2 ∧ m.nums.getD 3 0 = nA)
  | none => false
def put1 (X : List UInt8) : List (List UInt8) := if X = [] then [] else [X]
def TS.fin (nA : Nat) (s : TS) (sa sb : Sk) (L : List En) (X Y : List UInt8) : TS := ⟨sa, sb, L, s.sent ++ put1 X ++ put1 Y, s.ans || isAns nA Y⟩
def TagOk (a b nA nB : Nat) (ans : Bool) (t : List UInt8) : Prop :=
  t = mbytes (helloOf b a nB 0) ∨ ∃ e bd, e < 9223372036854775808 ∧ bd.length ≤ 1 ∧ t = mbytes (answerOf b a nB e 0 bd) ∧ (e = nA → ans = true)
structure TInv (a b nA nB i : Nat) (s : TS) : Prop where
  own : s.sa.own = a ∧ s.sa.other = b ∧ s.sa.nonce = nA
  oth : s.sb.own = b ∧ s.sb.other = a ∧ s.sb.nonce = nB
  ea : s.sa.echo < 9223372036854775808
  eb : s.sb.echo < 9223372036854775808
  len : s.L.length ≤ i
  slen : s.sent.length ≤ i
  tags : ∀ t, ((b : Int), t) ∈ s.L → TagOk a b nA nB s.ans t
  opened : s.sa.state = 3 → s.ans = true ∧ s.sa.echo = nB
structure TMid (a b nA nB i : Nat) (s : TS) (sa sb : Sk) (L : List En) (X Y : List UInt8) : Prop where
  fin : TInv a b nA nB (i + 1) (s.fin nA sa sb L X Y)
  one : X = [] ∨ Y = []
  rd : Y ≠ [] → ∃ m, mfrom Y = some m

theorem TagOk.mono {a b nA nB : Nat} {x y : Bool} {t : List UInt8} (h : TagOk a b nA nB x t) (hxy : x = true → y = true) : TagOk a b nA nB y t := by
  rcases h with h | ⟨e, bd, h1, h2, h3, h4⟩
  · exact .inl h
  · exact .inr ⟨e, bd, h1, h2, h3, fun he => hxy (h4 he)⟩
theorem put1_len (X : List UInt8) : (put1 X).length ≤ 1 := by
  unfold put1
  split <;> simp
theorem put1_nil : put1 [] = [] := rfl
theorem isAns_nil (nA : Nat) : isAns nA [] = false := by
  unfold isAns
  rw [mfrom_nil]

section
variable {a b nA nB i : Nat} {s : TS}
/-- The other one's handshake as it was: X is what the one sent, its entries are its own. -/
theorem TInv.one (h : TInv a b nA nB i s) (hab : a ≠ b) {sa : Sk} {L : List En} {X : List UInt8} (ho : sa.own = a ∧ sa.other = b ∧ sa.nonce = nA) (he : sa.echo < 9223372036854775808) (hl : L.length ≤ s.L.length + 1)
    (hL : ∀ e, e ∈ L → e ∈ s.L ∨ e.1 = (a : Int)) (hop : sa.state = 3 → s.ans = true ∧ sa.echo = nB) : TMid a b nA nB i s sa s.sb L X [] := by
  refine ⟨⟨ho, h.oth, he, h.eb, ?_, ?_, ?_, ?_⟩, .inr rfl, fun hn => absurd rfl hn⟩
  · have := h.len
    show L.length ≤ i + 1
    omega
  · have h1 := h.slen
    have h2 := put1_len X
    show (s.sent ++ put1 X ++ put1 []).length ≤ i + 1
    rw [put1_nil, List.append_nil, List.length_append]
    omega
  · intro t ht
    rcases hL _ ht with h1 | h1
    · exact (h.tags t h1).mono (fun hx => by show (s.ans || isAns nA []) = true; simp [hx])
    · simp only at h1
      omega
  · intro h3
    obtain ⟨k1, k2⟩ := hop h3
    refine ⟨?_, k2⟩
    show (s.ans || isAns nA []) = true
    simp [k1]
theorem TInv.same (h : TInv a b nA nB i s) : TMid a b nA nB i s s.sa s.sb s.L [] [] :=
  ⟨⟨h.own, h.oth, h.ea, h.eb, Nat.le_succ_of_le h.len, by show (s.sent ++ put1 [] ++ put1 []).length ≤ i + 1; rw [put1_nil, List.append_nil, List.append_nil]; exact Nat.le_succ_of_le h.slen, fun t ht => (h.tags t ht).mono (fun hx => by show (s.ans || isAns nA []) = true; simp [hx]), fun h3 => ⟨by show (s.ans || isAns nA []) = true; simp [(h.opened h3).1], (h.opened h3).2⟩⟩, .inl rfl, fun hn => absurd rfl hn⟩
/-- The one is as it was; the other one sends Y, or nothing. -/
theorem TInv.two (h : TInv a b nA nB i s) {sb : Sk} {L : List En} {Y : List UInt8} (ho : sb.own = b ∧ sb.other = a ∧ sb.nonce = nB) (he : sb.echo < 9223372036854775808) (hl : L.length ≤ s.L.length + 1)
    (hL : ∀ e, e ∈ L → e ∈ s.L ∨ TagOk a b nA nB (isAns nA Y) e.2) (hrd : Y ≠ [] → ∃ m, mfrom Y = some m) : TMid a b nA nB i s s.sa sb L [] Y := by
  refine ⟨⟨h.own, ho, h.ea, he, ?_, ?_, ?_, ?_⟩, .inl rfl, hrd⟩
  · have := h.len
    show L.length ≤ i + 1
    omega
  · have h1 := h.slen
    have h2 := put1_len Y
    show (s.sent ++ put1 [] ++ put1 Y).length ≤ i + 1
    rw [put1_nil, List.append_nil, List.length_append]
    omega
  · intro t ht
    rcases hL _ ht with h1 | h1
    · exact (h.tags t h1).mono (fun hx => by show (s.ans || isAns nA Y) = true; simp [hx])
    · exact TagOk.mono h1 (fun hx => by show (s.ans || isAns nA Y) = true; simp [hx])
  · intro h3
    obtain ⟨k1, k2⟩ := h.opened h3
    refine ⟨?_, k2⟩
    show (s.ans || isAns nA Y) = true
    simp [k1]
theorem made_mem {L : List En} {k o : Nat} {body : List UInt8} {ns : List Nat} (ho : peer o) : ∀ e, e ∈ (made L k o body ns).1 → e ∈ L ∨ e = ((o : Int), mbytes ⟨k, o :: (ns ++ [0]), [], body⟩) := by
  obtain ⟨L', tag, h1, _, _, _, _, h2⟩ := mint_ok (L := L) ho (mbytes ⟨k, o :: (ns ++ [0]), [], body⟩)
  intro e he
  unfold made at he
  dsimp only at he
  rw [h1] at he
  simp at he
  exact h2 e he
theorem made_reads {L : List En} {k o : Nat} {body : List UInt8} {ns : List Nat} (ho : peer o) (hl : L.length ≤ 1000) (hm : ∀ t, t < 9223372036854775808 → mmay ⟨k, o :: (ns ++ [t]), [], body⟩) :
    ∃ t, t < 9223372036854775808 ∧ mfrom (made L k o body ns).2 = some ⟨k, o :: (ns ++ [t]), [], body⟩ := by
  obtain ⟨L', tag, h1, _, h3, _⟩ := mint_ok (L := L) ho (mbytes ⟨k, o :: (ns ++ [0]), [], body⟩)
  refine ⟨tag, by omega, ?_⟩
  unfold made
  dsimp only
  rw [h1]
  simp only [ne_eq, not_true_eq_false, if_false]
  exact mfrom_mbytes (hm tag (by omega)) (by simp)
theorem TInv.callA (h : TInv a b nA nB i s) (ha : peer a) (hab : a ≠ b) : TMid a b nA nB i s (called s.L s.sa).1 s.sb (called s.L s.sa).2.1 (called s.L s.sa).2.2 [] := by
  refine h.one hab ?_ ?_ (called_len _ _).2 ?_ ?_
  · unfold called
    split <;> exact h.own
  · unfold called
    split <;> exact h.ea
  · intro e he
    unfold called at he
    split at he
    · rcases made_mem (o := s.sa.own) (by rw [h.own.1]; exact ha) e he with h1 | h1
      · exact .inl h1
      · refine .inr ?_
        rw [h1, h.own.1]
    · exact .inl he
  · intro h3
    unfold called at h3 ⊢
    split at h3
    · simp at h3
    · rename_i hc
      rw [if_neg hc]
      exact h.opened h3
theorem TInv.callB (h : TInv a b nA nB i s) (ha : peer a) (hb : peer b) (hB : nonce nB) (hi : i ≤ 100) : TMid a b nA nB i s s.sa (called s.L s.sb).1 (called s.L s.sb).2.1 [] (called s.L s.sb).2.2 := by
  have hl := h.len
  obtain ⟨o1, o2, o3⟩ := h.oth
  unfold called
  split
  · have hr := made_reads (L := s.L) (k := 1) (o := s.sb.own) (body := []) (ns := [s.sb.other, s.sb.nonce]) (by rw [o1]; exact hb) (by omega) (by
      intro t ht
      rw [o1, o2, o3]
      exact hello_may (by have := hb.2; omega) (by have := ha.2; omega) (by have := hB.2; omega) ht)
    obtain ⟨t, ht, hr⟩ := hr
    refine h.two h.oth h.eb (made_len _ _ _ _ _).2 ?_ (fun _ => ⟨_, hr⟩)
    intro e he
    rcases made_mem (o := s.sb.own) (by rw [o1]; exact hb) e he with h1 | h1
    · exact .inl h1
    · refine .inr (.inl ?_)
      rw [h1, o1, o2, o3]
      rfl
  · exact h.two h.oth h.eb (by simp) (fun e he => .inl he) (fun hn => absurd rfl hn)
theorem TInv.hearA (h : TInv a b nA nB i s) (ha : peer a) (hb : peer b) (hB : nonce nB) (hab : a ≠ b) (l : List UInt8) : TMid a b nA nB i s (heard s.L s.sa l).1 s.sb (heard s.L s.sa l).2.1 (heard s.L s.sa l).2.2 [] := by
  obtain ⟨o1, o2, o3⟩ := h.own
  have hsame : TMid a b nA nB i s s.sa s.sb s.L [] [] := h.same
  have hmem : ∀ (k : Nat) (body : List UInt8) (ns : List Nat) (e : En), e ∈ (made s.L k s.sa.own body ns).1 → e ∈ s.L ∨ e.1 = (a : Int) := by
    intro k body ns e he
    rcases made_mem (o := s.sa.own) (by rw [o1]; exact ha) e he with h1 | h1
    · exact .inl h1
    · refine .inr ?_
      rw [h1, o1]
  unfold heard
  split
  · exact hsame
  · rename_i m hm
    have hwf := getD_lt (mfrom_ok hm).1.2.2.2.1 (by omega) 2
    unfold heardM
    split
    · exact hsame
    · rename_i hc
      simp only [not_or, Decidable.not_not] at hc
      obtain ⟨h4, hck, hc0, hc1⟩ := hc
      have hck : skcheck s.L m = true := by simpa using hck
      split
      · unfold hearHello
        split
        · exact hsame
        · split
          · exact h.one hab h.own hwf (made_len _ _ _ _ _).2 (hmem _ _ _) (fun h3 => by simp at h3)
          · split
            · exact hsame
            · exact h.one hab h.own h.ea (made_len _ _ _ _ _).2 (hmem _ _ _) h.opened
      · rename_i hk1
        have hk2 : m.kind = 2 := (skcheck_kind hck).1.resolve_left hk1
        have hmay := (skcheck_kind hck).2
        have hlen := (kind_len hmay).2 hk2
        unfold hearAnswer
        split
        · exact hsame
        · rename_i hg
          simp only [not_or, Decidable.not_not, ne_eq] at hg
          obtain ⟨g3, g2, g0⟩ := hg
          split
          · exact hsame
          · have hkey : s.ans = true ∧ m.nums.getD 2 0 = nB := by
              unfold skcheck at hck
              simp only [decide_eq_true_eq] at hck
              obtain ⟨_, _, _, hn⟩ := hck
              unfold ncheck at hn
              split at hn
              rotate_left
              · omega
              rename_i hq
              have hmem := List.mem_of_getElem? hq.2
              rw [hc0, o2] at hmem
              have hbare : mmay (bareOf m) := by
                refine ⟨?_, hmay.2.1, hmay.2.2.1, ?_, hmay.2.2.2.2⟩
                · have := hmay.1
                  unfold bareOf
                  simpa using this
                · intro v hv
                  unfold bareOf at hv
                  rcases List.mem_or_eq_of_mem_set hv with hv | rfl
                  · exact hmay.2.2.2.1 v hv
                  · omega
              have hh : ∀ x ∈ (bareOf m).addrs, x.host < 4294967296 := (mfrom_ok hm).2.1
              have hb1 := hb.2
              have ha1 := ha.2
              have hB1 := hB.2
              rcases h.tags _ hmem with ht | ⟨e, bd, he, hbd, ht, hans⟩
              · have := mbytes_inj hbare hh (hello_may (a := b) (b := a) (n := nB) (t := 0) (by omega) (by omega) (by omega) (by omega)) (by simp [helloOf]) ht
                have k := congrArg Mg.kind this
                have : m.kind = 1 := k
                omega
              · have := mbytes_inj hbare hh (answer_may (a := b) (b := a) (n := nB) (e := e) (t := 0) (by omega) (by omega) (by omega) he (by omega) (by omega)) (by simp [answerOf]) ht
                have k : m.nums.set (m.nums.length - 1) 0 = [b, a, nB, e, 0] := congrArg Mg.nums this
                rw [hlen] at k
                have k2 : (m.nums.set 4 0).getD 2 0 = nB := by rw [k]; rfl
                have k3 : (m.nums.set 4 0).getD 3 0 = e := by rw [k]; rfl
                have j2 : (m.nums.set 4 0).getD 2 0 = m.nums.getD 2 0 := by simp [List.getD]
                have j3 : (m.nums.set 4 0).getD 3 0 = m.nums.getD 3 0 := by simp [List.getD]
                refine ⟨hans ?_, by omega⟩
                omega
            split
            · exact h.one hab h.own hwf (by simp) (fun e he => .inl he) (fun _ => hkey)
            · exact h.one hab h.own hwf (made_len _ _ _ _ _).2 (hmem _ _ _) (fun _ => hkey)
theorem TInv.hearB (h : TInv a b nA nB i s) (ha : peer a) (hb : peer b) (hB : nonce nB) (hi : i ≤ 100) (l : List UInt8) : TMid a b nA nB i s s.sa (heard s.L s.sb l).1 (heard s.L s.sb l).2.1 [] (heard s.L s.sb l).2.2 := by
  obtain ⟨o1, o2, o3⟩ := h.oth
  have hl := h.len
  have hb1 := hb.2
  have ha1 := ha.2
  have hB1 := hB.2
  have hsame : TMid a b nA nB i s s.sa s.sb s.L [] [] := h.same
  have hans : ∀ (sb : Sk) (body : List UInt8) (x : Nat), sb.own = b ∧ sb.other = a ∧ sb.nonce = nB → sb.echo < 9223372036854775808 → x < 9223372036854775808 → body.length ≤ 1 →
      TMid a b nA nB i s s.sa sb (made s.L 2 s.sb.own body [s.sb.other, s.sb.nonce, x]).1 [] (made s.L 2 s.sb.own body [s.sb.other, s.sb.nonce, x]).2 := by
    intro sb body x hs he hx hbd
    obtain ⟨t, ht, hr⟩ := made_reads (L := s.L) (k := 2) (o := s.sb.own) (body := body) (ns := [s.sb.other, s.sb.nonce, x]) (by rw [o1]; exact hb) (by omega) (by
      intro t ht
      rw [o1, o2, o3]
      exact answer_may (by omega) (by omega) (by omega) hx ht (by omega))
    refine h.two hs he (made_len _ _ _ _ _).2 ?_ (fun _ => ⟨_, hr⟩)
    intro e he
    rcases made_mem (o := s.sb.own) (by rw [o1]; exact hb) e he with h1 | h1
    · exact .inl h1
    · refine .inr (.inr ⟨x, body, hx, hbd, ?_, fun hxn => ?_⟩)
      · rw [h1, o1, o2, o3]
        rfl
      · unfold isAns
        rw [hr]
        simp [hxn]
  unfold heard
  split
  · exact hsame
  · rename_i m hm
    have hwf := getD_lt (mfrom_ok hm).1.2.2.2.1 (by omega) 2
    unfold heardM
    split
    · exact hsame
    · split
      · unfold hearHello
        split
        · exact hsame
        · split
          · exact hans _ _ _ h.oth hwf hwf (by simp)
          · split
            · exact hsame
            · exact hans _ _ _ h.oth h.eb h.eb (by simp)
      · unfold hearAnswer
        split
        · exact hsame
        · split
          · exact hsame
          · split
            · exact h.two h.oth hwf (by simp) (fun e he => .inl he) (fun hn => absurd rfl hn)
            · exact hans _ _ _ h.oth hwf hwf (by simp)
theorem TInv.minted (h : TInv a b nA nB i s) {p : Nat} (hpb : p ≠ b) (t : List UInt8) : TMid a b nA nB i s s.sa s.sb (mint s.L p t).1 [] [] := by
  have hs := h.same
  refine ⟨⟨h.own, h.oth, h.ea, h.eb, ?_, hs.fin.slen, ?_, hs.fin.opened⟩, hs.one, hs.rd⟩
  · have h1 := (mint_len s.L p t).2
    have := h.len
    show (mint s.L p t).1.length ≤ i + 1
    omega
  · intro t' ht
    refine hs.fin.tags t' ?_
    have ht : ((b : Int), t') ∈ (mint s.L p t).1 := ht
    show ((b : Int), t') ∈ s.L
    unfold mint at ht
    split at ht
    · exact ht
    · split at ht
      · exact ht
      · rcases List.mem_append.1 ht with h1 | h1
        · exact h1
        · simp only [List.mem_singleton, Prod.mk.injEq] at h1
          omega
theorem TInv.up (h : TInv a b nA nB i s) : TInv a b nA nB (i + 1) s := ⟨h.own, h.oth, h.ea, h.eb, Nat.le_succ_of_le h.len, Nat.le_succ_of_le h.slen, h.tags, h.opened⟩
theorem TInv.start (a b nA nB : Nat) : TInv a b nA nB 0 ⟨⟨0, a, b, nA, 0⟩, ⟨0, b, a, nB, 0⟩, [], [], false⟩ :=
  ⟨⟨rfl, rfl, rfl⟩, ⟨rfl, rfl, rfl⟩, by simp, by simp, by simp, by simp, by simp, by simp⟩
end
end Go.Proofs.Ytjfmgpelkhgodaa
