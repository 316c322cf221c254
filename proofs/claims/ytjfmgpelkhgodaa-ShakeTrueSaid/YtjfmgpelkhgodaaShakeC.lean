/- The walks of shake.hello, answer, last. -/
import Derived.Test.YtjfmgpelkhgodaaShakeB
namespace Go.Proofs.Ytjfmgpelkhgodaa
open Go.RowKit
attribute [local go_sem ↓ high] run_min_whole run_max_whole

/-- A handshake: how far it is, whose, with whom, the nonces. -/
structure Sk where
  state : Int
  own : Nat
  other : Nat
  nonce : Nat
  echo : Nat
  deriving DecidableEq
def skV (s : Sk) : Value := .agg #[.int .i64 s.state, .int .i64 s.own, .int .i64 s.other, .int .u64 s.nonce, .int .u64 s.echo]
structure Sk.Wf (s : Sk) : Prop where
  own : s.own < 9223372036854775808
  other : s.other < 9223372036854775808
  nonce : s.nonce < 18446744073709551616
  echo : s.echo < 18446744073709551616
/-- What a call that may have minted leaves, from w on. -/
def Sent (w w' : World) (b mb : Nat) (lv : Value) (r : List En × List UInt8) (e : Ending) : Prop := ∃ v, e = .returned v ∧ SentAt w w' b mb lv r.1 r.2 v

theorem SentAt.back {w w1 w' : World} {b mb : Nat} {lv : Value} {L' : List En} {bs : List UInt8} {v : Value} (h : SentAt w1 w' b mb lv L' bs v) (hf : Fr [] w w1) : SentAt w w' b mb lv L' bs v := by
  obtain ⟨h1, h2, h3, lv', h4, h5⟩ := h
  refine ⟨own_base h1 hf.size, h2, (hf.mono (by simp)).trans h3, lv', h4, fun g hg => ?_⟩
  rcases h5 g hg with h | h
  · exact .inl h
  · exact .inr (Nat.le_trans hf.size h)
/-- A literal of numbers, laid as the last block. -/
theorem nums_lit (w : World) (l : List Nat) (hl : l.length ≤ 100 := by simp) : SlAt (w.alloc (.cells (u64s l).toArray 40)) (.slice (some ⟨w.heap.size, 0, none⟩) l.length l.length) (u64s l) := by
  have hc := Cells.new w 40 (u64s l)
  refine .inr ⟨w.heap.size, 0, l.length, by rw [u64s_length], hc.lt, by rw [u64s_length]; exact Nat.le_refl _, by unfold maxLen; omega, fun j hj => ?_⟩
  rw [Nat.zero_add]
  exact hc.cell j

set_option maxRecDepth 100000 in
set_option maxHeartbeats 1600000 in
theorem sk_hello (w : World) (b mb : Nat) (lv : Value) (L : List En) (s : Sk) (hs : s.Wf) (hN : NotIn w b mb lv L) (hlen : L.length ≤ 100000) :
    Calls Try.prog 51 #[skV s, .pointer (some ⟨b, 0, none⟩)] w fun e w' => Sent w w' b mb lv (made L 1 s.own [] [s.other, s.nonce]) e := by
  have HN := Lib.hid hN
  have HS := Lib.hid hs
  have h1 : (0 : Int) ≤ (s.other : Int) := by omega
  have h2 : (s.other : Int) ≤ 18446744073709551615 := by have := hs.other; omega
  clear hN hs
  unfold skV
  go_enter Try.func51, Try.ntmps51
  go_wp2_with fail
  have hsl := nums_lit (w.alloc (.cells #[.int .i64 s.state, .int .i64 s.own, .int .i64 s.other, .int .u64 s.nonce, .int .u64 s.echo] 46)) [s.other, s.nonce]
  rw [World.size_alloc] at hsl
  have hf : Fr [] w ((w.alloc (.cells #[.int .i64 s.state, .int .i64 s.own, .int .i64 s.other, .int .u64 s.nonce, .int .u64 s.echo] 46)).alloc (.cells #[.int .u64 s.other, .int .u64 s.nonce] 40)) := ((Fr.refl [] w).calloc _).calloc _
  refine (sk_made _ b mb lv L 1 s.own (.slice none 0 0) [] _ [s.other, s.nonce] (HN.out.fr hf (by simp)) hlen (SlAt.nil _) hsl ?_ (by simp) HS.out.own (by simp [Value.ownBlock])).mono ?_
  · intro v hv
    simp at hv
    rcases hv with rfl | rfl
    · have := HS.out.other
      omega
    · exact HS.out.nonce
  rintro e w2 ⟨v2, rfl, hs2⟩
  have HS2 := Lib.hid (SentAt.back hs2 hf)
  clear hs2 hsl hf
  go_wp2_with fail
  go_ret
  exact ⟨_, rfl, HS2.out⟩
set_option maxRecDepth 100000 in
set_option maxHeartbeats 1600000 in
theorem sk_answer (w : World) (b mb : Nat) (lv : Value) (L : List En) (s : Sk) (hs : s.Wf) (bv : Value) (body : List UInt8) (hN : NotIn w b mb lv L) (hb : SlAt w bv (u8s body)) (hbN : ∀ g, bv.ownBlock = some g → g ∉ NBlocks b mb lv) (hlen : L.length ≤ 100000) :
    Calls Try.prog 64 #[skV s, .pointer (some ⟨b, 0, none⟩), bv] w fun e w' => Sent w w' b mb lv (made L 2 s.own body [s.other, s.nonce, s.echo]) e := by
  have HN := Lib.hid hN
  have HS := Lib.hid hs
  have HB := Lib.hid hb
  have h1 : (0 : Int) ≤ (s.other : Int) := by omega
  have h2 : (s.other : Int) ≤ 18446744073709551615 := by have := hs.other; omega
  clear hN hs hb
  unfold skV
  go_enter Try.func64, Try.ntmps64
  go_wp2_with fail
  have hsl := nums_lit (w.alloc (.cells #[.int .i64 s.state, .int .i64 s.own, .int .i64 s.other, .int .u64 s.nonce, .int .u64 s.echo] 46)) [s.other, s.nonce, s.echo]
  rw [World.size_alloc] at hsl
  have hf : Fr [] w ((w.alloc (.cells #[.int .i64 s.state, .int .i64 s.own, .int .i64 s.other, .int .u64 s.nonce, .int .u64 s.echo] 46)).alloc (.cells #[.int .u64 s.other, .int .u64 s.nonce, .int .u64 s.echo] 40)) := ((Fr.refl [] w).calloc _).calloc _
  refine (sk_made _ b mb lv L 2 s.own bv body _ [s.other, s.nonce, s.echo] (HN.out.fr hf (by simp)) hlen (HB.out.fr hf (by simp)) hsl ?_ (by simp) HS.out.own hbN).mono ?_
  · intro v hv
    simp at hv
    rcases hv with rfl | rfl | rfl
    · have := HS.out.other
      omega
    · exact HS.out.nonce
    · exact HS.out.echo
  rintro e w2 ⟨v2, rfl, hs2⟩
  have HS2 := Lib.hid (SentAt.back hs2 hf)
  clear hs2 hsl hf
  go_wp2_with fail
  go_ret
  exact ⟨_, rfl, HS2.out⟩

set_option maxRecDepth 100000 in
set_option maxHeartbeats 1600000 in
theorem sk_last (w : World) : Calls Try.prog 90 #[] w fun e w' => ∃ v, e = .returned v ∧ w'.ownsRow w.heap.size 5 1 v 1 (u8s [1]) ∧ Fr [] w w' := by
  go_enter Try.func90, Try.ntmps90
  go_wp2
  go_ret
  have h := own_lit w w.heap.size 5 [.int .u8 1] (Nat.le_refl _) (by unfold maxLen; simp)
  exact ⟨_, rfl, h, (Fr.refl [] w).calloc _⟩
end Go.Proofs.Ytjfmgpelkhgodaa
