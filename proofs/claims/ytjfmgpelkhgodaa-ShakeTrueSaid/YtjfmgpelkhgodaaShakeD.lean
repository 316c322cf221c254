/- The walks of shake.mayPeer, Close, Again. -/
import Derived.Test.YtjfmgpelkhgodaaShakeC
namespace Go.Proofs.Ytjfmgpelkhgodaa
open Go.RowKit
attribute [local go_sem ↓ high] run_min_whole run_max_whole

def mayPeer (n : Int) : Bool := decide (1 ≤ n) && decide (n ≤ 2147483647)
set_option maxRecDepth 100000 in
set_option maxHeartbeats 800000 in
theorem sk_mayPeer (w : World) (n : Int) : Calls Try.prog 50 #[.int .i64 n] w fun e w' => e = .returned (.bool (mayPeer n)) ∧ Fr [] w w' := by
  unfold mayPeer
  by_cases h1 : 1 ≤ n
  · go_enter Try.func50, Try.ntmps50
    go_wp2
    all_goals
      go_ret
      exact ⟨by simp [h1], Fr.refl _ _⟩
  · go_enter Try.func50, Try.ntmps50
    go_wp2
    all_goals
      go_ret
      exact ⟨by simp; omega, Fr.refl _ _⟩

set_option maxRecDepth 100000 in
set_option maxHeartbeats 800000 in
theorem sk_close (w : World) (s : Sk) : Calls Try.prog 31 #[skV s] w fun e w' => e = .returned (skV { s with state := 4 }) ∧ Fr [] w w' := by
  unfold skV
  go_enter Try.func31, Try.ntmps31
  go_wp2
  refine bodyPost_ret (v := .agg #[.int .i64 4, .int .i64 s.own, .int .i64 s.other, .int .u64 s.nonce, .int .u64 s.echo]) (by simp [results, Try.results31, go_sem]) rfl ⟨rfl, ?_⟩
  exact ((Fr.refl [] w).calloc _).calloc _

/-- What is sent once more. -/
def again (L : List En) (s : Sk) : List En × List UInt8 :=
  if s.state = 1 then made L 1 s.own [] [s.other, s.nonce] else if s.state = 2 then made L 2 s.own [] [s.other, s.nonce, s.echo] else (L, [])
set_option maxRecDepth 100000 in
set_option maxHeartbeats 1600000 in
theorem sk_again (w : World) (b mb : Nat) (lv : Value) (L : List En) (s : Sk) (hs : s.Wf) (hN : NotIn w b mb lv L) (hlen : L.length ≤ 100000) :
    Calls Try.prog 29 #[skV s, .pointer (some ⟨b, 0, none⟩)] w fun e w' => Sent w w' b mb lv (again L s) e := by
  have HN := Lib.hid hN
  have HS := Lib.hid hs
  have hf : Fr [] w (w.alloc (.cells #[.int .i64 s.state, .int .i64 s.own, .int .i64 s.other, .int .u64 s.nonce, .int .u64 s.echo] 46)) := (Fr.refl [] w).calloc _
  have HF := Lib.hid hf
  clear hN hs hf
  by_cases h1 : s.state = 1
  · have HA : Hid (again L s = made L 1 s.own [] [s.other, s.nonce]) := by
      show _ = _
      unfold again
      rw [if_pos h1]
    rw [HA.out]
    unfold skV
    rw [h1] at HF ⊢
    go_enter Try.func29, Try.ntmps29
    have hh := sk_hello (w.alloc (.cells #[.int .i64 1, .int .i64 s.own, .int .i64 s.other, .int .u64 s.nonce, .int .u64 s.echo] 46)) b mb lv L s HS.out (HN.out.fr HF.out (by simp)) hlen
    unfold skV at hh
    rw [h1] at hh
    have HH := Lib.hid hh
    clear hh h1
    go_wp2_with fail
    refine HH.out.mono ?_
    rintro e w2 ⟨v2, rfl, hs2⟩
    have HS2 := Lib.hid (SentAt.back hs2 HF.out)
    clear hs2
    go_wp2_with fail
    go_ret
    exact ⟨_, rfl, HS2.out⟩
  · by_cases h2 : s.state = 2
    · have HA : Hid (again L s = made L 2 s.own [] [s.other, s.nonce, s.echo]) := by
        show _ = _
        unfold again
        rw [if_neg h1, if_pos h2]
      rw [HA.out]
      unfold skV
      rw [h2] at HF ⊢
      go_enter Try.func29, Try.ntmps29
      have hh := sk_answer (w.alloc (.cells #[.int .i64 2, .int .i64 s.own, .int .i64 s.other, .int .u64 s.nonce, .int .u64 s.echo] 46)) b mb lv L s HS.out (.slice none 0 0) [] (HN.out.fr HF.out (by simp)) (SlAt.nil _) (by simp [Value.ownBlock]) hlen
      unfold skV at hh
      rw [h2] at hh
      have HH := Lib.hid hh
      clear hh h1 h2
      go_wp2_with fail
      refine HH.out.mono ?_
      rintro e w2 ⟨v2, rfl, hs2⟩
      have HS2 := Lib.hid (SentAt.back hs2 HF.out)
      clear hs2
      go_wp2_with fail
      go_ret
      exact ⟨_, rfl, HS2.out⟩
    · have HA : Hid (again L s = (L, [])) := by
        show _ = _
        unfold again
        rw [if_neg h1, if_neg h2]
      rw [HA.out]
      unfold skV
      go_enter Try.func29, Try.ntmps29
      go_wp2
      go_ret
      exact ⟨_, rfl, World.ownsRow_nil _ _ _ _, by simp, HF.out.mono (by simp), lv, HN.out.fr HF.out (by simp), fun g hg => .inl hg⟩
end Go.Proofs.Ytjfmgpelkhgodaa
