/- What the handshake does, over lists and numbers: Check, Hear. Plain laws on tags. -/
import Derived.Test.YtjfmgpelkhgodaaShakeF
namespace Go.Proofs.Ytjfmgpelkhgodaa

/-- Whether a message is a hello, or an answer, with the tag of who sends it. -/
def skcheck (L : List En) (m : Mg) : Bool :=
  decide ((m.kind = 1 ∨ m.kind = 2) ∧ mmay m ∧ m.nums.getD 0 0 ≤ 2147483647 ∧ ncheck L (m.nums.getD 0 0 : Nat) (mbytes (bareOf m)) (m.nums.getD (m.nums.length - 1) 0) = 0)
def hearHello (L : List En) (s : Sk) (m : Mg) : Sk × (List En × List UInt8) :=
  if m.nums.getD 2 0 = 0 then (s, (L, []))
  else if s.state = 0 ∨ s.state = 1 then ({ s with state := 2, echo := m.nums.getD 2 0 }, made L 2 s.own [] [s.other, s.nonce, m.nums.getD 2 0])
  else if s.echo ≠ m.nums.getD 2 0 then (s, (L, []))
  else (s, made L 2 s.own [] [s.other, s.nonce, s.echo])
def hearAnswer (L : List En) (s : Sk) (m : Mg) : Sk × (List En × List UInt8) :=
  if m.nums.getD 3 0 ≠ s.nonce ∨ m.nums.getD 2 0 = 0 ∨ s.state = 0 then (s, (L, []))
  else if s.state ≠ 1 ∧ m.nums.getD 2 0 ≠ s.echo then (s, (L, []))
  else if 0 < m.body.length then ({ s with state := 3, echo := m.nums.getD 2 0 }, (L, []))
  else ({ s with state := 3, echo := m.nums.getD 2 0 }, made L 2 s.own [1] [s.other, s.nonce, m.nums.getD 2 0])
/-- What a message that came does. -/
def heardM (L : List En) (s : Sk) (m : Mg) : Sk × (List En × List UInt8) :=
  if s.state = 4 ∨ skcheck L m = false ∨ m.nums.getD 0 0 ≠ s.other ∨ m.nums.getD 1 0 ≠ s.own then (s, (L, []))
  else if m.kind = 1 then hearHello L s m else hearAnswer L s m
def heard (L : List En) (s : Sk) (b : List UInt8) : Sk × (List En × List UInt8) :=
  match mfrom b with
  | none => (s, (L, []))
  | some m => heardM L s m

theorem skcheck_kind {L : List En} {m : Mg} (h : skcheck L m = true) : (m.kind = 1 ∨ m.kind = 2) ∧ mmay m := by
  unfold skcheck at h
  simp only [decide_eq_true_eq] at h
  exact ⟨h.1, h.2.1⟩
theorem kind_len {m : Mg} (hm : mmay m) : (m.kind = 1 → m.nums.length = 4) ∧ (m.kind = 2 → m.nums.length = 5) := by
  have h1 := hm.1
  constructor
  · intro h
    rw [h] at h1
    have : numsOf 1 = 4 := by decide
    omega
  · intro h
    rw [h] at h1
    have : numsOf 2 = 5 := by decide
    omega
end Go.Proofs.Ytjfmgpelkhgodaa
