/- Plain lists and numbers: the numbers' bytes (uvar), frames, addresses and messages, and that what is written is read again. No program in sight. -/
namespace Go.Proofs.Ytjfmgpelkhgodaa

/-! ### numbers -/
def ulen (v : Nat) : Nat :=
  if v < 128 then 1 else if v < 16384 then 2 else if v < 2097152 then 3 else if v < 268435456 then 4 else if v < 34359738368 then 5
  else if v < 4398046511104 then 6 else if v < 562949953421312 then 7 else if v < 72057594037927936 then 8 else if v < 9223372036854775808 then 9 else 0

theorem ulen_le (v : Nat) : ulen v ≤ 9 := by
  unfold ulen
  repeat' split
  all_goals omega
theorem ulen_pos {v : Nat} (h : v < 9223372036854775808) : 1 ≤ ulen v := by
  unfold ulen
  repeat' split
  all_goals omega
theorem ulen_zero {v : Nat} : ulen v = 0 ↔ 9223372036854775808 ≤ v := by
  unfold ulen
  repeat' split
  all_goals omega
theorem ulen_lt {v : Nat} (h : v < 9223372036854775808) : v < 128 ^ ulen v := by
  unfold ulen
  repeat' split
  all_goals omega

/-- n pieces of v: all but the last are marked. -/
def udig : Nat → Nat → List UInt8
  | 0, _ => []
  | n + 1, v => if n = 0 then [UInt8.ofNat (v % 128)] else UInt8.ofNat (v % 128 + 128) :: udig n (v / 128)
def uput (v : Nat) : List UInt8 := udig (ulen v) v

theorem udig_length (n v : Nat) : (udig n v).length = n := by
  induction n generalizing v with
  | zero => rfl
  | succ n ih =>
    unfold udig
    split
    · simp_all
    · simp [ih]
theorem uput_length (v : Nat) : (uput v).length = ulen v := udig_length _ _

def upiece (v n i : Nat) : UInt8 := UInt8.ofNat (v / 128 ^ i % 128 + if i + 1 < n then 128 else 0)
theorem udig_map (n v : Nat) : (List.range n).map (upiece v n) = udig n v := by
  induction n generalizing v with
  | zero => rfl
  | succ n ih =>
    rw [List.range_succ_eq_map, List.map_cons, List.map_map]
    unfold udig
    split
    · subst_vars
      simp [upiece]
    · rename_i hn
      rw [← ih]
      have h0 : upiece v (n + 1) 0 = UInt8.ofNat (v % 128 + 128) := by
        have : 1 < n + 1 := by omega
        simp [upiece, this]
      rw [h0]
      congr 1
      refine List.map_congr_left fun i hi => ?_
      simp only [Function.comp, upiece, Nat.succ_eq_add_one]
      rw [Nat.pow_succ, Nat.mul_comm (128 ^ i) 128, ← Nat.div_div_eq_div_mul]
      simp only [Nat.add_lt_add_iff_right]

def ugetL (full : Nat) : List UInt8 → Nat → Nat → Nat × Nat × Int
  | [], _, _ => if full < 9 then (0, 0, 2) else (0, 0, 4)
  | c :: r, i, v =>
    if c.toNat < 128 then (if ulen (v + c.toNat % 128 * 128 ^ i) ≠ i + 1 then (0, 0, 3) else (v + c.toNat % 128 * 128 ^ i, i + 1, 0))
    else ugetL full r (i + 1) (v + c.toNat % 128 * 128 ^ i)
def uget (b : List UInt8) : Nat × Nat × Int := ugetL b.length (b.take 9) 0 0

theorem u8_of (n : Nat) (h : n < 256) : (UInt8.ofNat n).toNat = n := by
  simp
  omega

theorem ugetL_udig (full n : Nat) (hn : 1 ≤ n) (v : Nat) (hv : v < 128 ^ n) (r : List UInt8) (i acc : Nat) :
    ugetL full (udig n v ++ r) i acc = if ulen (acc + v * 128 ^ i) ≠ i + n then (0, 0, 3) else (acc + v * 128 ^ i, i + n, 0) := by
  induction n generalizing v i acc with
  | zero => omega
  | succ n ih =>
    unfold udig
    by_cases h0 : n = 0
    · subst h0
      have hv' : v < 128 := by simpa using hv
      rw [if_pos rfl]
      simp only [List.cons_append, List.nil_append, ugetL]
      rw [u8_of _ (by omega), if_pos (by omega)]
      have e : v % 128 % 128 = v := by omega
      rw [e]
    · rw [if_neg h0]
      simp only [List.cons_append, ugetL]
      rw [u8_of _ (by omega), if_neg (by omega)]
      have e : (v % 128 + 128) % 128 = v % 128 := by omega
      rw [e, ih (by omega) (v / 128) (by rw [Nat.pow_succ] at hv; omega)]
      have e2 : acc + v % 128 * 128 ^ i + v / 128 * 128 ^ (i + 1) = acc + v * 128 ^ i := by
        rw [Nat.pow_succ]
        have h3 : v = v % 128 + 128 * (v / 128) := by omega
        have h4 : v * 128 ^ i = v % 128 * 128 ^ i + 128 * (v / 128) * 128 ^ i := by
          rw [← Nat.add_mul]
          congr 1
        rw [h4, Nat.add_assoc]
        congr 2
        rw [Nat.mul_comm (128 ^ i) 128, ← Nat.mul_assoc, Nat.mul_comm (v / 128) 128]
      rw [e2]
      have e3 : i + 1 + n = i + (n + 1) := by omega
      rw [e3]

theorem uget_uput {v : Nat} (hv : v < 9223372036854775808) (r : List UInt8) : uget (uput v ++ r) = (v, ulen v, 0) := by
  unfold uget
  have hl := uput_length v
  have h9 := ulen_le v
  have e : (uput v ++ r).take 9 = uput v ++ r.take (9 - ulen v) := by
    rw [List.take_append, hl, List.take_of_length_le (by omega)]
  rw [e]
  unfold uput
  rw [ugetL_udig _ _ (ulen_pos hv) _ (ulen_lt hv)]
  simp

theorem ugetL_ok {full : Nat} {l : List UInt8} {i acc w n : Nat} (h : ugetL full l i acc = (w, n, 0)) :
    ∃ k v r, 1 ≤ k ∧ v < 128 ^ k ∧ l = udig k v ++ r ∧ w = acc + v * 128 ^ i ∧ n = i + k ∧ ulen w = i + k := by
  induction l generalizing i acc with
  | nil =>
    unfold ugetL at h
    split at h <;> simp at h
  | cons c r ih =>
    have hc := c.toNat_lt
    unfold ugetL at h
    split at h
    · rename_i hlt
      split at h
      · simp at h
      · rename_i hu
        simp only [Prod.mk.injEq] at h
        obtain ⟨rfl, rfl, _⟩ := h
        refine ⟨1, c.toNat % 128, r, by omega, by omega, ?_, rfl, rfl, by omega⟩
        unfold udig
        rw [if_pos rfl]
        have e : c.toNat % 128 % 128 = c.toNat := by omega
        rw [e]
        simp
    · rename_i hge
      obtain ⟨k, v, r', hk, hv, rfl, hw, hn, hu⟩ := ih h
      refine ⟨k + 1, c.toNat % 128 + 128 * v, r', by omega, ?_, ?_, ?_, by omega, by omega⟩
      · rw [Nat.pow_succ]
        omega
      · conv => rhs; unfold udig
        rw [if_neg (by omega)]
        have e1 : (c.toNat % 128 + 128 * v) % 128 + 128 = c.toNat := by omega
        have e2 : (c.toNat % 128 + 128 * v) / 128 = v := by omega
        rw [e1, e2]
        simp
      · rw [hw, Nat.pow_succ, Nat.add_mul, Nat.add_assoc]
        congr 2
        rw [Nat.mul_comm (128 ^ i) 128, ← Nat.mul_assoc, Nat.mul_comm v 128]

theorem uget_ok {b : List UInt8} {w n : Nat} (h : uget b = (w, n, 0)) : w < 9223372036854775808 ∧ n = ulen w ∧ 1 ≤ n ∧ b = uput w ++ b.drop n := by
  unfold uget at h
  obtain ⟨k, v, r, hk, hv, hl, hw, hn, hu⟩ := ugetL_ok h
  have hwv : w = v := by simpa using hw
  have hnk : n = k := by simpa using hn
  have huk : ulen w = k := by simpa using hu
  subst hwv
  subst hnk
  have hlt : w < 9223372036854775808 := by
    by_cases hge : 9223372036854775808 ≤ w
    · have := ulen_zero.2 hge
      omega
    · omega
  refine ⟨hlt, huk.symm, hk, ?_⟩
  have e : uput w = udig n w := by unfold uput; rw [huk]
  rw [e]
  have h1 : b.take n = udig n w := by
    have h2 : (b.take 9).take n = udig n w := by
      rw [hl, List.take_append, udig_length]
      simp [List.take_of_length_le, udig_length]
    rw [List.take_take] at h2
    have := ulen_le w
    rw [Nat.min_eq_left (by omega)] at h2
    exact h2
  rw [← h1]
  exact (List.take_append_drop n b).symm

theorem ugetL_n_le {full : Nat} {l : List UInt8} {i acc : Nat} : (ugetL full l i acc).2.1 ≤ i + l.length := by
  induction l generalizing i acc with
  | nil =>
    unfold ugetL
    split <;> simp
  | cons c r ih =>
    unfold ugetL
    split
    · split <;> simp
    · have := @ih (i + 1) (acc + c.toNat % 128 * 128 ^ i)
      simp only [List.length_cons]
      omega
theorem uget_n_le (b : List UInt8) : (uget b).2.1 ≤ b.length := by
  have := @ugetL_n_le b.length (b.take 9) 0 0
  unfold uget
  simp only [List.length_take] at this
  omega
theorem ugetL_bad {full : Nat} {l : List UInt8} {i acc : Nat} (h : (ugetL full l i acc).2.2 ≠ 0) : (ugetL full l i acc).1 = 0 ∧ (ugetL full l i acc).2.1 = 0 := by
  induction l generalizing i acc with
  | nil =>
    unfold ugetL at h ⊢
    split <;> simp
  | cons c r ih =>
    unfold ugetL at h ⊢
    split at h
    · rename_i h1
      rw [if_pos h1]
      split at h
      · rename_i h2
        rw [if_pos h2]
        simp
      · simp at h
    · rename_i h1
      rw [if_neg h1]
      exact ih h

/-! ### frames -/
def fput (row : List UInt8) : List UInt8 := uput row.length ++ row
/-- the row, how many bytes, the code -/
def fget (b : List UInt8) : List UInt8 × Nat × Int :=
  if (uget b).2.2 ≠ 0 then ([], 0, (uget b).2.2)
  else if 1200 < (uget b).1 then ([], 0, 4)
  else if b.length - (uget b).2.1 < (uget b).1 then ([], 0, 2)
  else ((b.drop (uget b).2.1).take (uget b).1, (uget b).2.1 + (uget b).1, 0)

theorem fget_fput {row : List UInt8} (h : row.length ≤ 1200) : fget (fput row) = (row, (fput row).length, 0) := by
  unfold fget fput
  rw [uget_uput (by omega)]
  have hl := uput_length row.length
  simp only [ne_eq, not_true_eq_false, if_false]
  rw [if_neg (by omega), if_neg (by simp [hl])]
  simp [← hl]
theorem fget_ok {b row : List UInt8} (h : fget b = (row, b.length, 0)) : row.length ≤ 1200 ∧ b = fput row := by
  unfold fget at h
  split at h
  · simp at h
    rename_i h1
    exact absurd h.2.2 h1
  · rename_i h1
    split at h
    · simp at h
    · rename_i h2
      split at h
      · simp at h
      · rename_i h3
        obtain ⟨hw, hn, hp, hb⟩ := uget_ok (b := b) (w := (uget b).1) (n := (uget b).2.1) (by
          have : (uget b).2.2 = 0 := by simpa using h1
          rw [← this])
        have hn2 := uget_n_le b
        simp only [Prod.mk.injEq] at h
        have hrow : row = b.drop (uget b).2.1 := by
          rw [← h.1, List.take_of_length_le]
          simp
          omega
        have hlen : row.length = (uget b).1 := by
          rw [hrow]
          simp
          omega
        refine ⟨by omega, ?_⟩
        unfold fput
        rw [hlen, hrow]
        exact hb

/-! ### addresses -/
structure Ad where
  host : Nat
  port : Int
  deriving DecidableEq
def amay (a : Ad) : Prop := a.host ≠ 0 ∧ 1 ≤ a.port ∧ a.port ≤ 65535
instance (a : Ad) : Decidable (amay a) := by unfold amay; infer_instance
def abytes (a : Ad) : List UInt8 :=
  [UInt8.ofNat (a.host / 16777216 % 256), UInt8.ofNat (a.host / 65536 % 256), UInt8.ofNat (a.host / 256 % 256), UInt8.ofNat (a.host % 256), UInt8.ofNat (a.port.toNat / 256 % 256), UInt8.ofNat (a.port.toNat % 256)]
def afrom6 (b0 b1 b2 b3 b4 b5 : UInt8) : Ad := ⟨((b0.toNat * 256 + b1.toNat) * 256 + b2.toNat) * 256 + b3.toNat, (b4.toNat * 256 + b5.toNat : Nat)⟩
def afrom (b : List UInt8) : Ad × Int :=
  match b with
  | [b0, b1, b2, b3, b4, b5] => if amay (afrom6 b0 b1 b2 b3 b4 b5) then (afrom6 b0 b1 b2 b3 b4 b5, 0) else (⟨0, 0⟩, 3)
  | _ => (⟨0, 0⟩, 3)
theorem afrom_abytes {a : Ad} (h : amay a) (hh : a.host < 4294967296) : afrom (abytes a) = (a, 0) := by
  obtain ⟨host, port⟩ := a
  obtain ⟨h1, h2, h3⟩ := h
  simp only at h1 h2 h3 hh
  have e : afrom6 (UInt8.ofNat (host / 16777216 % 256)) (UInt8.ofNat (host / 65536 % 256)) (UInt8.ofNat (host / 256 % 256)) (UInt8.ofNat (host % 256)) (UInt8.ofNat (port.toNat / 256 % 256)) (UInt8.ofNat (port.toNat % 256)) = ⟨host, port⟩ := by
    unfold afrom6
    rw [u8_of _ (by omega), u8_of _ (by omega), u8_of _ (by omega), u8_of _ (by omega), u8_of _ (by omega), u8_of _ (by omega)]
    congr 1 <;> omega
  simp only [abytes, afrom]
  rw [e, if_pos ⟨h1, h2, h3⟩]
theorem u8_eq {c : UInt8} {n : Nat} (h : n % 256 = c.toNat) : UInt8.ofNat (n % 256) = c := by
  rw [h]
  simp
theorem afrom_ok {b : List UInt8} {a : Ad} (h : afrom b = (a, 0)) : amay a ∧ a.host < 4294967296 ∧ b = abytes a := by
  unfold afrom at h
  split at h
  · rename_i b0 b1 b2 b3 b4 b5
    split at h
    · rename_i hm
      simp only [Prod.mk.injEq] at h
      obtain ⟨rfl, _⟩ := h
      have k0 := b0.toNat_lt
      have k1 := b1.toNat_lt
      have k2 := b2.toNat_lt
      have k3 := b3.toNat_lt
      have k4 := b4.toNat_lt
      have k5 := b5.toNat_lt
      refine ⟨hm, by unfold afrom6; simp only; omega, ?_⟩
      unfold abytes afrom6
      simp only [Int.toNat_natCast]
      rw [u8_eq (c := b0) (by omega), u8_eq (c := b1) (by omega), u8_eq (c := b2) (by omega), u8_eq (c := b3) (by omega), u8_eq (c := b4) (by omega), u8_eq (c := b5) (by omega)]
    · simp at h
  · simp at h
theorem abytes_length (a : Ad) : (abytes a).length = 6 := rfl

/-! ### messages -/
structure Mg where
  kind : Int
  nums : List Nat
  addrs : List Ad
  body : List UInt8
  deriving DecidableEq
def numTab : List Int := [-1, 4, 5, 5, 6, 1, 1, 3, 1, 2, 2, 2, 4, 2, 4, 2, 1, 2, 1]
def numsOf (kind : Int) : Int := if kind < 1 ∨ 19 ≤ kind then -1 else numTab.getD kind.toNat 0
def mmay (m : Mg) : Prop :=
  (m.nums.length : Int) = numsOf m.kind ∧ m.addrs.length ≤ 8 ∧ m.body.length ≤ 1000 ∧ (∀ v ∈ m.nums, v < 9223372036854775808) ∧ ∀ a ∈ m.addrs, amay a
instance (m : Mg) : Decidable (mmay m) := by unfold mmay; infer_instance
def mraw (m : Mg) : List UInt8 := uput m.kind.toNat ++ (m.nums.flatMap uput ++ (uput m.addrs.length ++ (m.addrs.flatMap abytes ++ fput m.body)))
def mbytes (m : Mg) : List UInt8 := if mmay m then mraw m else []

theorem numsOf_le (k : Int) : numsOf k ≤ 6 := by
  unfold numsOf
  split
  · omega
  · have h : ∀ n, n < 19 → numTab.getD n 0 ≤ 6 := by decide
    exact h _ (by omega)
theorem numsOf_kind {k : Int} (h : 0 ≤ numsOf k) : 1 ≤ k ∧ k ≤ 18 := by
  unfold numsOf at h
  split at h <;> omega

/-- A reader: what is left, and whether something was wrong. -/
structure Rd where
  b : List UInt8
  bad : Bool
def Rd.num (r : Rd) : Nat × Rd := ((uget r.b).1, ⟨r.b.drop (uget r.b).2.1, r.bad || decide ((uget r.b).2.2 ≠ 0)⟩)
def Rd.nums : Nat → Rd → List Nat × Rd
  | 0, r => ([], r)
  | n + 1, r => (r.num.1 :: (r.num.2.nums n).1, (r.num.2.nums n).2)
def Rd.addrs : Nat → Rd → List Ad × Rd
  | 0, r => ([], r)
  | n + 1, r =>
    if r.b.length < 6 then ([], ⟨r.b, true⟩)
    else ((afrom (r.b.take 6)).1 :: (Rd.addrs n ⟨r.b.drop 6, r.bad || decide ((afrom (r.b.take 6)).2 ≠ 0)⟩).1, (Rd.addrs n ⟨r.b.drop 6, r.bad || decide ((afrom (r.b.take 6)).2 ≠ 0)⟩).2)
def Rd.body (r : Rd) : List UInt8 × Bool := ((fget r.b).1, r.bad || decide ((fget r.b).2.2 ≠ 0) || decide ((fget r.b).2.1 ≠ r.b.length))

/-- What FromBytes gives: the message, if there is one. -/
def mfrom (b : List UInt8) : Option Mg :=
  let k := Rd.num ⟨b, false⟩
  if k.2.bad = true ∨ 18 < k.1 then none
  else
    let ns := k.2.nums (numsOf k.1).toNat
    let n := ns.2.num
    if n.2.bad = true ∨ 8 < n.1 then none
    else
      let as_ := n.2.addrs n.1
      let m : Mg := ⟨k.1, ns.1, as_.1, as_.2.body.1⟩
      if as_.2.body.2 = true ∨ ¬ mmay m then none else some m

end Go.Proofs.Ytjfmgpelkhgodaa
