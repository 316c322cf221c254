/- Plain lists and numbers: a message's bytes are read again as that message, and nothing else is. No program in sight. -/
import Derived.Test.YtjfmgpelkhgodaaModel
namespace Go.Proofs.Ytjfmgpelkhgodaa

theorem Rd.num_put {v : Nat} (hv : v < 9223372036854775808) (r : List UInt8) (bad : Bool) : Rd.num ⟨uput v ++ r, bad⟩ = (v, ⟨r, bad⟩) := by
  unfold Rd.num
  simp only [uget_uput hv]
  have hl := uput_length v
  simp [← hl]
theorem Rd.nums_put (vs : List Nat) (hv : ∀ v ∈ vs, v < 9223372036854775808) (r : List UInt8) (bad : Bool) : Rd.nums vs.length ⟨vs.flatMap uput ++ r, bad⟩ = (vs, ⟨r, bad⟩) := by
  induction vs with
  | nil => rfl
  | cons v vs ih =>
    simp only [List.flatMap_cons, List.length_cons, Rd.nums, List.append_assoc]
    rw [Rd.num_put (hv v (by simp))]
    simp only
    rw [ih (fun x hx => hv x (by simp [hx]))]
theorem Rd.addrs_put (as_ : List Ad) (hv : ∀ a ∈ as_, amay a ∧ a.host < 4294967296) (r : List UInt8) (bad : Bool) : Rd.addrs as_.length ⟨as_.flatMap abytes ++ r, bad⟩ = (as_, ⟨r, bad⟩) := by
  induction as_ with
  | nil => rfl
  | cons a as_ ih =>
    have ha := hv a (by simp)
    simp only [List.flatMap_cons, List.length_cons, Rd.addrs, List.append_assoc]
    have hl := abytes_length a
    rw [if_neg (by simp [hl])]
    have e : (abytes a ++ (as_.flatMap abytes ++ r)).take 6 = abytes a := by
      rw [← hl, List.take_left]
    have e2 : (abytes a ++ (as_.flatMap abytes ++ r)).drop 6 = as_.flatMap abytes ++ r := by
      rw [← hl, List.drop_left]
    rw [e, e2, afrom_abytes ha.1 ha.2]
    simp only [ne_eq, not_true_eq_false, decide_false, Bool.or_false]
    rw [ih (fun x hx => hv x (by simp [hx]))]

theorem mfrom_mraw {m : Mg} (hm : mmay m) (hh : ∀ a ∈ m.addrs, a.host < 4294967296) : mfrom (mraw m) = some m := by
  have hm0 := hm
  obtain ⟨h1, h2, h3, h4, h5⟩ := hm
  have hk := numsOf_kind (k := m.kind) (by omega)
  unfold mfrom mraw
  rw [Rd.num_put (by omega)]
  have ek : ((m.kind.toNat : Nat) : Int) = m.kind := by omega
  simp only [ek]
  rw [if_neg (by simp; omega)]
  have en : (numsOf m.kind).toNat = m.nums.length := by omega
  rw [en, Rd.nums_put _ h4]
  simp only
  rw [Rd.num_put (by omega)]
  simp only
  rw [if_neg (by simp; omega), Rd.addrs_put _ (fun a ha => ⟨h5 a ha, hh a ha⟩)]
  have eb : Rd.body ⟨fput m.body, false⟩ = (m.body, false) := by
    unfold Rd.body
    simp only
    rw [fget_fput (by omega)]
    simp
  simp only [eb]
  simp [hm0]

theorem Rd.num_ok {r : Rd} (h : r.num.2.bad = false) : r.bad = false ∧ r.num.1 < 9223372036854775808 ∧ r.b = uput r.num.1 ++ r.num.2.b := by
  unfold Rd.num at h ⊢
  simp only [Bool.or_eq_false_iff, decide_eq_false_iff_not, ne_eq, Decidable.not_not] at h ⊢
  obtain ⟨hw, _, _, hb⟩ := uget_ok (b := r.b) (w := (uget r.b).1) (n := (uget r.b).2.1) (by rw [← h.2])
  exact ⟨h.1, hw, hb⟩
theorem Rd.nums_ok {n : Nat} {r : Rd} (h : (r.nums n).2.bad = false) : r.bad = false ∧ (r.nums n).1.length = n ∧ (∀ v ∈ (r.nums n).1, v < 9223372036854775808) ∧ r.b = (r.nums n).1.flatMap uput ++ (r.nums n).2.b := by
  induction n generalizing r with
  | zero => exact ⟨h, rfl, by simp [Rd.nums], rfl⟩
  | succ n ih =>
    simp only [Rd.nums] at h ⊢
    obtain ⟨h1, h2, h3, h4⟩ := ih h
    obtain ⟨k1, k2, k3⟩ := Rd.num_ok h1
    refine ⟨k1, by simp [h2], ?_, ?_⟩
    · intro v hv
      rcases List.mem_cons.1 hv with rfl | hv
      · exact k2
      · exact h3 v hv
    · rw [List.flatMap_cons, List.append_assoc, ← h4]
      exact k3
theorem Rd.addrs_ok {n : Nat} {r : Rd} (h : (r.addrs n).2.bad = false) : r.bad = false ∧ (r.addrs n).1.length = n ∧ (∀ a ∈ (r.addrs n).1, amay a ∧ a.host < 4294967296) ∧ r.b = (r.addrs n).1.flatMap abytes ++ (r.addrs n).2.b := by
  induction n generalizing r with
  | zero => exact ⟨h, rfl, by simp [Rd.addrs], rfl⟩
  | succ n ih =>
    simp only [Rd.addrs] at h ⊢
    split at h
    · simp at h
    · rename_i hlen
      rw [if_neg hlen]
      obtain ⟨h1, h2, h3, h4⟩ := ih h
      simp only [Bool.or_eq_false_iff, decide_eq_false_iff_not, ne_eq, Decidable.not_not] at h1
      obtain ⟨k1, k2, k3⟩ := afrom_ok (b := r.b.take 6) (a := (afrom (r.b.take 6)).1) (by rw [← h1.2])
      refine ⟨h1.1, by rw [List.length_cons, h2], ?_, ?_⟩
      · intro v hv
        rcases List.mem_cons.1 hv with rfl | hv
        · exact ⟨k1, k2⟩
        · exact h3 v hv
      · rw [List.flatMap_cons, List.append_assoc, ← k3]
        simp only at h4
        rw [← h4]
        exact (List.take_append_drop 6 r.b).symm
theorem Rd.body_ok {r : Rd} (h : r.body.2 = false) : r.bad = false ∧ r.body.1.length ≤ 1200 ∧ r.b = fput r.body.1 := by
  unfold Rd.body at h ⊢
  simp only [Bool.or_eq_false_iff, decide_eq_false_iff_not, ne_eq, Decidable.not_not] at h ⊢
  obtain ⟨⟨h1, h2⟩, h3⟩ := h
  obtain ⟨k1, k2⟩ := fget_ok (b := r.b) (row := (fget r.b).1) (by rw [← h3, ← h2])
  exact ⟨h1, k1, k2⟩

theorem mfrom_ok {b : List UInt8} {m : Mg} (h : mfrom b = some m) : mmay m ∧ (∀ a ∈ m.addrs, a.host < 4294967296) ∧ b = mraw m := by
  unfold mfrom at h
  simp only at h
  split at h
  · simp at h
  · rename_i hk
    split at h
    · simp at h
    · rename_i hn
      split at h
      · simp at h
      · rename_i hb
        simp only [Option.some.injEq] at h
        rw [not_or] at hk hn hb
        obtain ⟨hk1, hk2⟩ := hk
        obtain ⟨hn1, hn2⟩ := hn
        obtain ⟨hb1, hb2⟩ := hb
        rw [Decidable.not_not] at hb2
        rw [h] at hb2
        obtain ⟨c1, c2, c3⟩ := Rd.body_ok (by simpa using hb1)
        obtain ⟨d1, d2, d3, d4⟩ := Rd.addrs_ok c1
        obtain ⟨e1, e2, e3⟩ := Rd.num_ok d1
        obtain ⟨f1, f2, f3, f4⟩ := Rd.nums_ok e1
        obtain ⟨g1, g2, g3⟩ := Rd.num_ok f1
        simp only at g3
        refine ⟨hb2, ?_, ?_⟩
        · rw [← h]
          exact fun a ha => (d3 a ha).2
        · rw [← h]
          unfold mraw
          simp only [Int.toNat_natCast]
          rw [d2, ← c3, ← d4, ← e3, ← f4]
          exact g3

theorem mbytes_may {m : Mg} (h : mmay m) : mbytes m = mraw m := by rw [mbytes, if_pos h]
theorem mfrom_mbytes {m : Mg} (h : mmay m) (hh : ∀ a ∈ m.addrs, a.host < 4294967296) : mfrom (mbytes m) = some m := by
  rw [mbytes_may h, mfrom_mraw h hh]
theorem mfrom_nil : mfrom [] = none := by decide
theorem mfrom_none_mbytes {m : Mg} (h : ¬ mmay m) : mfrom (mbytes m) = none := by
  rw [mbytes, if_neg h, mfrom_nil]
/-- Two messages that may be and have the same bytes are the same. -/
theorem mbytes_inj {m m' : Mg} (h : mmay m) (hh : ∀ a ∈ m.addrs, a.host < 4294967296) (h' : mmay m') (hh' : ∀ a ∈ m'.addrs, a.host < 4294967296) (e : mbytes m = mbytes m') : m = m' := by
  have h1 := mfrom_mbytes h hh
  rw [e, mfrom_mbytes h' hh'] at h1
  exact (Option.some.inj h1).symm
theorem mbytes_ne {m : Mg} (h : mmay m) : mbytes m ≠ [] := by
  rw [mbytes_may h]
  have hk := numsOf_kind (k := m.kind) (by have := h.1; omega)
  have : 1 ≤ (uput m.kind.toNat).length := by
    rw [uput_length]
    exact ulen_pos (by omega)
  intro hn
  rw [mraw] at hn
  have h2 := congrArg List.length hn
  simp at h2
  rw [h2.1] at this
  simp at this
end Go.Proofs.Ytjfmgpelkhgodaa
