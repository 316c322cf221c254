/- Plain: a hello of which a number was changed isn't right. -/
import Derived.Test.YtjfmgpelkhgodaaLawQ
namespace Go.Proofs.Ytjfmgpelkhgodaa

/-- A hello's number at j, raised by d. -/
def forgedOf (a b n t j d : Nat) : Mg := ⟨1, [a, b, n, t].set j (([a, b, n, t].getD j 0 + d) % 9223372036854775808), [], []⟩

theorem hello_one {L : List En} {a b n : Nat} {x : List UInt8} (hl : L.length ≤ 1) (h : HelloIn L a b n x) : x = mbytes (helloOf a b n 1) ∧ L = [((a : Int), mbytes (helloOf a b n 0))] := by
  obtain ⟨tag, h1, h2, h3, h4⟩ := h.get
  have hlt := (List.getElem?_eq_some_iff.1 h3).1
  obtain rfl : tag = 1 := by omega
  refine ⟨h4, ?_⟩
  match L, hl, h3 with
  | [e], _, h3 =>
    simp at h3
    rw [h3]

theorem forged_bad {a b n j d : Nat} (ha : peer a) (hb : peer b) (hn : nonce n) (hj : j < 4) (h1 : 1 ≤ d) (h2 : d ≤ 255) : skcheck [((a : Int), mbytes (helloOf a b n 0))] (forgedOf a b n 1 j d) = false := by
  obtain ⟨a1, a2⟩ := ha
  obtain ⟨b1, b2⟩ := hb
  obtain ⟨n1, n2⟩ := hn
  unfold skcheck
  rw [decide_eq_false_iff_not]
  rintro ⟨_, hm, _, hc⟩
  unfold ncheck at hc
  split at hc
  rotate_left
  · omega
  rename_i hk
  obtain ⟨k1, k2⟩ := hk
  have hlt := (List.getElem?_eq_some_iff.1 k2).1
  have hhello := hello_may (a := a) (b := b) (n := n) (t := 0) (by omega) (by omega) (by omega) (by omega)
  have hbare : mmay (bareOf (forgedOf a b n 1 j d)) := by
    refine ⟨?_, hm.2.1, hm.2.2.1, ?_, hm.2.2.2.2⟩
    · have := hm.1
      unfold bareOf
      simpa using this
    · intro v hv
      unfold bareOf at hv
      rcases List.mem_or_eq_of_mem_set hv with hv | rfl
      · exact hm.2.2.2.1 v hv
      · omega
  have hinj : ∀ t : List UInt8, [((a : Int), mbytes (helloOf a b n 0))][(forgedOf a b n 1 j d).nums.getD ((forgedOf a b n 1 j d).nums.length - 1) 0 - 1]? = some ((((forgedOf a b n 1 j d).nums.getD 0 0 : Nat) : Int), t) → t = mbytes (helloOf a b n 0) ∧ (forgedOf a b n 1 j d).nums.getD 0 0 = a ∧ (forgedOf a b n 1 j d).nums.getD ((forgedOf a b n 1 j d).nums.length - 1) 0 = 1 := by
    intro t ht
    have hlt := (List.getElem?_eq_some_iff.1 ht).1
    simp only [List.length_cons, List.length_nil] at hlt
    have h0 : (forgedOf a b n 1 j d).nums.getD ((forgedOf a b n 1 j d).nums.length - 1) 0 - 1 = 0 := by omega
    rw [h0] at ht
    simp only [List.getElem?_cons_zero, Option.some.injEq, Prod.mk.injEq] at ht
    exact ⟨ht.2.symm, by omega, by omega⟩
  obtain ⟨e1, e2, e3⟩ := hinj _ k2
  have e4 := mbytes_inj hbare (by simp [bareOf, forgedOf]) hhello (by simp [helloOf]) e1
  have e5 : (bareOf (forgedOf a b n 1 j d)).nums = [a, b, n, 0] := by rw [e4]; rfl
  match j, hj with
  | 0, _ =>
    have : (a + d) % 9223372036854775808 = a := e2
    omega
  | 1, _ =>
    have e6 : [a, (b + d) % 9223372036854775808, n, 0] = [a, b, n, 0] := e5
    simp only [List.cons.injEq, and_true, true_and] at e6
    omega
  | 2, _ =>
    have e6 : [a, b, (n + d) % 9223372036854775808, 0] = [a, b, n, 0] := e5
    simp only [List.cons.injEq, and_true, true_and] at e6
    omega
  | 3, _ =>
    have : (1 + d) % 9223372036854775808 = 1 := e3
    omega
theorem forged_heard {L : List En} {s : Sk} {m : Mg} (hh : m.addrs = []) (h : skcheck L m = false) : heard L s (mbytes m) = (s, (L, [])) := by
  unfold heard
  by_cases hm : mmay m
  · rw [mfrom_mbytes hm (by rw [hh]; simp)]
    dsimp only
    unfold heardM
    rw [if_pos (.inr (.inl h))]
  · rw [mfrom_none_mbytes hm]
end Go.Proofs.Ytjfmgpelkhgodaa
