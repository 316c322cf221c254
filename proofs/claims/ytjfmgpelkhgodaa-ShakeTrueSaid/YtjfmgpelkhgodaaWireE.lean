/- wire.FromBytes: what its walk wants: the iterator's maker, its contract; the numbers that came; the ways out. -/
import Derived.Test.YtjfmgpelkhgodaaRdC
namespace Go.Proofs.Ytjfmgpelkhgodaa
open Go.RowKit

/-- r, when k of n numbers came. -/
def NLeft (r : Rd) (n k : Nat) (pre : List Nat) (r' : Rd) : Prop := r.nums n = (pre ++ (r'.nums (n - k)).1, (r'.nums (n - k)).2) ∧ pre.length = k
theorem NLeft.start (r : Rd) (n : Nat) : NLeft r n 0 [] r := ⟨by simp, rfl⟩
theorem NLeft.done {r r' : Rd} {n : Nat} {pre : List Nat} (h : NLeft r n n pre r') : r.nums n = (pre, r') := by
  rw [h.1, Nat.sub_self]
  simp [Rd.nums]
theorem NLeft.next {r r' : Rd} {n k : Nat} {pre : List Nat} (h : NLeft r n k pre r') (hk : k < n) : NLeft r n (k + 1) (pre ++ [r'.num.1]) r'.num.2 := by
  refine ⟨?_, by simp [h.2]⟩
  rw [h.1]
  obtain ⟨m, hm⟩ : ∃ m, n - k = m + 1 := ⟨n - k - 1, by omega⟩
  rw [hm, show n - (k + 1) = m from by omega]
  simp [Rd.nums]

set_option maxRecDepth 100000 in
set_option maxHeartbeats 1600000 in
theorem rd_addrs (w : World) (b : Nat) (n : Int) :
    Calls Try.prog 60 #[.pointer (some ⟨b, 0, none⟩), .int .i64 n] w fun e w' =>
      e = .returned (.func (.func 99) #[] #[.pointer (some ⟨w.heap.size + 1, 0, none⟩), .pointer (some ⟨w.heap.size, 0, none⟩)]) ∧
      w' = (w.alloc (.cells #[.pointer (some ⟨b, 0, none⟩)] 121)).alloc (.cells #[.int .i64 n] 3) := by
  go_enter Try.func60, Try.ntmps60
  go_wp2
  go_ret
  simp

theorem rd_gives (K b Bn Br n : Nat) (r : Rd) (hn : n < 9223372036854775807) (hKb : K ≤ b) (hbn : b ≠ Bn) (hbr : b ≠ Br) (w : World) (hA : ARd w K b Bn Br n r) :
    Gives Try.prog 99 #[.pointer (some ⟨Bn, 0, none⟩), .pointer (some ⟨Br, 0, none⟩)] (fun x : Ad => #[adV x]) [b] (AOk K b Bn Br) (fun pre _ => pre.length < n)
      (fun xs => xs = (r.addrs n).1) (fun _ W => RdAt W K b (r.addrs n).2) w := by
  intro l J W1 hF hJ hY h0
  exact rd_addrs1 K b Bn Br n r hn hKb hbn hbr l J W1 (hA.kp (Kp.of hF (by simp))) hJ hY h0

/-- The slice is own and holds the addresses. -/
def AdsOwn (w : World) (base : Nat) (v : Value) (l : List Ad) : Prop := w.ownsRow base 114 2 v l.length (l.flatMap fun a => [.int .u32 (a.host : Nat), .int .i64 a.port])
/-- What FromBytes answers. -/
def FromGot (w0 w : World) (l : List UInt8) (e : Ending) : Prop :=
  match mfrom l with
  | none => e = .returned (.tuple #[mgV ⟨0, [], [], []⟩ (.slice none 0 0) (.slice none 0 0) (.slice none 0 0), .int .i64 3])
  | some m => ∃ nv av bv, e = .returned (.tuple #[mgV m nv av bv, .int .i64 0]) ∧ w.ownsRow w0.heap.size 40 1 nv m.nums.length (u64s m.nums) ∧ AdsOwn w w0.heap.size av m.addrs ∧ w.ownsRow w0.heap.size 5 1 bv m.body.length (u8s m.body)

theorem mfrom_one {l : List UInt8} {k : Nat} {r : Rd} (h : Rd.num ⟨l, false⟩ = (k, r)) (hb : r.bad = true ∨ 18 < k) : mfrom l = none := by
  unfold mfrom
  simp only [h]
  rw [if_pos hb]
theorem mfrom_two {l : List UInt8} {k n : Nat} {r r2 r3 : Rd} {ns : List Nat} (h : Rd.num ⟨l, false⟩ = (k, r)) (h2 : r.nums (numsOf k).toNat = (ns, r2)) (h3 : r2.num = (n, r3)) (hb : r3.bad = true ∨ 8 < n) : mfrom l = none := by
  unfold mfrom
  simp only [h, h2, h3]
  split
  · rfl
  · rfl
theorem mfrom_three {l : List UInt8} {k n : Nat} {r r2 r3 r4 : Rd} {ns : List Nat} {as_ : List Ad} (h : Rd.num ⟨l, false⟩ = (k, r)) (h2 : r.nums (numsOf k).toNat = (ns, r2)) (h3 : r2.num = (n, r3)) (h4 : r3.addrs n = (as_, r4)) (hb : r4.body.2 = true ∨ ¬ mmay ⟨k, ns, as_, r4.body.1⟩) : mfrom l = none := by
  unfold mfrom
  simp only [h, h2, h3, h4]
  split
  · rfl
  · split
    · rfl
    · rfl
theorem mfrom_four {l : List UInt8} {k n : Nat} {r r2 r3 r4 : Rd} {ns : List Nat} {as_ : List Ad} (h : Rd.num ⟨l, false⟩ = (k, r)) (h2 : r.nums (numsOf k).toNat = (ns, r2)) (h3 : r2.num = (n, r3)) (h4 : r3.addrs n = (as_, r4))
    (b1 : r.bad = false) (b2 : k ≤ 18) (b3 : r3.bad = false) (b4 : n ≤ 8) (b5 : r4.body.2 = false) (b6 : mmay ⟨k, ns, as_, r4.body.1⟩) : mfrom l = some ⟨k, ns, as_, r4.body.1⟩ := by
  unfold mfrom
  simp only [h, h2, h3, h4]
  rw [if_neg (by simp [b1]; omega), if_neg (by simp [b3]; omega), if_neg (by simp [b5, b6])]

theorem Rd.num_lt (r : Rd) : r.num.1 < 9223372036854775808 := by
  show (uget r.b).1 < _
  by_cases h : (uget r.b).2.2 = 0
  · exact (uget_ok (b := r.b) (w := (uget r.b).1) (n := (uget r.b).2.1) (by rw [← h])).1
  · have : (uget r.b).1 = 0 := (ugetL_bad h).1
    omega
theorem Rd.nums_lt (n : Nat) : ∀ (r : Rd), ∀ v ∈ (r.nums n).1, v < 9223372036854775808 := by
  induction n with
  | zero => intro r v hv; simp [Rd.nums] at hv
  | succ n ih =>
    intro r v hv
    simp only [Rd.nums, List.mem_cons] at hv
    rcases hv with rfl | hv
    · exact Rd.num_lt r
    · exact ih _ v hv
theorem afrom_host (l : List UInt8) : (afrom l).1.host < 4294967296 := by
  unfold afrom
  split
  · split
    · unfold afrom6
      simp only
      rename_i b0 b1 b2 b3 b4 b5 _
      have := b0.toNat_lt
      have := b1.toNat_lt
      have := b2.toNat_lt
      have := b3.toNat_lt
      omega
    · simp
  · simp
theorem Rd.addrs_host (n : Nat) : ∀ (r : Rd), ∀ a ∈ (r.addrs n).1, a.host < 4294967296 := by
  induction n with
  | zero => intro r v hv; simp [Rd.addrs] at hv
  | succ n ih =>
    intro r v hv
    simp only [Rd.addrs] at hv
    split at hv
    · simp at hv
    · simp only [List.mem_cons] at hv
      rcases hv with rfl | hv
      · exact afrom_host _
      · exact ih _ v hv
theorem ads_flat (l : List Ad) : (l.flatMap fun a => [Value.int .u32 (a.host : Nat), .int .i64 a.port]).length = 2 * l.length := by
  induction l with
  | nil => rfl
  | cons a l ih =>
    simp only [List.flatMap_cons, List.length_append, ih, List.length_cons, List.length_nil]
    omega
theorem ads_flat_at (l : List Ad) : ∀ (j : Nat) (a : Ad), l[j]? = some a → (l.flatMap fun a => [Value.int .u32 (a.host : Nat), .int .i64 a.port])[j * 2]? = some (.int .u32 (a.host : Nat)) ∧ (l.flatMap fun a => [Value.int .u32 (a.host : Nat), .int .i64 a.port])[j * 2 + 1]? = some (.int .i64 a.port) := by
  induction l with
  | nil => intro j a h; simp at h
  | cons b l ih =>
    intro j a h
    cases j with
    | zero =>
      simp at h
      subst h
      simp
    | succ j =>
      have := ih j a (by simpa using h)
      rw [show (j + 1) * 2 = j * 2 + 2 from by omega]
      simpa using this
theorem ads_of_own {w : World} {base : Nat} {v : Value} {l : List Ad} (h : AdsOwn w base v l) : AdsAt w v l := by
  have hlen := h.1
  rcases h.2 with ⟨rfl, hx⟩ | ⟨g, cap, cur, rfl, hb, hh, h1, h2, h3, h4⟩
  · refine .inl ⟨rfl, ?_⟩
    have : l.length = 0 := by simpa using hx
    exact List.eq_nil_of_length_eq_zero this
  · refine .inr (.inl ⟨g, 0, cap, rfl, (Array.getElem?_eq_some_iff.1 hh).1, h1, h2, fun j a hj => ?_⟩)
    have hlt := (List.getElem?_eq_some_iff.1 hj).1
    have cell : ∀ i, i < l.length * 2 → w.cell? ⟨g, 0 + i, none⟩ = (l.flatMap fun a => [Value.int .u32 (a.host : Nat), .int .i64 a.port])[i]? := by
      intro i hi
      have hc := cell_of_row w g i cur 114 (0, 0) hh
      rw [Nat.zero_add, hc, ← h4, List.getElem?_take, if_pos hi]
      simp
    obtain ⟨p1, p2⟩ := ads_flat_at l j a hj
    exact ⟨(cell _ (by omega)).trans p1, (cell _ (by omega)).trans p2⟩
end Go.Proofs.Ytjfmgpelkhgodaa
