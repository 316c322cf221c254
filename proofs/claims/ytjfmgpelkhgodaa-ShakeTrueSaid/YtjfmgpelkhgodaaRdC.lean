/- The walk of wire's reader's iterator over addresses. -/
import Derived.BigRegion
import Derived.Test.YtjfmgpelkhgodaaRangeF
namespace Go.Proofs.Ytjfmgpelkhgodaa
open Go.RowKit
attribute [local go_sem] Oper.semAt_some

theorem u8s_take_at {l : List UInt8} {n j : Nat} (h : j < n ∧ j < l.length) : (u8s l)[j]? = (u8s (l.take n))[j]? := by
  simp [u8s, h.1]

/-- Which blocks a round may turn. -/
def AOk (K b Bn Br : Nat) (g : Nat) : Prop := K ≤ g ∧ g ≠ b ∧ g ≠ Bn ∧ g ≠ Br
/-- What lies at a round's start. -/
structure ARd (W : World) (K b Bn Br n : Nat) (r : Rd) : Prop where
  rd : RdAt W K b r
  n : Cells W Bn 3 [.int .i64 n]
  r : Cells W Br 121 [.pointer (some ⟨b, 0, none⟩)]
theorem ARd.kp {W W' : World} {K b Bn Br n : Nat} {r : Rd} (h : ARd W K b Bn Br n r) (hk : Kp (AOk K b Bn Br) W W') : ARd W' K b Bn Br n r := by
  obtain ⟨S, hf, hs⟩ := hk
  exact ⟨h.rd.fr hf (fun hm => (hs _ hm).2.1 rfl) (fun g hg => (hs g hg).1), h.n.fr hf (fun hm => (hs _ hm).2.2.1 rfl), h.r.fr hf (fun hm => (hs _ hm).2.2.2 rfl)⟩

/-- r, when k of n addresses came: those that came, and what is left to do. -/
def ALeft (r : Rd) (n k : Nat) (pre : List Ad) (r' : Rd) : Prop := r.addrs n = (pre ++ (r'.addrs (n - k)).1, (r'.addrs (n - k)).2) ∧ pre.length = k
theorem ALeft.start (r : Rd) (n : Nat) : ALeft r n 0 [] r := ⟨by simp, rfl⟩
theorem ALeft.done {r r' : Rd} {n : Nat} {pre : List Ad} (h : ALeft r n n pre r') : r.addrs n = (pre, r') := by
  rw [h.1, Nat.sub_self]
  simp [Rd.addrs]
theorem ALeft.short {r r' : Rd} {n k : Nat} {pre : List Ad} (h : ALeft r n k pre r') (hk : k < n) (hs : r'.b.length < 6) : r.addrs n = (pre, ⟨r'.b, true⟩) := by
  rw [h.1]
  obtain ⟨m, hm⟩ : ∃ m, n - k = m + 1 := ⟨n - k - 1, by omega⟩
  rw [hm]
  simp [Rd.addrs, hs]
theorem ALeft.next {r r' : Rd} {n k : Nat} {pre : List Ad} (h : ALeft r n k pre r') (hk : k < n) (hs : ¬ r'.b.length < 6) :
    ALeft r n (k + 1) (pre ++ [(afrom (r'.b.take 6)).1]) ⟨r'.b.drop 6, r'.bad || decide ((afrom (r'.b.take 6)).2 ≠ 0)⟩ := by
  refine ⟨?_, by simp [h.2]⟩
  rw [h.1]
  obtain ⟨m, hm⟩ : ∃ m, n - k = m + 1 := ⟨n - k - 1, by omega⟩
  rw [hm, show n - (k + 1) = m from by omega]
  simp [Rd.addrs, hs]

set_option maxRecDepth 100000 in
set_option maxHeartbeats 4000000 in
theorem rd_addrs1 (K b Bn Br n : Nat) (r : Rd) (hn : n < 9223372036854775807) (hKb : K ≤ b) (hbn : b ≠ Bn) (hbr : b ≠ Br) (l : Nat) (J : List Ad → World → Prop) (W : World) (hA : ARd W K b Bn Br n r)
    (hJ : ∀ s A B, J s A → Fr [b] A B → J s B)
    (hY : ∀ pre x W, J pre W → pre.length < n → YieldAt Fence.wide 0 Try.prog l #[adV x] W fun e W' => e = .returned (.bool true) ∧ J (pre ++ [x]) W' ∧ Kp (AOk K b Bn Br) W W')
    (h0 : J [] W) :
    CallsIn Fence.wide 1 Try.prog 99 #[.func (.yield l) #[] #[], .pointer (some ⟨Bn, 0, none⟩), .pointer (some ⟨Br, 0, none⟩)] W fun e W' => (∃ v, e = .returned v) ∧ ∃ xs, xs = (r.addrs n).1 ∧ J xs W' ∧ RdAt W' K b (r.addrs n).2 := by
  have HY := Lib.hid hY
  have HJ := Lib.hid hJ
  have HA := Lib.hid hA
  have H0 := Lib.hid h0
  have hcn := hA.n.cell 0
  have hcr := hA.r.cell 0
  simp only [List.getElem?_cons_zero] at hcn hcr
  clear hY hJ hA h0
  refine callsIn_of_wp Try.func99 rfl trivial ?_ rfl
  simp only [Try.ntmps99, List.size_toArray, List.length_cons, List.length_nil, Nat.reduceAdd, Nat.reduceSub, Array.replicate_succ, Array.replicate_zero, List.push_toArray, List.append_toArray, List.nil_append, List.cons_append]
  gi_wp2
  gi_loopw [7] (fun i wr => ∃ (k : Nat) (pre : List Ad) (r' : Rd), k ≤ n ∧ i = .int .i64 k ∧ ALeft r n k pre r' ∧ J pre wr ∧ ARd wr K b Bn Br n r')
    (fun i _ => n - (intOf i).toNat)
  case atStart => exact ⟨0, [], r, Nat.zero_le _, rfl, ALeft.start _ _, H0.out, HA.out⟩
  case round =>
    obtain ⟨k, pre, r', hk, rfl, hL, hj, hA'⟩ := hrel
    obtain ⟨l', bad⟩ := r'
    have HL := Lib.hid hL
    have HJs := Lib.hid hj
    have HA' := Lib.hid hA'
    have hcn' := hA'.n.cell 0
    have hcr' := hA'.r.cell 0
    obtain ⟨bv, hC, hsl, hne⟩ := hA'.rd
    dsimp only at hC hsl
    have hb0 := hC.cell 0
    have hb1 := hC.cell 1
    simp only [List.getElem?_cons_zero, List.getElem?_cons_succ] at hb0 hb1 hcn' hcr'
    have f0 := hC.frozen 0
    have f1 := hC.frozen 1
    have HC := Lib.hid hC
    have HNE := Lib.hid hne
    have HSL := Lib.hid hsl
    clear hL hj hA' hC hne hsl hcn hcr
    by_cases hlt : k < n
    · by_cases hsh : l'.length < 6
      · have HD := Lib.hid (HL.out.short hlt hsh)
        obtain ⟨ao, cap, rfl⟩ : ∃ ao cap, bv = .slice ao l'.length cap := by
          obtain ⟨ao, cap, h⟩ := sl_shape HSL.out
          exact ⟨ao, cap, by rw [h, u8s_length]⟩
        gi_wp2
        refine bodyPost_ret (results_none rfl _ _ _) rfl ?_
        have hF : Fr [b] wr (wr.setCell ⟨b, 1, none⟩ (.bool true)) := (Fr.refl _ _).cset _ _ (.inl (by simp))
        rw [HD.out]
        refine ⟨⟨_, rfl⟩, HJ.out _ _ _ HJs.out hF, ⟨_, HC.out.set 1 _, HSL.out.fr hF ?_, HNE.out⟩⟩
        intro g hg hm
        have := HNE.out g hg
        simp at hm
        omega
      · have HN := Lib.hid (HL.out.next hlt hsh)
        obtain ⟨g, off, cap, rfl⟩ : ∃ g off cap, bv = .slice (some ⟨g, off, none⟩) l'.length cap := by
          rcases HSL.out with ⟨_, h⟩ | ⟨g, off, cap, h, _⟩
          · simp [u8s] at h
            subst h
            simp at hsh
          · exact ⟨g, off, cap, by rw [h, u8s_length]⟩
        obtain ⟨k0, k1, k2, k3⟩ := sl_parts HSL.out
        have hgK : g < K := HNE.out g rfl
        have K0 := Lib.hid k0
        have K3 : Hid (∀ j, j < (l'.take 6).length → wr.cell? ⟨g, off + j, none⟩ = (u8s (l'.take 6))[j]?) := by
          intro j hj
          rw [List.length_take] at hj
          rw [k3 j (by omega)]
          exact u8s_take_at (by omega)
        have HT : Hid ((l'.take 6).length = 6) := by show _ = _; simp; omega
        clear k0 k3
        unfold maxLen at k2
        obtain ⟨x, c, HAF⟩ : ∃ x c, Hid (afrom (l'.take 6) = (x, c)) := ⟨_, _, rfl⟩
        have HN1 : Hid (ALeft r n (k + 1) (pre ++ [x]) ⟨l'.drop 6, bad || decide (c ≠ 0)⟩) := by
          have := HN.out
          rw [HAF.out] at this
          exact this
        clear HN
        have HLT : Hid (pre.length < n) := by
          have := HL.out.2
          show _ < _
          omega
        have KEY : Hid (∀ w3 o', (o' = off + 6 ∨ l'.length = 6) → Fr [b] wr w3 → Cells w3 b 123 [.slice (some ⟨g, o', none⟩) (l'.length - 6) (cap - 6), .bool (bad || decide (c ≠ 0))] → ARd w3 K b Bn Br n ⟨l'.drop 6, bad || decide (c ≠ 0)⟩ ∧ J pre w3) := by
          intro w3 o' ho hF hC3
          refine ⟨⟨⟨_, hC3, (sl_drop HSL.out 6 (by omega) o' ho).fr hF ?_, ?_⟩, HA'.out.n.fr hF (by simpa using hbn.symm), HA'.out.r.fr hF (by simpa using hbr.symm)⟩, HJ.out _ _ _ HJs.out hF⟩
          · intro g' hg' hm
            simp [Value.ownBlock] at hg'
            simp at hm
            omega
          · intro g' hg'
            simp [Value.ownBlock] at hg'
            omega
        by_cases h6 : cap = 6
        · subst h6
          cases bad
          · gi_wp2_with (refine ⟨trivial, ?_⟩; gi_at_call 100; refine (callsIn_wide.2 (ad_from_six _ (l'.take 6) g off _ HT.out K0.out K3.out)).mono ?_; rintro e w1 ⟨hadg, hF1⟩; unfold AdGot adV at hadg; rw [HAF.out] at hadg; subst hadg; obtain ⟨w2, hw2⟩ : ∃ w2, w1.alloc (.cells #[.int .u32 (x.host : Nat), .int .i64 x.port] 114) = w2 := ⟨_, rfl⟩; have HF2 : Hid (Fr [] wr w2) := (by rw [← hw2]; exact hF1.calloc _); have HC2 := Lib.hid (HC.out.fr HF2.out (by simp)); have HX2 : Hid (Cells w2 w1.heap.size 114 [.int .u32 (x.host : Nat), .int .i64 x.port]) := (by rw [← hw2]; exact Cells.new _ _ _); have HR2 := Lib.hid (HA'.out.r.fr HF2.out (by simp)); have hb0' := HC2.out.cell 0; have hb1' := HC2.out.cell 1; have hcr2 := HR2.out.cell 0; have hx0 := HX2.out.cell 0; have hx1 := HX2.out.cell 1; simp only [List.getElem?_cons_zero, List.getElem?_cons_succ] at hb0' hb1' hcr2 hx0 hx1; have f0' := HC2.out.frozen 0; have f1' := HC2.out.frozen 1; have HS1 : Hid (w1.heap.size < w2.heap.size) := (by rw [← hw2]; simp [Hid]); have hx1b : b < w1.heap.size := Nat.lt_of_lt_of_le HC.out.lt hF1.size; have hx1r : Br < w1.heap.size := Nat.lt_of_lt_of_le HA'.out.r.lt hF1.size; clear hF1)
            refine wpIn_wide.2 ?_
            go_region
            gi_wp2
            refine wpIn_wide.2 ?_
            go_region
            gi_wp2
            obtain ⟨w3, hw3⟩ : ∃ w3, ((w2.setCell ⟨b, 1, none⟩ (.bool (c != 0))).setCell ⟨b, 0, none⟩ (.slice (some ⟨g, off, none⟩) 0 0)).drew.drew = w3 := ⟨_, rfl⟩
            have HF3 : Fr [b] wr w3 := by
              rw [← hw3]
              exact ((((HF2.out.mono (by simp)).cset _ _ (.inl (by simp))).cset _ _ (.inl (by simp))).cdrew).cdrew
            obtain ⟨hA3, hJ3⟩ := KEY.out w3 off (.inr (by omega)) HF3 (by
              rw [← hw3]
              refine ((HC2.out.set 1 _).set 0 _).as ?_
              simp [bne, ibeq]
              omega)
            have HA3 := Lib.hid hA3
            obtain ⟨fn, tmps, assign, body, hy, hR⟩ := HY.out pre x w3 hJ3 HLT.out
            unfold adV at hy
            clear HF3 hA3
            rw [hw3, hy]
            gi_wp2
            refine hR.mono ?_
            rintro e W3 ⟨rfl, hJ4, hk4⟩
            gi_wp2
            go_roundw
            case rel => exact ⟨k + 1, pre ++ [x], _, by omega, by simp, HN1.out, hJ4, HA3.out.kp hk4⟩
            case measure =>
              simp [intOf]
              omega
          · gi_wp2_with (refine ⟨trivial, ?_⟩; gi_at_call 100; refine (callsIn_wide.2 (ad_from_six _ (l'.take 6) g off _ HT.out K0.out K3.out)).mono ?_; rintro e w1 ⟨hadg, hF1⟩; unfold AdGot adV at hadg; rw [HAF.out] at hadg; subst hadg; obtain ⟨w2, hw2⟩ : ∃ w2, w1.alloc (.cells #[.int .u32 (x.host : Nat), .int .i64 x.port] 114) = w2 := ⟨_, rfl⟩; have HF2 : Hid (Fr [] wr w2) := (by rw [← hw2]; exact hF1.calloc _); have HC2 := Lib.hid (HC.out.fr HF2.out (by simp)); have HX2 : Hid (Cells w2 w1.heap.size 114 [.int .u32 (x.host : Nat), .int .i64 x.port]) := (by rw [← hw2]; exact Cells.new _ _ _); have HR2 := Lib.hid (HA'.out.r.fr HF2.out (by simp)); have hb0' := HC2.out.cell 0; have hb1' := HC2.out.cell 1; have hcr2 := HR2.out.cell 0; have hx0 := HX2.out.cell 0; have hx1 := HX2.out.cell 1; simp only [List.getElem?_cons_zero, List.getElem?_cons_succ] at hb0' hb1' hcr2 hx0 hx1; have f0' := HC2.out.frozen 0; have f1' := HC2.out.frozen 1; have HS1 : Hid (w1.heap.size < w2.heap.size) := (by rw [← hw2]; simp [Hid]); have hx1b : b < w1.heap.size := Nat.lt_of_lt_of_le HC.out.lt hF1.size; have hx1r : Br < w1.heap.size := Nat.lt_of_lt_of_le HA'.out.r.lt hF1.size; clear hF1)
            refine wpIn_wide.2 ?_
            go_region
            gi_wp2
            refine wpIn_wide.2 ?_
            go_region
            gi_wp2
            obtain ⟨w3, hw3⟩ : ∃ w3, ((w2.setCell ⟨b, 1, none⟩ (.bool true)).setCell ⟨b, 0, none⟩ (.slice (some ⟨g, off, none⟩) 0 0)).drew.drew = w3 := ⟨_, rfl⟩
            have HF3 : Fr [b] wr w3 := by
              rw [← hw3]
              exact ((((HF2.out.mono (by simp)).cset _ _ (.inl (by simp))).cset _ _ (.inl (by simp))).cdrew).cdrew
            obtain ⟨hA3, hJ3⟩ := KEY.out w3 off (.inr (by omega)) HF3 (by
              rw [← hw3]
              refine ((HC2.out.set 1 _).set 0 _).as ?_
              simp
              omega)
            have HA3 := Lib.hid hA3
            obtain ⟨fn, tmps, assign, body, hy, hR⟩ := HY.out pre x w3 hJ3 HLT.out
            unfold adV at hy
            clear HF3 hA3
            rw [hw3, hy]
            gi_wp2
            refine hR.mono ?_
            rintro e W3 ⟨rfl, hJ4, hk4⟩
            gi_wp2
            go_roundw
            case rel => exact ⟨k + 1, pre ++ [x], _, by omega, by simp, HN1.out, hJ4, HA3.out.kp hk4⟩
            case measure =>
              simp [intOf]
              omega
        · cases bad
          · gi_wp2_with (refine ⟨trivial, ?_⟩; gi_at_call 100; refine (callsIn_wide.2 (ad_from_six _ (l'.take 6) g off _ HT.out K0.out K3.out)).mono ?_; rintro e w1 ⟨hadg, hF1⟩; unfold AdGot adV at hadg; rw [HAF.out] at hadg; subst hadg; obtain ⟨w2, hw2⟩ : ∃ w2, w1.alloc (.cells #[.int .u32 (x.host : Nat), .int .i64 x.port] 114) = w2 := ⟨_, rfl⟩; have HF2 : Hid (Fr [] wr w2) := (by rw [← hw2]; exact hF1.calloc _); have HC2 := Lib.hid (HC.out.fr HF2.out (by simp)); have HX2 : Hid (Cells w2 w1.heap.size 114 [.int .u32 (x.host : Nat), .int .i64 x.port]) := (by rw [← hw2]; exact Cells.new _ _ _); have HR2 := Lib.hid (HA'.out.r.fr HF2.out (by simp)); have hb0' := HC2.out.cell 0; have hb1' := HC2.out.cell 1; have hcr2 := HR2.out.cell 0; have hx0 := HX2.out.cell 0; have hx1 := HX2.out.cell 1; simp only [List.getElem?_cons_zero, List.getElem?_cons_succ] at hb0' hb1' hcr2 hx0 hx1; have f0' := HC2.out.frozen 0; have f1' := HC2.out.frozen 1; have HS1 : Hid (w1.heap.size < w2.heap.size) := (by rw [← hw2]; simp [Hid]); have hx1b : b < w1.heap.size := Nat.lt_of_lt_of_le HC.out.lt hF1.size; have hx1r : Br < w1.heap.size := Nat.lt_of_lt_of_le HA'.out.r.lt hF1.size; clear hF1)
            refine wpIn_wide.2 ?_
            go_region
            gi_wp2
            refine wpIn_wide.2 ?_
            go_region
            gi_wp2
            obtain ⟨w3, hw3⟩ : ∃ w3, ((w2.setCell ⟨b, 1, none⟩ (.bool (c != 0))).setCell ⟨b, 0, none⟩ (.slice (some ⟨g, off + 6, none⟩) (l'.length - 6) (cap - 6))).drew.drew = w3 := ⟨_, rfl⟩
            have HF3 : Fr [b] wr w3 := by
              rw [← hw3]
              exact ((((HF2.out.mono (by simp)).cset _ _ (.inl (by simp))).cset _ _ (.inl (by simp))).cdrew).cdrew
            obtain ⟨hA3, hJ3⟩ := KEY.out w3 (off + 6) (.inl rfl) HF3 (by
              rw [← hw3]
              refine ((HC2.out.set 1 _).set 0 _).as ?_
              simp [bne, ibeq])
            have HA3 := Lib.hid hA3
            obtain ⟨fn, tmps, assign, body, hy, hR⟩ := HY.out pre x w3 hJ3 HLT.out
            unfold adV at hy
            clear HF3 hA3
            rw [hw3, hy]
            gi_wp2
            refine hR.mono ?_
            rintro e W3 ⟨rfl, hJ4, hk4⟩
            gi_wp2
            go_roundw
            case rel => exact ⟨k + 1, pre ++ [x], _, by omega, by simp, HN1.out, hJ4, HA3.out.kp hk4⟩
            case measure =>
              simp [intOf]
              omega
          · gi_wp2_with (refine ⟨trivial, ?_⟩; gi_at_call 100; refine (callsIn_wide.2 (ad_from_six _ (l'.take 6) g off _ HT.out K0.out K3.out)).mono ?_; rintro e w1 ⟨hadg, hF1⟩; unfold AdGot adV at hadg; rw [HAF.out] at hadg; subst hadg; obtain ⟨w2, hw2⟩ : ∃ w2, w1.alloc (.cells #[.int .u32 (x.host : Nat), .int .i64 x.port] 114) = w2 := ⟨_, rfl⟩; have HF2 : Hid (Fr [] wr w2) := (by rw [← hw2]; exact hF1.calloc _); have HC2 := Lib.hid (HC.out.fr HF2.out (by simp)); have HX2 : Hid (Cells w2 w1.heap.size 114 [.int .u32 (x.host : Nat), .int .i64 x.port]) := (by rw [← hw2]; exact Cells.new _ _ _); have HR2 := Lib.hid (HA'.out.r.fr HF2.out (by simp)); have hb0' := HC2.out.cell 0; have hb1' := HC2.out.cell 1; have hcr2 := HR2.out.cell 0; have hx0 := HX2.out.cell 0; have hx1 := HX2.out.cell 1; simp only [List.getElem?_cons_zero, List.getElem?_cons_succ] at hb0' hb1' hcr2 hx0 hx1; have f0' := HC2.out.frozen 0; have f1' := HC2.out.frozen 1; have HS1 : Hid (w1.heap.size < w2.heap.size) := (by rw [← hw2]; simp [Hid]); have hx1b : b < w1.heap.size := Nat.lt_of_lt_of_le HC.out.lt hF1.size; have hx1r : Br < w1.heap.size := Nat.lt_of_lt_of_le HA'.out.r.lt hF1.size; clear hF1)
            refine wpIn_wide.2 ?_
            go_region
            gi_wp2
            refine wpIn_wide.2 ?_
            go_region
            gi_wp2
            obtain ⟨w3, hw3⟩ : ∃ w3, ((w2.setCell ⟨b, 1, none⟩ (.bool true)).setCell ⟨b, 0, none⟩ (.slice (some ⟨g, off + 6, none⟩) (l'.length - 6) (cap - 6))).drew.drew = w3 := ⟨_, rfl⟩
            have HF3 : Fr [b] wr w3 := by
              rw [← hw3]
              exact ((((HF2.out.mono (by simp)).cset _ _ (.inl (by simp))).cset _ _ (.inl (by simp))).cdrew).cdrew
            obtain ⟨hA3, hJ3⟩ := KEY.out w3 (off + 6) (.inl rfl) HF3 (by
              rw [← hw3]
              refine ((HC2.out.set 1 _).set 0 _).as ?_
              simp)
            have HA3 := Lib.hid hA3
            obtain ⟨fn, tmps, assign, body, hy, hR⟩ := HY.out pre x w3 hJ3 HLT.out
            unfold adV at hy
            clear HF3 hA3
            rw [hw3, hy]
            gi_wp2
            refine hR.mono ?_
            rintro e W3 ⟨rfl, hJ4, hk4⟩
            gi_wp2
            go_roundw
            case rel => exact ⟨k + 1, pre ++ [x], _, by omega, by simp, HN1.out, hJ4, HA3.out.kp hk4⟩
            case measure =>
              simp [intOf]
              omega
    · obtain rfl : k = n := by omega
      have HD := Lib.hid HL.out.done
      gi_wp2
      go_end0
      exact ⟨⟨_, rfl⟩, pre, by rw [HD.out], HJs.out, by rw [HD.out]; exact HA'.out.rd⟩
end Go.Proofs.Ytjfmgpelkhgodaa
