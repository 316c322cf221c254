/- A script of steps, opened from an argument. No condition. -/
import Derived.Test.YtjfmgpelkhgodaaLawO
namespace Go.Proofs.Ytjfmgpelkhgodaa
open Go.ChangeShapes Go.WideShapes Go.Deep Go.RowKit

/-- A step: its values, and what its slices read as. -/
structure Dx where
  kind : Int
  side : Bool
  place : Nat
  bv : Value
  bs : List UInt8
  nv : Value
  av : Value
  xv : Value
  m : Mg
def Dx.cells (d : Dx) : List Value := [.int .i64 d.kind, .bool d.side, .int .u8 d.place, d.bv, .int .i64 d.m.kind, d.nv, d.av, d.xv]
structure Dx.Ok (w : World) (d : Dx) : Prop where
  place : d.place < 256
  bytes : SlEx w d.bv (u8s d.bs)
  msg : MsgAt w d.nv d.av d.xv d.m
  kind : (Lit.int .i64 d.kind).wf = true
  mkind : (Lit.int .i64 d.m.kind).wf = true
theorem MsgAt.old {w w' : World} {nv av bv : Value} {m : Mg} (h : MsgAt w nv av bv m) (hf : Fr [] w w') : MsgAt w' nv av bv m :=
  ⟨h.nums.fr hf (by simp), h.addrs.fr hf (by simp), h.body.fr hf (by simp), h.wf⟩
theorem Dx.Ok.fr {w w' : World} {d : Dx} (h : d.Ok w) (hf : Fr [] w w') : d.Ok w' := ⟨h.place, h.bytes.fr hf (by simp), h.msg.old hf, h.kind, h.mkind⟩
/-- A slice of steps. -/
def DosAt (w : World) (v : Value) (D : List Dx) : Prop :=
  (∃ ao cap, v = .slice ao D.length cap ∧ D = []) ∨
  ∃ g off cap, v = .slice (some ⟨g, off, none⟩) D.length cap ∧ D.length ≤ maxLen ∧ g < w.heap.size ∧ ∀ (i : Nat) (d : Dx), D[i]? = some d → d.Ok w ∧ ∀ j, j < 8 → w.cell? ⟨g, off + (i * 8 + j), none⟩ = d.cells[j]?
theorem DosAt.fr {w w' : World} {v : Value} {D : List Dx} (h : DosAt w v D) (hf : Fr [] w w') : DosAt w' v D := by
  rcases h with h | ⟨g, off, cap, hv, hm, hg, h⟩
  · exact .inl h
  · refine .inr ⟨g, off, cap, hv, hm, Nat.lt_of_lt_of_le hg hf.size, fun i d hd => ⟨(h i d hd).1.fr hf, fun j hj => ?_⟩⟩
    rw [← (h i d hd).2 j hj]
    exact World.cell?_of_block (w := w) (hf.block g hg (by simp))
theorem DosAt.shape {w : World} {v : Value} {D : List Dx} (h : DosAt w v D) : ∃ ao cap, v = .slice ao D.length cap ∧ D.length ≤ maxLen := by
  rcases h with ⟨ao, cap, rfl, rfl⟩ | ⟨g, off, cap, rfl, hm, _⟩
  · exact ⟨ao, cap, rfl, by simp⟩
  · exact ⟨_, cap, rfl, hm⟩
theorem DosAt.get {w : World} {ao : Option Addr} {n cap : Nat} {D : List Dx} (h : DosAt w (.slice ao n cap) D) {i : Nat} {d : Dx} (hi : D[i]? = some d) :
    ∃ g off, ao = some ⟨g, off, none⟩ ∧ g < w.heap.size ∧ d.Ok w ∧ ∀ j, j < 8 → w.cell? ⟨g, off + (i * 8 + j), none⟩ = d.cells[j]? := by
  rcases h with ⟨_, _, _, rfl⟩ | ⟨g, off, cap, hv, _, hg, h⟩
  · simp at hi
  · cases hv
    exact ⟨g, off, rfl, hg, h i d hi⟩

section
variable {H : Type} {enc : TypeId × Value → H} {P : Program} {w : World} {held : Bool}
theorem one_field {T : TypeId} {o n j : Nat} {cs : List Value} {ys : List (DataW H × List MemPlace)} (hc : P.cellsOf T = 1) (hj : j < ys.length) (ho : o < cs.length)
    (h : DataW.trod enc P w 0 (fun _ => true) held n T ((cs.drop o).take (P.cellsOf T)) = ys[j]?) : ∃ v y, cs[o]? = some v ∧ DataW.trod enc P w 0 (fun _ => true) held n T [v] = some y := by
  rw [hc, List.getElem?_eq_getElem hj] at h
  refine ⟨cs[o], ys[j], by simp [ho], ?_⟩
  have e : (cs.drop o).take 1 = [cs[o]] := by
    rw [List.drop_eq_getElem_cons ho]
    rfl
  rw [e] at h
  exact h
end
section
variable {H : Type} {enc : TypeId × Value → H} {w : World} {held : Bool}
theorem bytes_of {n : Nat} {v : Value} {x : DataW H × List MemPlace} (h : DataW.trod enc Try.prog w 0 (fun _ => true) held n 52 [v] = some x) : ∃ l : List UInt8, SlEx w v (u8s l) := by
  obtain ⟨xs, h1, h2⟩ := ex_of_trod Try.underlying52 (by kernel_rfl) h
  obtain ⟨l, rfl⟩ := list_of_all (p := fun u => ∃ n y, DataW.trod enc Try.prog w 0 (fun _ => true) held n 5 [u] = some y) (fun c : UInt8 => Value.int .u8 c.toNat) (fun u hu => by
    obtain ⟨n, y, hy⟩ := hu
    obtain ⟨b, hb, _, hw⟩ := DataW.trod_int Try.underlying5 hy
    simp only [Lit.wf, IntKind.min, IntKind.max, IntKind.signed, IntKind.bits] at hw
    have hr : 0 ≤ b ∧ b ≤ 255 := by simpa using hw
    refine ⟨UInt8.ofNat b.toNat, ?_⟩
    have e : ((UInt8.ofNat b.toNat).toNat : Int) = b := by
      rw [UInt8.toNat_ofNat']
      omega
    simp only [List.cons.injEq, and_true] at hb
    rw [hb, e]) xs h2
  exact ⟨l, h1⟩
theorem nums_of {n : Nat} {v : Value} {x : DataW H × List MemPlace} (h : DataW.trod enc Try.prog w 0 (fun _ => true) held n 53 [v] = some x) : ∃ l : List Nat, SlEx w v (u64s l) ∧ ∀ v ∈ l, v < 18446744073709551616 := by
  obtain ⟨xs, h1, h2⟩ := ex_of_trod Try.underlying53 (by kernel_rfl) h
  have hp : ∀ u, (∃ n y, DataW.trod enc Try.prog w 0 (fun _ => true) held n 40 [u] = some y) → ∃ a : Nat, u = .int .u64 a ∧ a < 18446744073709551616 := by
    rintro u ⟨n, y, hy⟩
    obtain ⟨b, hb, _, hw⟩ := DataW.trod_int Try.underlying40 hy
    have hr : 0 ≤ b ∧ b ≤ 18446744073709551615 := by simpa [Lit.wf, IntKind.min, IntKind.max, IntKind.signed, IntKind.bits] using hw
    obtain ⟨k, rfl⟩ := Int.eq_ofNat_of_zero_le hr.1
    simp only [List.cons.injEq, and_true] at hb
    exact ⟨k, hb, by omega⟩
  obtain ⟨l, rfl⟩ := list_of_all (p := fun u => ∃ n y, DataW.trod enc Try.prog w 0 (fun _ => true) held n 40 [u] = some y) (fun c : Nat => Value.int .u64 c) (fun u hu => by
    obtain ⟨a, ha, _⟩ := hp u hu
    exact ⟨a, ha⟩) xs h2
  refine ⟨l, h1, fun v hv => ?_⟩
  obtain ⟨a, ha, hlt⟩ := hp _ (h2 (.int .u64 v) (List.mem_map.2 ⟨v, hv, rfl⟩))
  simp only [Value.int.injEq, true_and] at ha
  omega
theorem ad_of {n : Nat} {cs : List Value} {x : DataW H × List MemPlace} (h : DataW.trod enc Try.prog w 0 (fun _ => true) held n 114 cs = some x) :
    ∃ a : Ad, cs[0]? = some (.int .u32 (a.host : Nat)) ∧ cs[1]? = some (.int .i64 a.port) ∧ a.host < 4294967296 := by
  obtain ⟨xs, n', _, _, _, hl, hf⟩ := DataW.trod_struct Try.underlying114 h
  have hl : xs.length = 2 := hl
  obtain ⟨a0, c0, w0⟩ := int_field Try.underlying27 (by kernel_rfl) (by omega) (hf 0 _ rfl)
  obtain ⟨a1, c1, _⟩ := int_field Try.underlying3 (by kernel_rfl) (by omega) (hf 1 _ rfl)
  have hr : 0 ≤ a0 ∧ a0 ≤ 4294967295 := by simpa [Lit.wf, IntKind.min, IntKind.max, IntKind.signed, IntKind.bits] using w0
  obtain ⟨k, rfl⟩ := Int.eq_ofNat_of_zero_le hr.1
  exact ⟨⟨k, a1⟩, c0, c1, by dsimp only; omega⟩
theorem ads_of {n : Nat} {v : Value} {x : DataW H × List MemPlace} (h : DataW.trod enc Try.prog w 0 (fun _ => true) held n 54 [v] = some x) : ∃ l : List Ad, AdsAt w v l ∧ ∀ a ∈ l, a.host < 4294967296 := by
  have hc : Try.prog.cellsOf 114 = 2 := by kernel_rfl
  rcases slice_elems Try.underlying54 h with h0 | ⟨a, len, cap, hcs, hl, hm, hi⟩
  · exact ⟨[], .inl ⟨by simpa using h0, rfl⟩, by simp⟩
  · have hv : v = .slice (some a) len cap := by simpa using hcs
    subst hv
    rw [hc] at hi
    by_cases hz : cap = 0
    · subst hz
      obtain rfl : len = 0 := by omega
      exact ⟨[], .inr (.inr ⟨a, rfl, rfl⟩), by simp⟩
    have hs : ∀ i, i < cap → ∃ s : Ad, w.cell? (a.add (i * 2 + 0)) = some (.int .u32 (s.host : Nat)) ∧ w.cell? (a.add (i * 2 + 1)) = some (.int .i64 s.port) ∧ s.host < 4294967296 := by
      intro i hlt
      obtain ⟨n, cs', y, hat, _, ht⟩ := hi i hlt
      obtain ⟨s, k0, k1, k2⟩ := ad_of ht
      exact ⟨s, (hat 0 (by omega)).trans k0, (hat 1 (by omega)).trans k1, k2⟩
    have : Inhabited Ad := ⟨⟨0, 0⟩⟩
    obtain ⟨f, hf⟩ := Go.Deep.choose_lt hs
    obtain ⟨b, off, sp⟩ := a
    have hc0 := (hf 0 (by omega)).1
    have e0 : (⟨b, off, sp⟩ : Addr).add (0 * 2 + 0) = ⟨b, off, sp⟩ := rfl
    rw [e0] at hc0
    have hsp : sp = none := spot_of_cell hc0
    subst hsp
    have hb := World.block_lt_of_cell? w _ hc0
    have hlen : ((List.range len).map f).length = len := by simp
    refine ⟨(List.range len).map f, .inr (.inl ⟨b, off, cap, by rw [hlen], hb, by rw [hlen]; exact hl, hm, ?_⟩), ?_⟩
    · intro j s hj
      have hjl : j < len := by
        have := (List.getElem?_eq_some_iff.1 hj).1
        simpa using this
      have e : f j = s := by simpa [hjl] using hj
      have hj := hf j (by omega)
      rw [e, add_off, add_off] at hj
      exact ⟨hj.1, hj.2.1⟩
    · intro s hs
      obtain ⟨j, hj, rfl⟩ := List.mem_map.1 hs
      have hjl : j < len := by simpa using hj
      exact (hf j (by omega)).2.2
theorem do15_of {n : Nat} {cs : List Value} {x : DataW H × List MemPlace} (h : DataW.trod enc Try.prog w 0 (fun _ => true) held n 58 cs = some x) (hlen : cs.length = 8) :
    ∃ d : Dx, d.Ok w ∧ ∀ j, j < 8 → cs[j]? = d.cells[j]? := by
  obtain ⟨xs, n', _, _, _, hl, hf⟩ := DataW.trod_struct Try.underlying58 h
  have hl : xs.length = 5 := hl
  obtain ⟨a0, c0, w0⟩ := int_field Try.underlying3 (by kernel_rfl) (by omega) (hf 0 _ rfl)
  obtain ⟨v1, y1, c1, t1⟩ := one_field (T := 4) (o := 1) (by kernel_rfl) (by omega) (by omega) (hf 1 _ rfl)
  obtain ⟨b1, e1, _⟩ := DataW.trod_bool Try.underlying4 t1
  obtain ⟨a2, c2, w2⟩ := int_field Try.underlying5 (by kernel_rfl) (by omega) (hf 2 _ rfl)
  obtain ⟨v3, y3, c3, t3⟩ := one_field (T := 52) (o := 3) (by kernel_rfl) (by omega) (by omega) (hf 3 _ rfl)
  obtain ⟨bs, hbs⟩ := bytes_of t3
  have h4 : DataW.trod enc Try.prog w 0 (fun _ => true) held n' 56 ((cs.drop 4).take (Try.prog.cellsOf 56)) = xs[4]? := hf 4 _ rfl
  have hcm : Try.prog.cellsOf 56 = 4 := by kernel_rfl
  rw [hcm, List.getElem?_eq_getElem (show 4 < xs.length by omega)] at h4
  obtain ⟨ys, m', _, _, _, hyl, hg⟩ := DataW.trod_struct Try.underlying56 h4
  have hyl : ys.length = 4 := hyl
  have hlen4 : ((cs.drop 4).take 4).length = 4 := by simp [hlen]
  obtain ⟨k0, d0, u0⟩ := int_field Try.underlying3 (by kernel_rfl) (by omega) (hg 0 _ rfl)
  obtain ⟨v5, z5, d1, t5⟩ := one_field (T := 53) (o := 1) (by kernel_rfl) (by omega) (by omega) (hg 1 _ rfl)
  obtain ⟨ns, hns, hnb⟩ := nums_of t5
  obtain ⟨v6, z6, d2, t6⟩ := one_field (T := 54) (o := 2) (by kernel_rfl) (by omega) (by omega) (hg 2 _ rfl)
  obtain ⟨al, has, hab⟩ := ads_of t6
  obtain ⟨v7, z7, d3, t7⟩ := one_field (T := 52) (o := 3) (by kernel_rfl) (by omega) (by omega) (hg 3 _ rfl)
  obtain ⟨xb, hxb⟩ := bytes_of t7
  have hr : 0 ≤ a2 ∧ a2 ≤ 255 := by simpa [Lit.wf, IntKind.min, IntKind.max, IntKind.signed, IntKind.bits] using w2
  obtain ⟨p, rfl⟩ := Int.eq_ofNat_of_zero_le hr.1
  have hd : ∀ k, k < 4 → ((cs.drop 4).take 4)[k]? = cs[4 + k]? := by
    intro k hk
    rw [List.getElem?_take, if_pos hk, List.getElem?_drop]
  have d0 := (hd 0 (by omega)).symm.trans d0
  have d1 := (hd 1 (by omega)).symm.trans d1
  have d2 := (hd 2 (by omega)).symm.trans d2
  have d3 := (hd 3 (by omega)).symm.trans d3
  have e1' : v1 = .bool b1 := by simpa using e1
  subst e1'
  refine ⟨⟨a0, b1, p, v3, bs, v5, v6, v7, ⟨k0, ns, al, xb⟩⟩, ⟨by dsimp only; omega, hbs, ⟨hns, has, hxb, ⟨hnb, hab⟩⟩, w0, u0⟩, ?_⟩
  intro j hj
  match j, hj with
  | 0, _ => exact c0
  | 1, _ => exact c1
  | 2, _ => exact c2
  | 3, _ => exact c3
  | 4, _ => exact d0
  | 5, _ => exact d1
  | 6, _ => exact d2
  | 7, _ => exact d3
theorem dos_of {fuel : Nat} {v : Value} {x : DataW H × List MemPlace} (h : DataW.trod enc Try.prog w 0 (fun _ => true) held fuel 43 [v] = some x) : ∃ D, DosAt w v D := by
  have hc : Try.prog.cellsOf 58 = 8 := by kernel_rfl
  rcases slice_elems Try.underlying43 h with h0 | ⟨a, len, cap, hcs, hl, hm, hi⟩
  · exact ⟨[], .inl ⟨none, 0, by simpa using h0, rfl⟩⟩
  · have hv : v = .slice (some a) len cap := by simpa using hcs
    subst hv
    rw [hc] at hi
    by_cases hz : len = 0
    · subst hz
      exact ⟨[], .inl ⟨_, _, rfl, rfl⟩⟩
    have hs : ∀ i, i < len → ∃ d : Dx, d.Ok w ∧ ∀ j, j < 8 → w.cell? (a.add (i * 8 + j)) = d.cells[j]? := by
      intro i hlt
      obtain ⟨n, cs', y, hat, hlen, ht⟩ := hi i (by omega)
      obtain ⟨d, k0, k1⟩ := do15_of ht hlen
      exact ⟨d, k0, fun j hj => (hat j hj).trans (k1 j hj)⟩
    have : Inhabited Dx := ⟨⟨0, false, 0, undef, [], undef, undef, undef, ⟨0, [], [], []⟩⟩⟩
    obtain ⟨f, hf⟩ := Go.Deep.choose_lt hs
    obtain ⟨b, off, sp⟩ := a
    have hc0 := (hf 0 (by omega)).2 0 (by omega)
    have e0 : (⟨b, off, sp⟩ : Addr).add (0 * 8 + 0) = ⟨b, off, sp⟩ := rfl
    rw [e0] at hc0
    have hsp : sp = none := spot_of_cell (v := .int .i64 (f 0).kind) hc0
    subst hsp
    have hb := World.block_lt_of_cell? w _ (hc0.trans (rfl : (f 0).cells[0]? = some (.int .i64 (f 0).kind)))
    have hlen : ((List.range len).map f).length = len := by simp
    refine ⟨(List.range len).map f, .inr ⟨b, off, cap, by rw [hlen], by rw [hlen]; omega, hb, ?_⟩⟩
    intro i d hd
    have hil : i < len := by
      have := (List.getElem?_eq_some_iff.1 hd).1
      simpa using this
    have e : f i = d := by simpa [hil] using hd
    have hj := hf i hil
    rw [e] at hj
    refine ⟨hj.1, fun j hjl => ?_⟩
    have := hj.2 j hjl
    rw [add_off] at this
    exact this
end
end Go.Proofs.Ytjfmgpelkhgodaa
