/- The walks of package addr: May, Bytes, FromBytes. No condition but the arguments' kinds. -/
import Derived.Test.YtjfmgpelkhgodaaUget
namespace Go.Proofs.Ytjfmgpelkhgodaa
open Go.RowKit
attribute [local go_sem ↓ high] run_min_whole run_max_whole

def adV (a : Ad) : Value := .agg #[.int .u32 a.host, .int .i64 a.port]

set_option maxHeartbeats 800000 in
theorem ad_may (w : World) (a : Ad) : Calls Try.prog 96 #[adV a] w fun e w' => e = .returned (.bool (decide (amay a))) ∧ Fr [] w w' := by
  obtain ⟨host, port⟩ := a
  unfold adV
  simp only
  by_cases h0 : host = 0
  · subst h0
    have hb : decide (amay ⟨0, port⟩) = false := by simp [amay]
    rw [hb]
    clear hb
    go_enter Try.func96, Try.ntmps96
    go_wp2
    go_returns
    exact ⟨rfl, Fr.alloc _ _ _⟩
  · have h0' : ((host : Int) != 0) = true := by rw [bne_iff_ne]; omega
    have hb : decide (amay ⟨host, port⟩) = (decide (1 ≤ port) && decide (port ≤ 65535)) := by simp [amay, h0]
    rw [hb]
    clear hb h0
    go_enter Try.func96, Try.ntmps96
    by_cases h1 : 1 ≤ port
    · go_wp2
      go_returns
      refine ⟨?_, Fr.alloc _ _ _⟩
      simp [h1]
    · have h1' : decide (1 ≤ port) = false := by simpa using h1
      go_wp2
      go_returns
      refine ⟨?_, Fr.alloc _ _ _⟩
      simp

set_option maxRecDepth 100000 in
set_option maxHeartbeats 1600000 in
theorem ad_bytes (w : World) (a : Ad) (ha : amay a) (hh : a.host < 4294967296) : Calls Try.prog 56 #[adV a] w fun e w' => ByteOwn w w' (abytes a) e ∧ Fr [] w w' := by
  have HA := Lib.hid ha
  have hp1 := ha.2.1
  have hp2 := ha.2.2
  obtain ⟨host, port⟩ := a
  simp only at hp1 hp2
  clear ha
  unfold adV
  simp only
  go_enter Try.func56, Try.ntmps56
  go_wp2_with fail
  refine (ad_may _ ⟨host, port⟩).mono ?_
  rw [show decide (amay ⟨host, port⟩) = true from decide_eq_true HA.out]
  rintro e w1 ⟨rfl, hF⟩
  have hC := (Cells.new w 114 [.int .u32 host, .int .i64 port]).fr hF (by simp)
  have c0 := hC.cell 0
  have c1 := hC.cell 1
  simp only [List.getElem?_cons_zero, List.getElem?_cons_succ] at c0 c1
  have hF' : Fr [] w w1 := (Fr.alloc _ _ _).trans hF
  have HF := Lib.hid hF'
  clear hF hF' hC
  go_wp2
  go_returns
  refine ⟨⟨_, rfl, ?_, ?_⟩, HF.out.calloc _⟩
  · have hle := HF.out.size
    refine own_as (own_lit w1 w.heap.size 5 [.int .u8 (host / 16777216), .int .u8 (host / 65536 % 256), .int .u8 (host / 256 % 256), .int .u8 (host % 256), .int .u8 (port / 256), .int .u8 (port % 256)] hle (by simp [maxLen])) ?_
    obtain ⟨p, rfl⟩ := Int.eq_ofNat_of_zero_le (show 0 ≤ port by omega)
    unfold u8s abytes
    simp only [List.map_cons, List.map_nil, Int.toNat_natCast]
    rw [u8_of _ (by omega), u8_of _ (by omega), u8_of _ (by omega), u8_of _ (by omega), u8_of _ (by omega), u8_of _ (by omega)]
    congr <;> omega
  · simp

/-- The host, and the port, behind k bytes. -/
def hAt (l : List UInt8) : Nat → Nat
  | 0 => 0
  | k + 1 => if k < 4 then hAt l k * 256 + (l.getD k 0).toNat else hAt l k
def pAt (l : List UInt8) : Nat → Nat
  | 0 => 0
  | k + 1 => if k < 4 then pAt l k else pAt l k * 256 + (l.getD k 0).toNat
theorem hAt_lt (l : List UInt8) (k : Nat) (h : k < 4) : hAt l k < 16777216 := by
  have h0 := (l.getD 0 0).toNat_lt
  have h1 := (l.getD 1 0).toNat_lt
  have h2 := (l.getD 2 0).toNat_lt
  have e1 : hAt l 1 = 0 * 256 + (l.getD 0 0).toNat := rfl
  have e2 : hAt l 2 = hAt l 1 * 256 + (l.getD 1 0).toNat := rfl
  have e3 : hAt l 3 = hAt l 2 * 256 + (l.getD 2 0).toNat := rfl
  have e0 : hAt l 0 = 0 := rfl
  match k, h with
  | 0, _ => omega
  | 1, _ => omega
  | 2, _ => omega
  | 3, _ => omega
theorem pAt_lt (l : List UInt8) (k : Nat) (h : k < 6) : pAt l k < 256 := by
  have h4 := (l.getD 4 0).toNat_lt
  have e0 : pAt l 0 = 0 := rfl
  have e1 : pAt l 1 = 0 := rfl
  have e2 : pAt l 2 = 0 := rfl
  have e3 : pAt l 3 = 0 := rfl
  have e4 : pAt l 4 = 0 := rfl
  have e5 : pAt l 5 = 0 * 256 + (l.getD 4 0).toNat := rfl
  match k, h with
  | 0, _ => omega
  | 1, _ => omega
  | 2, _ => omega
  | 3, _ => omega
  | 4, _ => omega
  | 5, _ => omega
theorem ad_at (l : List UInt8) (hl : l.length = 6) : afrom l = if amay ⟨hAt l 6, (pAt l 6 : Nat)⟩ then (⟨hAt l 6, (pAt l 6 : Nat)⟩, 0) else (⟨0, 0⟩, 3) := by
  match l, hl with
  | [b0, b1, b2, b3, b4, b5], _ =>
    have e : (⟨hAt [b0, b1, b2, b3, b4, b5] 6, (pAt [b0, b1, b2, b3, b4, b5] 6 : Nat)⟩ : Ad) = afrom6 b0 b1 b2 b3 b4 b5 := by
      simp [hAt, pAt, afrom6]
    rw [e]
    rfl
theorem or_u32 (h c : Nat) (hh : h < 16777216) (hc : c < 256) : bits .or .u32 ((h : Int) * 256) (c : Int) = ((h * 256 + c : Nat) : Int) := by
  rw [show ((h : Int) * 256) = ((h * 256 : Nat) : Int) from by omega, u32_or_nat _ _ (by omega) (by omega), nat_join 8 _ _ (by omega) (by omega)]
theorem i64_or_nat (a b : Nat) (ha : a < 9223372036854775808) (hb : b < 9223372036854775808) : bits .or .i64 (a : Int) (b : Int) = ((a ||| b : Nat) : Int) := by
  have hx : a ||| b < 2 ^ 63 := Nat.or_lt_two_pow (by omega) (by omega)
  show IntKind.i64.wrap ((BitVec.ofInt 64 (a : Int) ||| BitVec.ofInt 64 (b : Int)).toNat : Int) = _
  rw [BitVec.toNat_or, ofInt_u64 a (by omega), ofInt_u64 b (by omega)]
  exact IntWalk.i64_in _ (by omega)
theorem or_i64 (h c : Nat) (hh : h < 256) (hc : c < 256) : bits .or .i64 ((h : Int) * 256) (c : Int) = ((h * 256 + c : Nat) : Int) := by
  rw [show ((h : Int) * 256) = ((h * 256 : Nat) : Int) from by omega, i64_or_nat _ _ (by omega) (by omega), nat_join 8 _ _ (by omega) (by omega)]

def AdGot (l : List UInt8) (e : Ending) : Prop := e = .returned (.tuple #[adV (afrom l).1, .int .i64 (afrom l).2])

set_option maxRecDepth 100000 in
set_option maxHeartbeats 1600000 in
theorem ad_from_six (w : World) (l : List UInt8) (g off cap : Nat) (hl : l.length = 6) (hg : g < w.heap.size) (hcells : ∀ j, j < l.length → w.cell? ⟨g, off + j, none⟩ = (u8s l)[j]?) :
    Calls Try.prog 100 #[.slice (some ⟨g, off, none⟩) 6 cap] w fun e w' => AdGot l e ∧ Fr [] w w' := by
  have HC := Lib.hid hcells
  have HL := Lib.hid hl
  clear hcells hl
  go_enter Try.func100, Try.ntmps100
  go_wp2_with fail
  generalize hB : w.heap.size = B
  have HB := Lib.hid hB
  clear hB
  have hgB : g < B := by rw [← HB.out]; exact hg
  go_loopw [13] (fun t wr => ∃ k : Nat, k ≤ 6 ∧ t = .int .i64 k ∧ Cells wr B 114 [.int .u32 0, .int .i64 0] ∧ Cells wr (B + 1) 114 [.int .u32 (hAt l k), .int .i64 (pAt l k)] ∧ Fr [] w wr) (fun t _ => 6 - (intOf t).toNat)
  case atStart =>
    have h1 := Cells.new w 114 [.int .u32 0, .int .i64 0]
    have h2 := Cells.new (w.alloc (.cells #[.int .u32 0, .int .i64 0] 114)) 114 [.int .u32 0, .int .i64 0]
    rw [World.size_alloc, HB.out] at h2
    rw [HB.out] at h1
    exact ⟨0, by omega, rfl, h1.alloc _, h2, ((Fr.refl _ _).calloc _).calloc _⟩
  case round =>
    obtain ⟨k, hk, rfl, hC0, hC1, hF⟩ := hrel
    have HC0 := Lib.hid hC0
    have HC1 := Lib.hid hC1
    have HF := Lib.hid hF
    have d0 := hC1.cell 0
    have d1 := hC1.cell 1
    simp only [List.getElem?_cons_zero, List.getElem?_cons_succ] at d0 d1
    have f0 := hC1.frozen 0
    have f1 := hC1.frozen 1
    clear hC0 hC1 hF
    by_cases hlt : k < 6
    · have hcell : wr.cell? ⟨g, off + k, none⟩ = some (.int .u8 (l.getD k 0).toNat) := by
        have h1 : wr.cell? ⟨g, off + k, none⟩ = w.cell? ⟨g, off + k, none⟩ := World.cell?_of_block (w := w) (HF.out.block g hg (by simp))
        have hl := HL.out
        rw [h1, HC.out k (by omega)]
        simp [u8s, List.getD, show k < l.length by omega]
      have hc256 := (l.getD k 0).toNat_lt
      have hlt' : (k : Int) < 6 := by omega
      by_cases h4 : k < 4
      · have h4' : (k : Int) < 4 := by omega
        have hh := hAt_lt l k h4
        have HS : Hid (bits .or .u32 ((hAt l k : Int) * 256) ((l.getD k 0).toNat : Int) = ((hAt l (k + 1) : Nat) : Int)) := by
          show _ = _
          rw [or_u32 _ _ hh hc256]
          simp only [hAt, if_pos h4]
        have HP : Hid (pAt l (k + 1) = pAt l k) := by
          show _ = _
          simp only [pAt, if_pos h4]
        generalize hAt l k = H at *
        generalize pAt l k = P at *
        generalize (l.getD k 0).toNat = C at *
        go_wp2
        go_roundw
        case rel =>
          refine ⟨k + 1, by omega, by go_num, HC0.out.other _ _ (by simp), ?_, HF.out.cset _ _ (by right; simp; have := HB.out; omega)⟩
          rw [HP.out, ← HS.out]
          exact (HC1.out.set 0 _).as rfl
        case measure =>
          simp [intOf]
          omega
      · have h4' : ¬ (k : Int) < 4 := by omega
        have hh := pAt_lt l k hlt
        have HS : Hid (bits .or .i64 ((pAt l k : Int) * 256) ((l.getD k 0).toNat : Int) = ((pAt l (k + 1) : Nat) : Int)) := by
          show _ = _
          rw [or_i64 _ _ hh hc256]
          simp only [pAt, if_neg h4]
        have HP : Hid (hAt l (k + 1) = hAt l k) := by
          show _ = _
          simp only [hAt, if_neg h4]
        generalize hAt l k = H at *
        generalize pAt l k = P at *
        generalize (l.getD k 0).toNat = C at *
        go_wp2
        go_roundw
        case rel =>
          refine ⟨k + 1, by omega, by go_num, HC0.out.other _ _ (by simp), ?_, HF.out.cset _ _ (by right; simp; have := HB.out; omega)⟩
          rw [HP.out, ← HS.out]
          exact (HC1.out.set 1 _).as rfl
        case measure =>
          simp [intOf]
          omega
    · obtain rfl : k = 6 := by omega
      rw [show ((6 : Nat) : Int) = 6 from rfl]
      have HA := Lib.hid (ad_at l HL.out)
      generalize hAt l 6 = H at *
      generalize pAt l 6 = P at *
      go_wp2_with fail
      refine (ad_may _ ⟨H, (P : Int)⟩).mono ?_
      by_cases hm : amay ⟨H, (P : Int)⟩
      · rw [decide_eq_true hm]
        rw [if_pos hm] at HA
        rintro e w2 ⟨rfl, hF2⟩
        have hC0 := HC0.out.fr hF2 (by simp)
        have hC1 := HC1.out.fr hF2 (by simp)
        have e0 := hC1.cell 0
        have e1 := hC1.cell 1
        have r0 := hC0.cell 0
        have r1 := hC0.cell 1
        simp only [List.getElem?_cons_zero, List.getElem?_cons_succ] at e0 e1 r0 r1
        have q0 := hC0.frozen 0
        have q1 := hC0.frozen 1
        have HF2 : Hid (Fr [] w w2) := HF.out.trans hF2
        clear hC0 hC1 hF2 hm
        go_wp2
        refine bodyPost_ret (v := .tuple #[.agg #[.int .u32 H, .int .i64 P], .int .i64 0]) (by simp [results, Try.results100, go_sem, r0, r1]) rfl ⟨?_, ?_⟩
        · rw [AdGot, HA.out]
          rfl
        · exact (HF2.out.cset _ _ (by right; simp; have := HB.out; omega)).cset _ _ (by right; simp; have := HB.out; omega)
      · rw [decide_eq_false hm]
        rw [if_neg hm] at HA
        rintro e w2 ⟨rfl, hF2⟩
        have hC0 := HC0.out.fr hF2 (by simp)
        have r0 := hC0.cell 0
        have r1 := hC0.cell 1
        simp only [List.getElem?_cons_zero, List.getElem?_cons_succ] at r0 r1
        have q0 := hC0.frozen 0
        have q1 := hC0.frozen 1
        have HF2 : Hid (Fr [] w w2) := HF.out.trans hF2
        clear hC0 hF2 hm
        go_wp2
        refine bodyPost_ret (v := .tuple #[.agg #[.int .u32 0, .int .i64 0], .int .i64 3]) (by simp [results, Try.results100, go_sem, r0, r1]) rfl ⟨?_, ?_⟩
        · rw [AdGot, HA.out]
          rfl
        · exact (HF2.out.cset _ _ (by right; simp; have := HB.out; omega)).cset _ _ (by right; simp; have := HB.out; omega)
end Go.Proofs.Ytjfmgpelkhgodaa
