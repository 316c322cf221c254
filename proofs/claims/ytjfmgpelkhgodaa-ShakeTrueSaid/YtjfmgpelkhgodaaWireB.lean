/- The walks of wire.May's two predicates over the library's ContainsFunc. No condition but the arguments' kinds. -/
import Derived.Test.YtjfmgpelkhgodaaWireA
namespace Go.Proofs.Ytjfmgpelkhgodaa
open Go.RowKit
attribute [local go_sem ↓ high] run_min_whole run_max_whole

def u64s (l : List Nat) : List Value := l.map fun (n : Nat) => Value.int .u64 n
theorem u64s_length (l : List Nat) : (u64s l).length = l.length := by simp [u64s]
/-- A slice of addresses. -/
def AdsAt (w : World) (v : Value) (l : List Ad) : Prop :=
  (v = .slice none 0 0 ∧ l = []) ∨
  (∃ g off cap, v = .slice (some ⟨g, off, none⟩) l.length cap ∧ g < w.heap.size ∧ l.length ≤ cap ∧ cap ≤ maxLen ∧
    (∀ j a, l[j]? = some a → w.cell? ⟨g, off + j * 2, none⟩ = some (.int .u32 (a.host : Nat)) ∧ w.cell? ⟨g, off + j * 2 + 1, none⟩ = some (.int .i64 a.port))) ∨
  ∃ a, v = .slice (some a) 0 0 ∧ l = []
theorem AdsAt.fr {S : List Nat} {w w' : World} {v : Value} {l : List Ad} (h : AdsAt w v l) (hf : Fr S w w') (hS : ∀ g, v.ownBlock = some g → g ∉ S) : AdsAt w' v l := by
  rcases h with h | ⟨g, off, cap, rfl, hg, h1, h2, h3⟩ | h
  · exact .inl h
  · refine .inr (.inl ⟨g, off, cap, rfl, Nat.lt_of_lt_of_le hg hf.size, h1, h2, fun j a hj => ?_⟩)
    rw [← (h3 j a hj).1, ← (h3 j a hj).2]
    exact ⟨World.cell?_of_block (w := w) (hf.block g hg (hS g rfl)), World.cell?_of_block (w := w) (hf.block g hg (hS g rfl))⟩
  · exact .inr (.inr h)

set_option maxHeartbeats 800000 in
theorem wr_big (w : World) (v : Nat) (hv : v < 18446744073709551616) : Calls Try.prog 92 #[.int .u64 v] w fun e w' => e = .returned (.bool (decide (9223372036854775808 ≤ v))) ∧ w = w' := by
  by_cases h : 9223372036854775808 ≤ v
  · have hu : ulen v = 0 := ulen_zero.2 h
    rw [decide_eq_true h]
    go_enter Try.func92, Try.ntmps92
    go_wp2_with fail
    refine (uv_len _ v hv).mono ?_
    rw [hu]
    rintro e w' ⟨rfl, rfl⟩
    clear hu
    go_wp2
    go_returns
    exact ⟨rfl, rfl⟩
  · have hu : 1 ≤ ulen v := ulen_pos (by omega)
    rw [decide_eq_false h]
    clear h
    go_enter Try.func92, Try.ntmps92
    go_wp2_with fail
    refine (uv_len _ v hv).mono ?_
    rintro e w' ⟨rfl, rfl⟩
    have hb : ((ulen v : Int) == 0) = false := by
      rw [beq_eq_false_iff_ne]
      omega
    go_wp2
    go_returns
    exact ⟨rfl, rfl⟩
set_option maxHeartbeats 800000 in
theorem wr_ad (w : World) (a : Ad) : Calls Try.prog 95 #[adV a] w fun e w' => e = .returned (.bool (!decide (amay a))) ∧ Fr [] w w' := by
  obtain ⟨host, port⟩ := a
  unfold adV
  simp only
  have HD : Hid (∀ w, Calls Try.prog 96 #[.agg #[.int .u32 host, .int .i64 port]] w fun e w' => e = .returned (.bool (decide (amay ⟨host, port⟩))) ∧ Fr [] w w') := fun w => ad_may w ⟨host, port⟩
  generalize decide (amay ⟨host, port⟩) = d at *
  go_enter Try.func95, Try.ntmps95
  go_wp2_with fail
  refine (HD.out _).mono ?_
  rintro e w' ⟨rfl, hF⟩
  have HF : Hid (Fr [] w w') := (Fr.alloc _ _ _).trans hF
  clear hF
  go_wp2
  go_returns
  exact ⟨rfl, HF.out⟩

def HasIdx (p : Prop) (e : Ending) : Prop := ∃ r : Int, e = .returned (.int .i64 r) ∧ -1 ≤ r ∧ (0 ≤ r ↔ p)

set_option maxRecDepth 100000 in
set_option maxHeartbeats 800000 in
theorem wr_big_idx (w : World) (nv : Value) (l : List Nat) (hl : ∀ v ∈ l, v < 18446744073709551616) (h : SlEx w nv (u64s l)) :
    Calls Try.prog 121 #[nv, .func (.func 92) #[] #[]] w fun e w' => HasIdx (∃ v ∈ l, 9223372036854775808 ≤ v) e ∧ w = w' := by
  rcases h with (⟨rfl, hx⟩ | ⟨g, off, cap, rfl, hg, h1, h2, h3⟩) | ⟨ad, rfl, hx⟩
  · have : l = [] := by simpa [u64s] using hx
    subst this
    go_enter Try.func121, Try.ntmps121
    go_wp2
    go_rounds 1
    go_returns
    exact ⟨⟨_, rfl, by simp, by simp⟩, rfl⟩
  rotate_left
  · have : l = [] := by simpa [u64s] using hx
    subst this
    go_enter Try.func121, Try.ntmps121
    go_wp2
    go_rounds 1
    go_returns
    exact ⟨⟨_, rfl, by simp, by simp⟩, rfl⟩
  · rw [u64s_length] at h1 h3 ⊢
    have H3 := Lib.hid h3
    have HL := Lib.hid hl
    clear h3 hl
    unfold maxLen at h2
    go_enter Try.func121, Try.ntmps121
    go_wp2
    go_loop [8] (fun i => ∃ k : Nat, k ≤ l.length ∧ i = .int .i64 k ∧ ∀ j, j < k → l.getD j 0 < 9223372036854775808) (fun i => l.length - (intOf i).toNat)
    case atStart => exact ⟨0, Nat.zero_le _, rfl, by intro j hj; omega⟩
    case round =>
      obtain ⟨k, hkl, rfl, hno⟩ := hrel
      have HN := Lib.hid hno
      clear hno
      by_cases hlt : k < l.length
      · have hc : w.cell? ⟨g, off + k, none⟩ = some (.int .u64 (l.getD k 0 : Nat)) := by
          rw [H3.out k hlt]
          simp [u64s, hlt, List.getD]
        have hv : l.getD k 0 < 18446744073709551616 := HL.out _ (by
          have : l.getD k 0 = l[k] := by simp [List.getD, hlt]
          rw [this]
          exact List.getElem_mem hlt)
        have HM : Hid (l.getD k 0 ∈ l) := by
          have : l.getD k 0 = l[k] := by simp [List.getD, hlt]
          show _ ∈ _
          rw [this]
          exact List.getElem_mem hlt
        generalize hq : l.getD k 0 = q at hc hv HM
        have HQ := Lib.hid hq
        clear hq
        have hlt' : (k : Int) < (l.length : Int) := by omega
        by_cases hb : 9223372036854775808 ≤ q
        · have HD := Lib.hid (decide_eq_true hb)
          have HB := Lib.hid hb
          clear hb
          go_wp2_with (go_at_call 92; refine (wr_big _ q hv).mono ?_; rw [HD.out]; rintro e w' ⟨rfl, rfl⟩)
          go_returns
          exact ⟨⟨_, rfl, by omega, ⟨fun _ => ⟨q, HM.out, HB.out⟩, fun _ => by omega⟩⟩, rfl⟩
        · have HD := Lib.hid (decide_eq_false hb)
          have HB := Lib.hid hb
          clear hb
          go_wp2_with (go_at_call 92; refine (wr_big _ q hv).mono ?_; rw [HD.out]; rintro e w' ⟨rfl, rfl⟩)
          go_round
          case rel =>
            refine ⟨k + 1, by omega, by go_num, fun j hj => ?_⟩
            by_cases hjk : j = k
            · rw [hjk, HQ.out]
              have := HB.out
              omega
            · exact HN.out j (by omega)
          case measure =>
            simp [intOf]
            omega
      · have hlt' : ¬ (k : Int) < (l.length : Int) := by omega
        go_wp2
        go_returns
        refine ⟨⟨_, rfl, by omega, ⟨fun h => by omega, ?_⟩⟩, rfl⟩
        rintro ⟨v, hv, hb⟩
        obtain ⟨j, hj, rfl⟩ := List.getElem_of_mem hv
        have := HN.out j (by omega)
        simp [List.getD, hj] at this
        omega

set_option maxRecDepth 100000 in
set_option maxHeartbeats 800000 in
theorem wr_ad_idx (w : World) (av : Value) (l : List Ad) (h : AdsAt w av l) :
    Calls Try.prog 123 #[av, .func (.func 95) #[] #[]] w fun e w' => HasIdx (∃ a ∈ l, ¬ amay a) e ∧ Fr [] w w' := by
  rcases h with ⟨rfl, rfl⟩ | ⟨g, off, cap, rfl, hg, h1, h2, h3⟩ | ⟨ad, rfl, rfl⟩
  · go_enter Try.func123, Try.ntmps123
    go_wp2
    go_rounds 1
    go_returns
    exact ⟨⟨_, rfl, by simp, by simp⟩, Fr.refl _ _⟩
  rotate_left
  · go_enter Try.func123, Try.ntmps123
    go_wp2
    go_rounds 1
    go_returns
    exact ⟨⟨_, rfl, by simp, by simp⟩, Fr.refl _ _⟩
  · have H3 := Lib.hid h3
    clear h3
    unfold maxLen at h2
    go_enter Try.func123, Try.ntmps123
    go_wp2
    go_loopw [8] (fun i wr => ∃ k : Nat, k ≤ l.length ∧ i = .int .i64 k ∧ (∀ j a, j < k → l[j]? = some a → amay a) ∧ Fr [] w wr) (fun i _ => l.length - (intOf i).toNat)
    case atStart => exact ⟨0, Nat.zero_le _, rfl, by intro j a hj; omega, Fr.refl _ _⟩
    case round =>
      obtain ⟨k, hkl, rfl, hno, hF⟩ := hrel
      have HN := Lib.hid hno
      have HF := Lib.hid hF
      clear hno hF
      by_cases hlt : k < l.length
      · obtain ⟨a, ha⟩ : ∃ a, l[k]? = some a := ⟨_, List.getElem?_eq_getElem hlt⟩
        obtain ⟨d0, d1⟩ := H3.out k a ha
        have HM : Hid (a ∈ l) := List.mem_of_getElem? ha
        have HA := Lib.hid ha
        clear ha
        have c0 : wr.cell? ⟨g, off + k * 2, none⟩ = some (.int .u32 (a.host : Nat)) := (World.cell?_of_block (w := w) (HF.out.block g hg (by simp))).trans d0
        have c1 : wr.cell? ⟨g, off + k * 2 + 1, none⟩ = some (.int .i64 a.port) := (World.cell?_of_block (w := w) (HF.out.block g hg (by simp))).trans d1
        clear d0 d1
        have hlt' : (k : Int) < (l.length : Int) := by omega
        have HC : Hid (∀ w, Calls Try.prog 95 #[.agg #[.int .u32 a.host, .int .i64 a.port]] w fun e w' => e = .returned (.bool (!decide (amay a))) ∧ Fr [] w w') := fun w => wr_ad w a
        by_cases hb : amay a
        · rw [decide_eq_true hb] at HC
          have HB := Lib.hid hb
          clear hb
          go_wp2_with fail
          refine (HC.out _).mono ?_
          rintro e w2 ⟨rfl, hF2⟩
          have HF2 : Hid (Fr [] w w2) := HF.out.trans hF2
          clear hF2
          go_wp2
          go_roundw
          case rel =>
            refine ⟨k + 1, by omega, by go_num, fun j b hj hb => ?_, HF2.out⟩
            by_cases hjk : j = k
            · subst hjk
              rw [HA.out] at hb
              cases hb
              exact HB.out
            · exact HN.out j b (by omega) hb
          case measure =>
            simp [intOf]
            omega
        · rw [decide_eq_false hb] at HC
          have HB := Lib.hid hb
          clear hb
          go_wp2_with fail
          refine (HC.out _).mono ?_
          rintro e w2 ⟨rfl, hF2⟩
          have HF2 : Hid (Fr [] w w2) := HF.out.trans hF2
          clear hF2
          go_wp2
          go_returns
          exact ⟨⟨_, rfl, by omega, ⟨fun _ => ⟨a, HM.out, HB.out⟩, fun _ => by omega⟩⟩, HF2.out⟩
      · have hlt' : ¬ (k : Int) < (l.length : Int) := by omega
        go_wp2
        go_returns
        refine ⟨⟨_, rfl, by omega, ⟨fun h => by omega, ?_⟩⟩, HF.out⟩
        rintro ⟨a, ha, hb⟩
        obtain ⟨j, hj, rfl⟩ := List.getElem_of_mem ha
        exact absurd (HN.out j _ (by omega) (List.getElem?_eq_getElem hj)) hb

/-- A Bool that says p. -/
def Says (d : Bool) (p : Prop) : Prop := d = true ↔ p
theorem hd_of {d : Bool} {p : Prop} {r : Int} (hd : d = true ↔ p) (hi : 0 ≤ r ↔ p) : d = decide (0 ≤ r) := by
  cases d with
  | true => exact (decide_eq_true (hi.2 (hd.1 rfl))).symm
  | false => exact (decide_eq_false (fun h => by have := hd.2 (hi.1 h); cases this)).symm

set_option maxHeartbeats 800000 in
theorem wr_big_has (w : World) (sv : Value) (l : List Nat) (hl : ∀ v ∈ l, v < 18446744073709551616) (h : SlEx w sv (u64s l)) (d : Bool) (hd : Says d (∃ v ∈ l, 9223372036854775808 ≤ v)) :
    Calls Try.prog 91 #[sv, .func (.func 92) #[] #[]] w fun e w' => e = .returned (.bool d) ∧ Fr [] w w' := by
  have HD := Lib.hid hd
  have H := Lib.hid h
  have HL := Lib.hid hl
  clear h hd hl
  go_enter Try.func91, Try.ntmps91
  go_wp2_with fail
  refine (wr_big_idx _ _ l HL.out H.out).mono ?_
  rintro e w' ⟨⟨r, rfl, hr, hi⟩, rfl⟩
  have HF : Hid (Fr [] w w) := Fr.refl _ _
  have HI := Lib.hid (hd_of HD.out hi)
  clear hi
  go_wp2
  go_returns
  exact ⟨by rw [HI.out]; rfl, HF.out⟩

set_option maxHeartbeats 800000 in
theorem wr_ad_has (w : World) (sv : Value) (l : List Ad) (h : AdsAt w sv l) (d : Bool) (hd : Says d (∃ a ∈ l, ¬ amay a)) :
    Calls Try.prog 94 #[sv, .func (.func 95) #[] #[]] w fun e w' => e = .returned (.bool d) ∧ Fr [] w w' := by
  have HD := Lib.hid hd
  have H := Lib.hid h
  clear h hd
  go_enter Try.func94, Try.ntmps94
  go_wp2_with fail
  refine (wr_ad_idx _ _ l H.out).mono ?_
  rintro e w' ⟨⟨r, rfl, hr, hi⟩, hF⟩
  have HF := Lib.hid hF
  clear hF
  have HI := Lib.hid (hd_of HD.out hi)
  clear hi
  go_wp2
  go_returns
  exact ⟨by rw [HI.out]; rfl, HF.out⟩

end Go.Proofs.Ytjfmgpelkhgodaa
