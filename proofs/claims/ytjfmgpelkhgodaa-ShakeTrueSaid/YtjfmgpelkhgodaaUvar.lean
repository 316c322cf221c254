/- The walks of package uvar: Len, Put, Get. No condition but the arguments' kinds. -/
import Derived.Test.YtjfmgpelkhgodaaModelB
import Derived.Test.YtjfmgpelkhgodaaBase
import Derived.Test.YtjfmgpelkhgodaaShelf
import Derived.Test.YtjfmgpelkhgodaaChecked
import Derived.Lib.BitFns
namespace Go.Proofs.Ytjfmgpelkhgodaa
open Go.RowKit
attribute [local go_sem ↓ high] run_min_whole run_max_whole

theorem bitLen_pos (x : Nat) (h0 : x ≠ 0) (h : x < 2 ^ 64) : 1 ≤ Lib.bitLen x := by
  rw [Lib.bitLen_half x h0 h]
  omega
theorem ulen_step (v k : Nat) (hk : k ≤ 56) (h1 : 2 ^ k ≤ v) (h2 : v < 2 ^ (k + 7)) : k + 1 ≤ Lib.bitLen v ∧ Lib.bitLen v ≤ k + 7 := by
  have h64 : v < 2 ^ 64 := Nat.lt_of_lt_of_le h2 (Nat.pow_le_pow_right (by omega) (by omega))
  refine ⟨?_, Lib.bitLen_le v (k + 7) (by omega) h2⟩
  rw [Lib.bitLen_shift k v h1 h64]
  have hq : v / 2 ^ k ≠ 0 := by
    have : 1 ≤ v / 2 ^ k := (Nat.le_div_iff_mul_le (Nat.two_pow_pos k)).2 (by omega)
    omega
  have := bitLen_pos (v / 2 ^ k) hq (Nat.lt_of_le_of_lt (Nat.div_le_self _ _) h64)
  omega
theorem ulen_bits {v : Nat} (hv : v < 9223372036854775808) : max 1 (((Lib.bitLen v : Int) + 7 - 1) / 7) = (ulen v : Int) := by
  unfold ulen
  by_cases h1 : v < 128
  · rw [if_pos h1]
    have := Lib.bitLen_le v 7 (by omega) h1
    omega
  rw [if_neg h1]
  by_cases h2 : v < 16384
  · rw [if_pos h2]
    have := ulen_step v 7 (by omega) (by omega) h2
    omega
  rw [if_neg h2]
  by_cases h3 : v < 2097152
  · rw [if_pos h3]
    have := ulen_step v 14 (by omega) (by omega) h3
    omega
  rw [if_neg h3]
  by_cases h4 : v < 268435456
  · rw [if_pos h4]
    have := ulen_step v 21 (by omega) (by omega) h4
    omega
  rw [if_neg h4]
  by_cases h5 : v < 34359738368
  · rw [if_pos h5]
    have := ulen_step v 28 (by omega) (by omega) h5
    omega
  rw [if_neg h5]
  by_cases h6 : v < 4398046511104
  · rw [if_pos h6]
    have := ulen_step v 35 (by omega) (by omega) h6
    omega
  rw [if_neg h6]
  by_cases h7 : v < 562949953421312
  · rw [if_pos h7]
    have := ulen_step v 42 (by omega) (by omega) h7
    omega
  rw [if_neg h7]
  by_cases h8 : v < 72057594037927936
  · rw [if_pos h8]
    have := ulen_step v 49 (by omega) (by omega) h8
    omega
  rw [if_neg h8, if_pos hv]
  have := ulen_step v 56 (by omega) (by omega) hv
  omega

set_option maxHeartbeats 800000 in
theorem uv_len (w : World) (v : Nat) (hv : v < 18446744073709551616) :
    Calls Try.prog 93 #[.int .u64 v] w fun e w' => e = .returned (.int .i64 (ulen v)) ∧ w = w' := by
  by_cases h : v < 9223372036854775808
  · have HB := Lib.hid (ulen_bits h)
    have hle : Lib.bitLen v ≤ 64 := Lib.bitLen_le v 64 (by omega) (by omega)
    have ht : ((v : Int) / 9223372036854775808 == 1) = false := by
      rw [beq_eq_false_iff_ne]
      omega
    go_enter Try.func93, Try.ntmps93
    go_wp2_with fail
    refine (Try.bits_Len64 (v : Int) _ (by omega) (by omega)).mono ?_
    rintro e w' ⟨rfl, hw⟩
    subst hw
    rw [Int.toNat_natCast]
    generalize Lib.bitLen v = q at hle HB
    go_wp2
    go_returns
    refine ⟨?_, rfl⟩
    rw [← HB.out]
    rfl
  · have ht : ((v : Int) / 9223372036854775808 == 1) = true := by
      rw [beq_iff_eq]
      omega
    have h0 : ulen v = 0 := ulen_zero.2 (by omega)
    rw [h0]
    go_enter Try.func93, Try.ntmps93
    go_wp2
    go_returns
    exact ⟨rfl, rfl⟩

theorem Try.info_u8 : (Try.prog.info? 5).map (fun i => (i.zero, i.size, i.bytes)) = some (some (.int .u8 0), 1, 1) := by kernel_rfl

def u8s (l : List UInt8) : List Value := l.map fun c => Value.int .u8 c.toNat
theorem u8s_length (l : List UInt8) : (u8s l).length = l.length := by simp [u8s]
theorem u8s_append (l m : List UInt8) : u8s (l ++ m) = u8s l ++ u8s m := by simp [u8s]

theorem piece_low (v i : Nat) : ((v : Int) / 2 ^ (7 * i) % 256) = ((v / 128 ^ i % 256 : Nat) : Int) := by
  have e : (2 : Int) ^ (7 * i) = ((128 ^ i : Nat) : Int) := by
    rw [Int.pow_mul]
    simp
  rw [e]
  omega
theorem piece_and (x : Nat) (hx : x < 256) : bits .andNot .u8 (x : Int) 128 = ((x % 128 : Nat) : Int) := by
  have h : ∀ x : Fin 256, bits .andNot .u8 ((x.val : Nat) : Int) 128 = ((x.val % 128 : Nat) : Int) := by decide +kernel
  exact h ⟨x, hx⟩
theorem piece_or (x : Nat) (hx : x < 128) : bits .or .u8 (x : Int) 128 = ((x + 128 : Nat) : Int) := by
  have h : ∀ x : Fin 128, bits .or .u8 ((x.val : Nat) : Int) 128 = ((x.val + 128 : Nat) : Int) := by decide +kernel
  exact h ⟨x, hx⟩
theorem piece_mid (v n i : Nat) (h : i + 1 < n) : bits .or .u8 (bits .andNot .u8 ((v : Int) / 2 ^ (7 * i) % 256) 128) 128 = ((upiece v n i).toNat : Int) := by
  rw [piece_low, piece_and _ (by omega), piece_or _ (by omega)]
  unfold upiece
  rw [if_pos h, u8_of _ (by omega)]
  omega
theorem piece_end (v n i : Nat) (h : ¬ i + 1 < n) : bits .andNot .u8 ((v : Int) / 2 ^ (7 * i) % 256) 128 = ((upiece v n i).toNat : Int) := by
  rw [piece_low, piece_and _ (by omega)]
  unfold upiece
  rw [if_neg h, u8_of _ (by omega)]
  omega

def ByteOwn (w0 w : World) (l : List UInt8) (e : Ending) : Prop := ∃ v, e = .returned v ∧ w.ownsRow w0.heap.size 5 1 v l.length (u8s l) ∧ v ≠ .slice none 0 0

set_option maxRecDepth 100000 in
set_option maxHeartbeats 1600000 in
theorem uv_put (w : World) (v : Nat) (hv : v < 18446744073709551616) :
    Calls Try.prog 55 #[.int .u64 v] w fun e w' => ByteOwn w w' (uput v) e ∧ Fr [] w w' := by
  have h9 := ulen_le v
  obtain ⟨i0, hi, hz0, hz1, hz2⟩ := info_parts Try.info_u8
  go_enter Try.func55, Try.ntmps55
  go_wp2_with fail
  refine (uv_len _ v hv).mono ?_
  rintro e w' ⟨rfl, rfl⟩
  generalize hn : ulen v = n at h9 ⊢
  have HN := Lib.hid hn
  clear hn
  go_wp2_with (at_make; refine wpList_make_own _ rfl _ _ 52 rfl w.heap.size 5 i0 (.int .u8 0) 1 Try.underlying52 hi hz0 hz1 _ _ _ n rfl rfl rfl ?b2 ?b3 (Nat.le_refl _) ?_)
  case b2 => rw [hz2]; omega
  case b3 => unfold maxLen; omega
  intro w1 hown hgrow
  have HOWN := Lib.hid hown
  have HF : Hid (Fr [] w w1) := (Fr.refl _ _).cgrown hgrow (by intro k hk; cases hk)
  clear hown hgrow
  go_wp2_with fail
  go_loopw [4, 12] (fun o t wr => ∃ i : Nat, i ≤ n ∧ t = .int .i64 i ∧ wr.ownsRow w.heap.size 5 1 o i (u8s ((List.range i).map (upiece v n))) ∧ o ≠ .slice none 0 0 ∧ Fr [] w wr) (fun _ t _ => n - (intOf t).toNat)
  case atStart => exact ⟨0, by omega, rfl, HOWN.out, by simp, HF.out⟩
  case round =>
    clear HOWN HF
    obtain ⟨i, hin, rfl, hown, hne, hF⟩ := hrel
    have HOWN := Lib.hid hown
    have HF := Lib.hid hF
    have HNE := Lib.hid hne
    clear hown hF hne
    by_cases h4 : i < n
    · by_cases h5 : i + 1 < n
      · have h5' : (i : Int) + 1 < n := by omega
        go_wp2_with (at_builtin; refine wpList_append_own _ rfl _ _ 52 rfl w.heap.size 5 i0 (.int .u8 0) 1 1 Try.underlying52 hi hz0 hz1 hz2 rfl (by decide) u4 i (u8s ((List.range i).map (upiece v n))) rfl (HOWN.out.alloc _) ⟨wr.heap.size, 0, none⟩ 1 1 [.int .u8 (bits .or .u8 (bits .andNot .u8 ((v : Int) / 2 ^ (7 * i) % 256) 128) 128)] rfl rfl (cell_one_new _ _ _) (one_int _ _) (by unfold maxLen; omega) (by omega) ?c5 ?_)
        case c5 =>
          have := HF.out.size
          simp
          omega
        intro v' w2 hown' hgrow hnil
        rw [piece_mid v n i h5] at hown'
        have HOWN2 : Hid (w2.ownsRow w.heap.size 5 1 v' (i + 1) (u8s ((List.range (i + 1)).map (upiece v n)))) := by
          show World.ownsRow _ _ _ _ _ _ _
          rw [List.range_succ, List.map_append, u8s_append]
          exact hown'
        have HF2 : Hid (Fr [] w w2) := (HF.out.calloc _).cgrown hgrow (by
          intro k hk
          right
          exact (HOWN.out.lt k hk).1)
        have HNE2 : Hid (v' ≠ .slice none 0 0) := by
          intro h
          first
            | exact hnil h
            | exact absurd (hnil.1 h).2 (by omega)
        clear hown' hgrow hnil
        go_wp2
        go_roundw
        case rel => exact ⟨i + 1, by omega, by go_num, HOWN2.out, HNE2.out, HF2.out⟩
        case measure =>
          simp [intOf]
          omega
      · have h5' : ¬ (i : Int) + 1 < n := by omega
        go_wp2_with (at_builtin; refine wpList_append_own _ rfl _ _ 52 rfl w.heap.size 5 i0 (.int .u8 0) 1 1 Try.underlying52 hi hz0 hz1 hz2 rfl (by decide) u4 i (u8s ((List.range i).map (upiece v n))) rfl (HOWN.out.alloc _) ⟨wr.heap.size, 0, none⟩ 1 1 [.int .u8 (bits .andNot .u8 ((v : Int) / 2 ^ (7 * i) % 256) 128)] rfl rfl (cell_one_new _ _ _) (one_int _ _) (by unfold maxLen; omega) (by omega) ?d5 ?_)
        case d5 =>
          have := HF.out.size
          simp
          omega
        intro v' w2 hown' hgrow hnil
        rw [piece_end v n i h5] at hown'
        have HOWN2 : Hid (w2.ownsRow w.heap.size 5 1 v' (i + 1) (u8s ((List.range (i + 1)).map (upiece v n)))) := by
          show World.ownsRow _ _ _ _ _ _ _
          rw [List.range_succ, List.map_append, u8s_append]
          exact hown'
        have HF2 : Hid (Fr [] w w2) := (HF.out.calloc _).cgrown hgrow (by
          intro k hk
          right
          exact (HOWN.out.lt k hk).1)
        have HNE2 : Hid (v' ≠ .slice none 0 0) := by
          intro h
          first
            | exact hnil h
            | exact absurd (hnil.1 h).2 (by omega)
        clear hown' hgrow hnil
        go_wp2
        go_roundw
        case rel => exact ⟨i + 1, by omega, by go_num, HOWN2.out, HNE2.out, HF2.out⟩
        case measure =>
          simp [intOf]
          omega
    · have h4' : ¬ (i : Int) < n := by omega
      have hi : i = n := by omega
      subst hi
      go_wp2
      go_returns
      refine ⟨⟨_, rfl, ?_, HNE.out⟩, HF.out⟩
      have h1 := HOWN.out
      rw [udig_map] at h1
      have h2 : uput v = udig i v := by
        unfold uput
        rw [HN.out]
      rw [h2, udig_length]
      exact h1
end Go.Proofs.Ytjfmgpelkhgodaa
