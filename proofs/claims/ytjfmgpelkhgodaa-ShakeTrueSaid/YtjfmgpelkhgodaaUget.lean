/- The walk of uvar.Get. No condition but the arguments' kinds. -/
import Derived.Test.YtjfmgpelkhgodaaUvar
import Derived.Laws.BitsAllLaws
namespace Go.Proofs.Ytjfmgpelkhgodaa
open Go.RowKit
attribute [local go_sem ↓ high] run_min_whole run_max_whole

theorem acc_lt {acc k c : Nat} (hacc : acc < 128 ^ k) : acc + c % 128 * 128 ^ k < 128 ^ (k + 1) := by
  have h1 : c % 128 ≤ 127 := by omega
  have h2 : c % 128 * 128 ^ k ≤ 127 * 128 ^ k := Nat.mul_le_mul_right _ h1
  rw [Nat.pow_succ]
  omega
theorem acc_lt64 {acc k : Nat} (hk : k ≤ 9) (hacc : acc < 128 ^ k) : acc < 9223372036854775808 := by
  have : 128 ^ k ≤ 128 ^ 9 := Nat.pow_le_pow_right (by omega) hk
  have e : (128 : Nat) ^ 9 = 9223372036854775808 := by decide
  omega
theorem acc_step {acc k c : Nat} (hk : k < 9) (hacc : acc < 128 ^ k) (hc : c < 256) :
    bits .or .u64 (acc : Int) (IntKind.u64.wrap (IntKind.u64.wrap (bits .andNot .u8 (c : Int) 128) * 2 ^ (7 * k))) = ((acc + c % 128 * 128 ^ k : Nat) : Int) := by
  have h1 := acc_lt (c := c) hacc
  have h2 := acc_lt64 (k := k + 1) (by omega) h1
  have h3 := acc_lt64 (k := k) (by omega) hacc
  rw [piece_and c hc]
  have e1 : IntKind.u64.wrap ((c % 128 : Nat) : Int) = ((c % 128 : Nat) : Int) := IntWalk.u64_in _ (by omega)
  rw [e1]
  have e2 : (2 : Int) ^ (7 * k) = ((128 ^ k : Nat) : Int) := by
    rw [Int.pow_mul]
    simp
  rw [e2, ← Int.natCast_mul]
  have e3 : IntKind.u64.wrap ((c % 128 * 128 ^ k : Nat) : Int) = ((c % 128 * 128 ^ k : Nat) : Int) := IntWalk.u64_in _ (by omega)
  rw [e3, u64_or_nat _ _ (by omega) (by omega)]
  have e4 : (2 : Nat) ^ (7 * k) = 128 ^ k := by
    rw [Nat.pow_mul]
  have hj := nat_join (7 * k) (c % 128 * 128 ^ k) acc (by rw [e4]; exact Nat.mul_mod_left _ _) (by rw [e4]; exact hacc)
  rw [Nat.or_comm, hj, Nat.add_comm]

theorem ugetL_at {full k acc : Nat} {l : List UInt8} {c : UInt8} (hk : k < (l.take 9).length) (hc : l.getD k 0 = c) :
    ugetL full ((l.take 9).drop k) k acc = if c.toNat < 128 then (if ulen (acc + c.toNat % 128 * 128 ^ k) ≠ k + 1 then (0, 0, 3) else (acc + c.toNat % 128 * 128 ^ k, k + 1, 0))
      else ugetL full ((l.take 9).drop (k + 1)) (k + 1) (acc + c.toNat % 128 * 128 ^ k) := by
  rw [List.drop_eq_getElem_cons hk]
  have hkl : k < l.length := by simp at hk; omega
  have e : (l.take 9)[k] = c := by
    rw [← hc]
    simp [List.getD, hkl]
  rw [e]
  rfl

def Got (l : List UInt8) (e : Ending) : Prop := e = .returned (.tuple #[.int .u64 (uget l).1, .int .i64 (uget l).2.1, .int .i64 (uget l).2.2])
theorem Got.of {l : List UInt8} {v n : Nat} {c : Int} (h : uget l = (v, n, c)) : Got l (.returned (.tuple #[.int .u64 v, .int .i64 n, .int .i64 c])) := by
  unfold Got
  rw [h]

set_option maxRecDepth 100000 in
set_option maxHeartbeats 1600000 in
theorem uv_get_some (w : World) (l : List UInt8) (g off cap : Nat) (hcap : l.length ≤ cap) (hmax : cap ≤ maxLen) (hcells : ∀ j, j < l.length → w.cell? ⟨g, off + j, none⟩ = (u8s l)[j]?) :
    Calls Try.prog 97 #[.slice (some ⟨g, off, none⟩) l.length cap] w fun e w' => Got l e ∧ w = w' := by
  have HC := Lib.hid hcells
  clear hcells
  unfold maxLen at hmax
  go_enter Try.func97, Try.ntmps97
  go_wp2_with fail
  rw [show max (min (l.length : Int) 9) 0 = ((min l.length 9 : Nat) : Int) from by omega, show (min (l.length : Int) 9).toNat = min l.length 9 from by omega, show min (l.length : Int) 9 = ((min l.length 9 : Nat) : Int) from by omega]
  have hm9 : min l.length 9 ≤ 9 := by omega
  have hml : min l.length 9 ≤ l.length := by omega
  generalize hmm : min l.length 9 = m at hm9 hml ⊢
  have HM := Lib.hid hmm
  clear hmm
  have htake : (l.take 9).length = m := by
    rw [← HM.out]
    simp
    omega
  have HT := Lib.hid htake
  clear htake
  go_loop [5, 14] (fun x t => ∃ k acc : Nat, k ≤ m ∧ t = .int .i64 k ∧ x = .int .u64 acc ∧ acc < 128 ^ k ∧ uget l = ugetL l.length ((l.take 9).drop k) k acc) (fun _ t => m - (intOf t).toNat)
  case atStart => exact ⟨0, 0, by omega, rfl, rfl, by simp, rfl⟩
  case round =>
    obtain ⟨k, acc, hk, rfl, rfl, hacc, hrel⟩ := hrel
    have HREL := Lib.hid hrel
    have HACC := Lib.hid hacc
    clear hrel hacc
    by_cases hlt : k < m
    · have hcell : w.cell? ⟨g, off + k, none⟩ = some (.int .u8 (l.getD k 0).toNat) := by
        rw [HC.out k (by omega)]
        simp [u8s, List.getD, show k < l.length by omega]
      generalize hc : l.getD k 0 = c at hcell
      have HCK := Lib.hid hc
      clear hc
      have hc256 := c.toNat_lt
      have hk9 : k < 9 := by omega
      have HSTEP := Lib.hid (acc_step hk9 HACC.out hc256)
      have HLT := Lib.hid (acc_lt (c := c.toNat) HACC.out)
      have hacc2 := acc_lt64 (k := k + 1) (by omega) HLT.out
      have HAT := Lib.hid (ugetL_at (full := l.length) (acc := acc) (by rw [HT.out]; exact hlt) HCK.out)
      generalize acc + c.toNat % 128 * 128 ^ k = acc' at HSTEP HLT hacc2 HAT
      by_cases hsm : c.toNat < 128
      · have hsm' : (c.toNat : Int) < 128 := by omega
        by_cases hu : ulen acc' = k + 1
        · have hub : ((ulen acc' : Int) != (k : Int) + 1) = false := by
            rw [bne_eq_false_iff_eq]
            omega
          have HG : Hid (uget l = (acc', k + 1, 0)) := by
            show _ = _
            rw [HREL.out, HAT.out, if_pos hsm, if_neg (by omega)]
          clear hu hsm
          go_wp2_with fail
          rw [HSTEP.out]
          refine (uv_len _ acc' (by omega)).mono ?_
          rintro e w' ⟨rfl, rfl⟩
          go_wp2
          go_ret3
          exact ⟨Got.of HG.out, rfl⟩
        · have hub : ((ulen acc' : Int) != (k : Int) + 1) = true := by
            rw [bne_iff_ne]
            omega
          have HG : Hid (uget l = (0, 0, 3)) := by
            show _ = _
            rw [HREL.out, HAT.out, if_pos hsm, if_pos hu]
          clear hu hsm
          go_wp2_with fail
          rw [HSTEP.out]
          refine (uv_len _ acc' (by omega)).mono ?_
          rintro e w' ⟨rfl, rfl⟩
          go_wp2
          go_ret3
          exact ⟨Got.of HG.out, rfl⟩
      · have hsm' : ¬ (c.toNat : Int) < 128 := by omega
        have HG : Hid (uget l = ugetL l.length ((l.take 9).drop (k + 1)) (k + 1) acc') := by
          show _ = _
          rw [HREL.out, HAT.out, if_neg hsm]
        clear hsm
        go_wp2
        go_round
        case rel => exact ⟨k + 1, acc', by omega, by go_num, by rw [HSTEP.out], HLT.out, HG.out⟩
        case measure =>
          simp [intOf]
          omega
    · have hkm : k = m := by omega
      have HG : Hid (uget l = if l.length < 9 then (0, 0, 2) else (0, 0, 4)) := by
        show _ = _
        rw [HREL.out, List.drop_of_length_le (by rw [HT.out]; omega)]
        rfl
      have hm2 := HM.out
      by_cases h9 : l.length < 9
      · have h9' : (l.length : Int) < 9 := by omega
        have HG2 : Hid (uget l = (0, 0, 2)) := by
          show _ = _
          rw [HG.out, if_pos h9]
        clear h9 hkm hm2
        go_wp2
        go_ret3
        exact ⟨Got.of HG2.out, rfl⟩
      · have h9' : ¬ (l.length : Int) < 9 := by omega
        have HG2 : Hid (uget l = (0, 0, 4)) := by
          show _ = _
          rw [HG.out, if_neg h9]
        clear h9 hkm hm2
        go_wp2
        go_ret3
        exact ⟨Got.of HG2.out, rfl⟩

set_option maxRecDepth 100000 in
theorem uv_get (w : World) (v : Value) (l : List UInt8) (h : SlAt w v (u8s l)) :
    Calls Try.prog 97 #[v] w fun e w' => Got l e ∧ w = w' := by
  rcases h with ⟨rfl, hx⟩ | ⟨g, off, cap, rfl, hg, h1, h2, h3⟩
  · have hl : l = [] := by simpa [u8s] using hx
    subst hl
    go_enter Try.func97, Try.ntmps97
    go_wp2
    go_rounds 1
    go_ret3
    exact ⟨Got.of rfl, rfl⟩
  · rw [u8s_length] at h1 h3 ⊢
    exact uv_get_some w l g off cap h1 h2 h3
set_option maxRecDepth 100000 in
theorem uv_get_no (w : World) (ad : Addr) : Calls Try.prog 97 #[.slice (some ad) 0 0] w fun e w' => Got [] e ∧ w = w' := by
  go_enter Try.func97, Try.ntmps97
  go_wp2
  go_rounds 1
  go_ret3
  exact ⟨Got.of rfl, rfl⟩
end Go.Proofs.Ytjfmgpelkhgodaa
