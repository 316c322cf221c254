/- The walks of package trust: slices.Index and Contains at []uint32; Hear, Status, Next, Asked. No condition but the fields' ranges. -/
import Derived.Test.YtjfmgpelkhgodaaTrustA
namespace Go.Proofs.Ytjfmgpelkhgodaa
open Go.RowKit
attribute [local go_sem ↓ high] run_min_whole run_max_whole

def u32s (l : List Nat) : List Value := l.map fun (n : Nat) => Value.int .u32 n

def IdxSays (l : List Nat) (n : Nat) (e : Ending) : Prop := ∃ r : Int, e = .returned (.int .i64 r) ∧ -1 ≤ r ∧ (0 ≤ r ↔ n ∈ l)

set_option maxHeartbeats 800000 in
theorem u32_index (w : World) (kv : Value) (l : List Nat) (n : Nat) (hk : SlAt w kv (u32s l)) :
    Calls Try.prog 88 #[kv, .int .u32 n] w fun e w' => IdxSays l n e ∧ w = w' := by
  rcases hk with ⟨rfl, hx⟩ | ⟨g, off, cap, rfl, hg, h1, h2, h3⟩
  · have hl : l = [] := by simpa [u32s] using hx
    subst hl
    go_enter Try.func88, Try.ntmps88
    go_wp2
    go_rounds 1
    go_returns
    exact ⟨⟨_, rfl, by simp, by simp⟩, rfl⟩
  · have hlen : (u32s l).length = l.length := by simp [u32s]
    rw [hlen] at h1 h3 ⊢
    unfold maxLen at h2
    go_enter Try.func88, Try.ntmps88
    go_wp2
    go_loop [8] (fun i => ∃ k : Nat, k ≤ l.length ∧ i = .int .i64 k ∧ ∀ j, j < k → l.getD j 0 ≠ n) (fun i => l.length - (intOf i).toNat)
    case atStart => exact ⟨0, Nat.zero_le _, rfl, by intro j hj; omega⟩
    case round =>
      obtain ⟨k, hkl, rfl, hno⟩ := hrel
      have hcell : k < l.length → w.cell? ⟨g, off + k, none⟩ = some (.int .u32 (l.getD k 0 : Nat)) := fun h => by
        rw [h3 k h]
        simp [u32s, h, List.getD]
      clear h3
      have HN := Lib.hid hno
      clear hno
      go_wp2
      · have hlt : k < l.length := by assumption
        have he : ((n : Int) == ((l[k] : Nat) : Int)) = true := by assumption
        go_ret
        refine ⟨⟨_, rfl, by omega, ?_⟩, rfl⟩
        have hm : n = l[k] := by
          have := eq_of_beq he
          omega
        simp [hm]
      · have hlt : k < l.length := by assumption
        have he : ((n : Int) == ((l[k] : Nat) : Int)) = false := by assumption
        go_round
        case rel =>
          refine ⟨k + 1, by omega, by go_num, fun j hj => ?_⟩
          by_cases hjk : j = k
          · subst hjk
            intro hc
            have : ((n : Int) == ((l[j] : Nat) : Int)) = true := by simp [← hc, hlt, List.getD]
            rw [this] at he
            cases he
          · exact HN.out j (by omega)
        case measure =>
          simp [intOf]
          omega
      · have hge : ¬ k < l.length := by assumption
        go_ret
        refine ⟨⟨_, rfl, by omega, ?_⟩, rfl⟩
        constructor
        · intro h
          omega
        · intro h
          obtain ⟨j, hj, rfl⟩ := List.getElem_of_mem h
          exact absurd (by simp [List.getD, hj]) (HN.out j (by omega))

set_option maxHeartbeats 800000 in
theorem u32_contains (w : World) (kv : Value) (l : List Nat) (n : Nat) (hk : SlAt w kv (u32s l)) :
    Calls Try.prog 48 #[kv, .int .u32 n] w fun e w' => e = .returned (.bool (decide (n ∈ l))) ∧ w = w' := by
  have HK := Lib.hid hk
  clear hk
  go_enter Try.func48, Try.ntmps48
  go_wp2_with fail
  refine (u32_index _ _ l n HK.out).mono ?_
  rintro e w' ⟨⟨r, rfl, hr, hi⟩, rfl⟩
  have HI := Lib.hid hi
  clear hi
  go_wp2
  go_returns
  refine ⟨?_, rfl⟩
  have hh := HI.out
  by_cases hm : n ∈ l
  · have : 0 ≤ r := hh.2 hm
    simp [hm, this]
  · have : ¬ 0 ≤ r := fun h => hm (hh.1 h)
    simp [hm, this]

/-- What Hear answers, and what becomes of the belief. -/
def Bf.bad (σ : Bf) (now : Int) (by_ : Nat) (told : Int) : Prop := told < 0 ∨ 2 < told ∨ by_ = 0 ∨ now < σ.nw ∨ 1099511627776 < now
instance (σ : Bf) (now : Int) (by_ : Nat) (told : Int) : Decidable (σ.bad now by_ told) := by unfold Bf.bad; infer_instance

def Bf.told (σ : Bf) (now : Int) (g : Nat) (told : Int) : Bf :=
  let k := (σ.kn ++ [g]).drop ((σ.kn ++ [g]).length - 8)
  if σ.st = told ∧ told ≠ 0 then { σ with kn := k, hd := now, cf := min (σ.cf + 1) 3 }
  else if σ.st = 0 then { σ with kn := k, hd := now, st := told }
  else if 0 < σ.cf then { σ with kn := k, hd := now, cf := σ.cf - 1 }
  else { σ with kn := k, hd := now, st := told }

def Bf.hear (σ : Bf) (now : Int) (by_ : Nat) (told : Int) : Bf :=
  if σ.bad now by_ told then σ
  else if by_ / 65536 ∈ (σ.on now).kn then σ.on now
  else (σ.on now).told now (by_ / 65536) told
def Bf.answer (σ : Bf) (now : Int) (by_ : Nat) (told : Int) : Int :=
  if σ.bad now by_ told then 1
  else if by_ / 65536 ∈ (σ.on now).kn then 6
  else 0
end Go.Proofs.Ytjfmgpelkhgodaa
