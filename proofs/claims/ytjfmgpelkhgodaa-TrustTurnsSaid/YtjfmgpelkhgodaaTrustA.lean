/- The walks of package trust's small functions: New, less, on. No condition but the fields' ranges. -/
import Derived.Test.YtjfmgpelkhgodaaRows
import Derived.Test.YtjfmgpelkhgodaaBase
namespace Go.Proofs.Ytjfmgpelkhgodaa
open Go.RowKit
attribute [local go_sem ↓ high] run_min_whole run_max_whole

/-- A belief, as the program keeps it. -/
structure Bf where
  st : Int
  cf : Int
  kn : List Nat
  hd : Int
  nw : Int
  ak : Int
  ev : Bool

def bfCells (σ : Bf) (kv : Value) : List Value := [.int .i64 σ.st, .int .i64 σ.cf, kv, .int .i64 σ.hd, .int .i64 σ.nw, .int .i64 σ.ak, .bool σ.ev]

theorem bf_new (w : World) : Calls Try.prog 14 #[] w fun e w' => e = .returned (.pointer (some ⟨w.heap.size, 0, none⟩)) ∧ w.alloc (.cells #[.int .i64 0, .int .i64 0, .slice none 0 0, .int .i64 0, .int .i64 0, .int .i64 0, .bool false] 102) = w' := by
  go_enter Try.func14, Try.ntmps14
  go_wp2
  go_ret
  exact ⟨rfl, rfl⟩

set_option maxHeartbeats 400000 in
theorem bf_less (b : Nat) (w : World) (σ : Bf) (kv : Value) (to : Int) (hC : Cells w b 102 (bfCells σ kv)) (hc : 0 ≤ σ.cf) (hc' : σ.cf ≤ 3) :
   Calls Try.prog 49 #[.pointer (some ⟨b, 0, none⟩), .int .i64 to] w fun e w' => e = .returned (.tuple #[]) ∧ (if 0 < σ.cf then w.setCell ⟨b, 1, none⟩ (.int .i64 (σ.cf - 1)) else w.setCell ⟨b, 0, none⟩ (.int .i64 to)) = w' := by
  have c1 := hC.cell 1
  have c0 := hC.cell 0
  simp only [bfCells, List.getElem?_cons_zero, List.getElem?_cons_succ] at c0 c1
  have f1 := hC.frozen 1
  have f0 := hC.frozen 0
  clear hC
  go_enter Try.func49, Try.ntmps49
  go_wp2
  all_goals go_returns
  all_goals simp [*]
  all_goals (try omega)

def Bf.now (σ : Bf) (now : Int) : Int := max σ.nw (min now 1099511627776)
def Bf.on (σ : Bf) (now : Int) : Bf :=
  if σ.hd + 1000 ≤ σ.now now then { σ with nw := σ.now now, st := 0, cf := 0, kn := [] } else { σ with nw := σ.now now }

/-- The fields lie in their ranges. -/
structure Bf.Ok (σ : Bf) : Prop where
  st : 0 ≤ σ.st ∧ σ.st ≤ 2
  cf : 0 ≤ σ.cf ∧ σ.cf ≤ 3
  hd : 0 ≤ σ.hd ∧ σ.hd ≤ σ.nw
  nw : σ.nw ≤ 1099511627776
  ak : 0 ≤ σ.ak ∧ σ.ak ≤ σ.nw
  kn : σ.kn.length ≤ 8

/-- Behind b lies a belief. -/
def BelAt (w : World) (b : Nat) (σ : Bf) : Prop :=
  ∃ kv, Cells w b 102 (bfCells σ kv) ∧ SlFull w kv (σ.kn.map fun (n : Nat) => Value.int .u32 n) ∧ (∀ g, kv.ownBlock = some g → g ≠ b)

def OnTo (w : World) (b : Nat) (σ : Bf) (w' : World) : Prop := BelAt w' b σ ∧ Fr [b] w w'

theorem BelAt.keep {w w' : World} {b : Nat} {σ : Bf} (σ' : Bf) (kv kv' : Value) (hC : Cells w' b 102 (bfCells σ' kv')) (hk : SlFull w kv (σ.kn.map fun (n : Nat) => Value.int .u32 n)) (hb : ∀ g, kv.ownBlock = some g → g ≠ b)
    (h : kv' = kv ∧ σ'.kn = σ.kn ∨ kv' = .slice none 0 0 ∧ σ'.kn = []) (hf : Fr [b] w w') : OnTo w b σ' w' := by
  refine ⟨⟨kv', hC, ?_, ?_⟩, hf⟩
  · rcases h with ⟨rfl, h⟩ | ⟨rfl, h⟩
    · rw [h]
      exact hk.fr hf (fun g hg => by simp; exact hb g hg)
    · rw [h]
      exact SlFull.nil _
  · rcases h with ⟨rfl, h⟩ | ⟨rfl, h⟩
    · exact hb
    · intro g hg
      simp [Value.ownBlock] at hg

set_option maxHeartbeats 800000 in
theorem bf_on (b : Nat) (w : World) (σ : Bf) (now : Int) (hB : BelAt w b σ) (hok : σ.Ok) :
   Calls Try.prog 47 #[.pointer (some ⟨b, 0, none⟩), .int .i64 now] w fun e w' => e = .returned (.tuple #[]) ∧ OnTo w b (σ.on now) w' := by
  obtain ⟨kv, hC, hk, hne⟩ := hB
  have HC := Lib.hid hC
  have HK := Lib.hid hk
  have HN := Lib.hid hne
  have c0 := hC.cell 0
  have c1 := hC.cell 1
  have c2 := hC.cell 2
  have c3 := hC.cell 3
  have c4 := hC.cell 4
  simp only [bfCells, List.getElem?_cons_zero, List.getElem?_cons_succ] at c0 c1 c2 c3 c4
  have f0 := hC.frozen 0
  have f1 := hC.frozen 1
  have f2 := hC.frozen 2
  have f4 := hC.frozen 4
  have h1 := hok.hd
  have h2 := hok.nw
  clear hC hk hne
  go_enter Try.func47, Try.ntmps47
  go_wp2
  go_quiet (fail)
  go_wp2
  · go_returns
    have ht : σ.hd + 1000 ≤ max σ.nw (min now 1099511627776) := by assumption
    refine ⟨rfl, BelAt.keep (kv := kv) (kv' := .slice none 0 0) _ ?_ HK.out HN.out (.inr ⟨rfl, ?_⟩) ?_⟩
    · have h := ((((HC.out.set 4 (.int .i64 (max σ.nw (min now 1099511627776)))).drewN nq).set 0 (.int .i64 0)).set 1 (.int .i64 0)).set 2 (.slice none 0 0)
      simpa [bfCells, Bf.on, Bf.now, ht] using h
    · simp [Bf.on, Bf.now, ht]
    · exact (((((Fr.refl _ _).cset _ _ (by simp)).cdrewN _).cset _ _ (by simp)).cset _ _ (by simp)).cset _ _ (by simp)
  · go_returns
    have ht : max σ.nw (min now 1099511627776) < σ.hd + 1000 := by assumption
    have ht' : ¬ σ.hd + 1000 ≤ max σ.nw (min now 1099511627776) := by omega
    refine ⟨rfl, BelAt.keep (kv := kv) (kv' := kv) _ ?_ HK.out HN.out (.inl ⟨rfl, ?_⟩) ?_⟩
    · have h := (HC.out.set 4 (.int .i64 (max σ.nw (min now 1099511627776)))).drewN nq
      simpa [bfCells, Bf.on, Bf.now, ht'] using h
    · simp [Bf.on, Bf.now, ht']
    · exact (((Fr.refl _ _).cset _ _ (by simp)).cdrewN _)

theorem Bf.Ok.on {σ : Bf} (h : σ.Ok) (now : Int) : (σ.on now).Ok := by
  obtain ⟨h1, h2, h3, h4, h5, h6⟩ := h
  unfold Bf.on
  split
  · refine ⟨by simp, by simp, ?_, ?_, ?_, by simp⟩ <;> (simp only [Bf.now]; omega)
  · refine ⟨h1, h2, ?_, ?_, ?_, h6⟩ <;> (simp only [Bf.now]; omega)

end Go.Proofs.Ytjfmgpelkhgodaa
