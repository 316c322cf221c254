/- The walks of package wire's nums, Nums, May. No condition but the arguments' kinds. -/
import Derived.Test.YtjfmgpelkhgodaaFrame
import Derived.KernelRfl
namespace Go.Proofs.Ytjfmgpelkhgodaa
open Go.RowKit
attribute [local go_sem ↓ high] run_min_whole run_max_whole

def numVals : List Value := numTab.map (Value.int .i64)

set_option maxRecDepth 100000 in
set_option maxHeartbeats 800000 in
theorem wr_tab (w : World) : Calls Try.prog 98 #[] w fun e w' => e = .returned (.agg numVals.toArray) ∧ Fr [] w w' := by
  go_enter Try.func98, Try.ntmps98
  go_wp2_with (refine wpList_store_row rfl 162 (.tmp 0) (.tmp 1) rfl w.heap.size numVals.toArray rfl rfl _ _ (heap_alloc_new w _) ?h1 ?h2 ?h3 ?_)
  case h1 => kernel_rfl
  case h2 => rfl
  case h3 => kernel_rfl
  (try simp only [Exit.inBlock, Exit.then])
  refine bodyPost_ret (v := .agg numVals.toArray) (results_cell_row (p := 0) (ty := 162) (by kernel_rfl) _ _ w.heap.size _ _ _ _ rfl (setRow_heap _ _ _ _ _ _ (heap_alloc_new w _)) Try.underlying162 rfl (by kernel_rfl)) rfl ⟨rfl, ?_⟩
  exact ((Fr.refl _ _).calloc _).crow _ _ (by right; exact Nat.le_refl _)

set_option maxRecDepth 100000 in
set_option maxHeartbeats 800000 in
theorem wr_nums (w : World) (k : Int) : Calls Try.prog 59 #[.int .i64 k] w fun e w' => e = .returned (.int .i64 (numsOf k)) ∧ Fr [] w w' := by
  go_enter Try.func59, Try.ntmps59
  go_wp2_with fail
  refine (wr_tab w).mono ?_
  rintro e w1 ⟨rfl, hF⟩
  have HF := Lib.hid hF
  clear hF
  go_wp2_with (refine wpList_store_whole rfl 162 (.tmp 3) (.tmp 4) rfl w1.heap.size numVals rfl rfl _ _ (heap_alloc_new w1 _) (by kernel_rfl) rfl (by kernel_rfl) ?_)
  intro w2 hC2 hF2 hs2
  have HF2 : Hid (Fr [] w w2) := (HF.out.calloc _).step hF2 (by
    intro k hk
    right
    simp at hk
    subst hk
    exact HF.out.size)
  have HC2 := Lib.hid hC2
  clear hC2 hF2 hs2
  by_cases h1 : k < 1
  · have HN : Hid (numsOf k = -1) := by
      show _ = _
      unfold numsOf
      rw [if_pos (.inl h1)]
    go_wp2
    go_returns
    exact ⟨by rw [HN.out]; rfl, HF2.out⟩
  · by_cases h2 : 19 ≤ k
    · have HN : Hid (numsOf k = -1) := by
        show _ = _
        unfold numsOf
        rw [if_pos (.inr h2)]
      go_wp2
      go_returns
      exact ⟨by rw [HN.out]; rfl, HF2.out⟩
    · have HN : Hid (numsOf k = numTab.getD k.toNat 0) := by
        show _ = _
        unfold numsOf
        rw [if_neg (by omega)]
      have h2' : decide (19 ≤ k) = false := by simpa using h2
      obtain ⟨n, rfl⟩ := Int.eq_ofNat_of_zero_le (show 0 ≤ k by omega)
      have hn : n < 19 := by omega
      have hc : w2.cell? ⟨w1.heap.size, n, none⟩ = some (.int .i64 (numTab.getD n 0)) := by
        rw [HC2.out.cell n]
        unfold numVals
        have : n < numTab.length := hn
        simp [List.getD, this]
      rw [Int.toNat_natCast] at HN
      generalize numTab.getD n 0 = q at hc HN
      go_wp2
      go_returns
      exact ⟨by rw [HN.out]; rfl, HF2.out⟩
end Go.Proofs.Ytjfmgpelkhgodaa
