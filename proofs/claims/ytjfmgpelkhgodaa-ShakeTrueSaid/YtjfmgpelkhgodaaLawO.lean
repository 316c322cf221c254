/- A law's arguments, opened: slices of one-cell elements; the struct of two. -/
import Derived.Test.YtjfmgpelkhgodaaOpen
import Derived.OpenShut
import Derived.Test.YtjfmgpelkhgodaaLawC
namespace Go.Proofs.Ytjfmgpelkhgodaa
open Go.ChangeShapes Go.WideShapes Go.Deep

section
variable {H : Type} {enc : TypeId × Value → H} {P : Program} {w : World} {held : Bool}
/-- A slice argument whose elements are one cell each. -/
theorem ex_of_trod {t e : TypeId} {fuel : Nat} {v : Value} {x : DataW H × List MemPlace} (ht : P.underlying t = some (.slice e)) (hc : P.cellsOf e = 1) (h : DataW.trod enc P w 0 (fun _ => true) held fuel t [v] = some x) :
    ∃ xs, SlEx w v xs ∧ ∀ u, u ∈ xs → ∃ n y, DataW.trod enc P w 0 (fun _ => true) held n e [u] = some y := by
  rcases open_slice1 ht hc h with ⟨h0, _⟩ | ⟨a, len, cap, m, n, V, D, Pl, hcs, hb, hl, hm, hmm, _, hi⟩
  · exact ⟨[], .inl (.inl ⟨by simpa using h0, rfl⟩), by simp⟩
  · have hv : v = .slice (some a) len cap := by simpa using hcs
    subst hv
    have hmc : m = cap := by simpa using hmm
    subst hmc
    refine ⟨(List.range len).map V, ?_, ?_⟩
    · by_cases h0 : m = 0
      · subst h0
        have : len = 0 := by omega
        subst this
        exact .inr ⟨a, rfl, rfl⟩
      · obtain ⟨b, off, sp⟩ := a
        have hc0 := (hi 0 (by omega)).1
        have e0 : (⟨b, off, sp⟩ : Addr).add 0 = ⟨b, off, sp⟩ := rfl
        rw [e0] at hc0
        have hsp : sp = none := spot_of_cell hc0
        subst hsp
        refine .inl (.inr ⟨b, off, m, by simp, World.block_lt_of_cell? w _ hc0, by simpa using hl, hm, ?_⟩)
        intro j hj
        have hj' : j < len := by simpa using hj
        have := (hi j (by omega)).1
        rw [add_off] at this
        rw [this]
        simp [hj']
    · intro u hu
      obtain ⟨j, hj, rfl⟩ := List.mem_map.1 hu
      have hj' : j < len := by simpa using hj
      exact ⟨n, _, (hi j (by omega)).2⟩
theorem list_of_all {α : Type} {p : Value → Prop} (f : α → Value) (hp : ∀ u, p u → ∃ a, u = f a) : ∀ (xs : List Value), (∀ u, u ∈ xs → p u) → ∃ l : List α, xs = l.map f
  | [], _ => ⟨[], rfl⟩
  | u :: xs, h => by
    obtain ⟨a, ha⟩ := hp u (h u (by simp))
    obtain ⟨l, hl⟩ := list_of_all f hp xs (fun v hv => h v (by simp [hv]))
    exact ⟨a :: l, by rw [ha, hl]; rfl⟩
end
end Go.Proofs.Ytjfmgpelkhgodaa
