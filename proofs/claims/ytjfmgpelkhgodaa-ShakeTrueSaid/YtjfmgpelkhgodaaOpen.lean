/- An argument's slice of structs, opened to cells: small lemmas over the library's own. No condition. -/
import Derived.Deep.Slices
import Derived.Deep.Fields
import Derived.ChangeSame
import Derived.ProofKit
namespace Go.Proofs.Ytjfmgpelkhgodaa
open Go.ChangeShapes Go.WideShapes Go.Deep

theorem drop_take_one {l : List Value} {o : Nat} {v : Value} (h : (l.drop o).take 1 = [v]) : l[o]? = some v := by
  have e : ((l.drop o).take 1)[0]? = some v := by rw [h]; rfl
  simpa [List.getElem?_take, List.getElem?_drop] using e

section
variable {H : Type} {enc : TypeId × Value → H} {P : Program} {w : World} {base : Nat} {spare : Nat → Bool} {held : Bool}
/-- A one-cell field of integers of a struct whose cells are cs. -/
theorem int_field {T : TypeId} {k : IntKind} {o n j : Nat} {cs : List Value} {ys : List (DataW H × List MemPlace)} (hT : P.underlying T = some (.int k)) (hc : P.cellsOf T = 1) (hj : j < ys.length)
    (h : DataW.trod enc P w base spare held n T ((cs.drop o).take (P.cellsOf T)) = ys[j]?) : ∃ x : Int, cs[o]? = some (.int k x) ∧ (Lit.int k x).wf = true := by
  rw [hc, List.getElem?_eq_getElem hj] at h
  obtain ⟨x, hx, _, hw⟩ := DataW.trod_int hT h
  exact ⟨x, drop_take_one hx, hw⟩

/-- A slice argument of structs: each element's cells lie where the code looks for them. -/
theorem slice_elems {t e : TypeId} {fuel : Nat} {cs : List Value} {x : DataW H × List MemPlace} (ht : P.underlying t = some (.slice e)) (h : DataW.trod enc P w 0 (fun _ => true) held fuel t cs = some x) :
    (cs = [.slice none 0 0]) ∨
    ∃ (a : Addr) (len cap : Nat), cs = [.slice (some a) len cap] ∧ len ≤ cap ∧ cap ≤ maxLen ∧
      ∀ i, i < cap → ∃ (n : Nat) (cs' : List Value) (y : DataW H × List MemPlace), (∀ j, j < P.cellsOf e → w.cell? (a.add (i * P.cellsOf e + j)) = cs'[j]?) ∧ cs'.length = P.cellsOf e ∧ DataW.trod enc P w 0 (fun _ => true) held n e cs' = some y := by
  rcases open_slice ht h with ⟨h0, _⟩ | ⟨a, len, cap, m, n, D, Pl, hcs, hb, hl, hm, hmm, _, hi⟩
  · exact .inl h0
  · refine .inr ⟨a, len, cap, hcs, hl, hm, fun i hlt => ?_⟩
    obtain ⟨cs', hc, ht'⟩ := hi i (by rw [hmm]; simpa using hlt)
    obtain ⟨_, hlen, hat⟩ := World.cells?_some hc
    refine ⟨n, cs', _, fun j hj => ?_, hlen, ht'⟩
    rw [← add_add, hat j hj]
end

theorem spot_of_cell {w : World} {a : Addr} {v : Value} (h : w.cell? a = some v) : a.spot = none := by
  unfold World.cell? at h
  split at h
  · split at h
    · cases h
    · rename_i hs
      cases hsp : a.spot with
      | none => rfl
      | some x =>
        rw [hsp] at hs
        simp at hs
  · cases h
theorem add_off (b off : Nat) (n : Nat) : (⟨b, off, none⟩ : Addr).add n = ⟨b, off + n, none⟩ := by
  unfold Addr.add
  split <;> simp_all
end Go.Proofs.Ytjfmgpelkhgodaa
