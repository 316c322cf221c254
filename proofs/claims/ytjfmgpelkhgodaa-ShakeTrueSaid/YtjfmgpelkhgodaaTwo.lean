/- The argument of two, opened. No condition. -/
import Derived.Test.YtjfmgpelkhgodaaLawO
import Derived.Test.YtjfmgpelkhgodaaClose
import Derived.Lib.SmallJoins
namespace Go.Proofs.Ytjfmgpelkhgodaa
open Go.ChangeShapes Go.WideShapes Go.ChangeAt Go.RowKit

theorem u64_range15 {n : Int} (h : (Lit.int .u64 n).wf = true) : 0 ≤ n ∧ n ≤ 18446744073709551615 := by
  simpa [Lit.wf, IntKind.min, IntKind.max, IntKind.signed, IntKind.bits] using h
set_option maxRecDepth 100000 in
theorem two15_of {H : Type} {enc : TypeId × Value → H} {W : World} {b0 : Nat} {v : Value} {d : DataW H} {p : List MemPlace} (hv : Value.okWide Try.prog W .any b0 42 v) (h : DataW.Trod enc Try.prog W 0 (fun _ => true) true 42 v d p) :
    ∃ (A B : Int) (nA nB : Nat), v = .agg #[.int .i64 A, .int .i64 B, .int .u64 nA, .int .u64 nB] := by
  obtain ⟨v0, v1, v2, v3, y0, y1, y2, y3, n, rfl, _, _, h0, h1, h2, h3⟩ := Joins.open_agg4 Try.underlying42 (by kernel_rfl) (by kernel_rfl) hv h
  obtain ⟨a0, e0, _, _⟩ := DataW.trod_int Try.underlying3 h0
  obtain ⟨a1, e1, _, _⟩ := DataW.trod_int Try.underlying3 h1
  obtain ⟨a2, e2, _, w2⟩ := DataW.trod_int Try.underlying40 h2
  obtain ⟨a3, e3, _, w3⟩ := DataW.trod_int Try.underlying40 h3
  have k2 : 0 ≤ a2 := (u64_range15 w2).1
  have k3 : 0 ≤ a3 := (u64_range15 w3).1
  obtain ⟨n2, rfl⟩ := Int.eq_ofNat_of_zero_le k2
  obtain ⟨n3, rfl⟩ := Int.eq_ofNat_of_zero_le k3
  refine ⟨a0, a1, n2, n3, ?_⟩
  simp only [List.cons.injEq, and_true] at e0 e1 e2 e3
  rw [e0, e1, e2, e3]
end Go.Proofs.Ytjfmgpelkhgodaa
