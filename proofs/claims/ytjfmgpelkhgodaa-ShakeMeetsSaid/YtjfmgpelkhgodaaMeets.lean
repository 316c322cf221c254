/- ShakeMeets answers true and leaves its arguments as they were, for every input. No condition. -/
import Derived.Test.YtjfmgpelkhgodaaLawF
import Derived.Lib.SmallJoins
namespace Go.Proofs.Ytjfmgpelkhgodaa
open Go.ChangeShapes Go.WideShapes Go.ChangeAt Go.RowKit

theorem u64_range {n : Int} (h : (Lit.int .u64 n).wf = true) : 0 ≤ n ∧ n ≤ 18446744073709551615 := by
  simpa [Lit.wf, IntKind.min, IntKind.max, IntKind.signed, IntKind.bits] using h
set_option maxRecDepth 100000 in
theorem two_of {H : Type} {enc : TypeId × Value → H} {W : World} {b0 : Nat} {v : Value} {d : DataW H} {p : List MemPlace} (hv : Value.okWide Try.prog W .any b0 42 v) (h : DataW.Trod enc Try.prog W 0 (fun _ => true) true 42 v d p) :
    ∃ (A B : Int) (nA nB : Nat), v = .agg #[.int .i64 A, .int .i64 B, .int .u64 nA, .int .u64 nB] := by
  obtain ⟨v0, v1, v2, v3, y0, y1, y2, y3, n, rfl, _, _, h0, h1, h2, h3⟩ := Joins.open_agg4 Try.underlying42 (by kernel_rfl) (by kernel_rfl) hv h
  obtain ⟨a0, e0, _, _⟩ := DataW.trod_int Try.underlying3 h0
  obtain ⟨a1, e1, _, _⟩ := DataW.trod_int Try.underlying3 h1
  obtain ⟨a2, e2, _, w2⟩ := DataW.trod_int Try.underlying40 h2
  obtain ⟨a3, e3, _, w3⟩ := DataW.trod_int Try.underlying40 h3
  have k2 : 0 ≤ a2 := (u64_range w2).1
  have k3 : 0 ≤ a3 := (u64_range w3).1
  obtain ⟨n2, rfl⟩ := Int.eq_ofNat_of_zero_le k2
  obtain ⟨n3, rfl⟩ := Int.eq_ofNat_of_zero_le k3
  refine ⟨a0, a1, n2, n3, ?_⟩
  simp only [List.cons.injEq, and_true] at e0 e1 e2 e3
  rw [e0, e1, e2, e3]
theorem bools_of {H : Type} {enc : TypeId × Value → H} {W : World} {n : Nat} {v : Value} {x : DataW H × List MemPlace} (h : DataW.trod enc Try.prog W 0 (fun _ => true) true n 70 [v] = some x) : ∃ l : List Bool, SlEx W v (l.map Value.bool) := by
  obtain ⟨xs, h1, h2⟩ := ex_of_trod Try.underlying70 (by kernel_rfl) h
  obtain ⟨l, rfl⟩ := list_of_all (p := fun u => ∃ n y, DataW.trod enc Try.prog W 0 (fun _ => true) true n 4 [u] = some y) Value.bool (fun u hu => by
    obtain ⟨n, y, hy⟩ := hu
    obtain ⟨b, hb, _⟩ := DataW.trod_bool Try.underlying4 hy
    exact ⟨b, by simpa using hb⟩) xs h2
  exact ⟨l, h1⟩

theorem meets_all (w : World) (A B : Int) (nA nB : Nat) (both : Bool) (lv : Value) (lost : List Bool) (hl : SlEx w lv (lost.map Value.bool)) :
    Calls Try.prog 8 #[.agg #[.int .i64 A, .int .i64 B, .int .u64 nA, .int .u64 nB], .bool both, lv] w fun e w' => e = .returned (.bool true) ∧ Fr [] w w' := by
  cases h1 : skMay A B nA
  · cases h2 : skMay B A nB
    · exact ShakeMeets_ff w A B nA nB both lv h1 h2
    · exact ShakeMeets_ft w A B nA nB both lv h1 h2
  · cases h2 : skMay B A nB
    · exact ShakeMeets_tf w A B nA nB both lv h1 h2
    · obtain ⟨a, b, rfl, rfl, pa, pb, hne, na⟩ := skMay_iff.1 h1
      have nb : nonce nB := by
        obtain ⟨_, _, _, _, _, _, _, h⟩ := skMay_iff.1 h2
        exact h
      obtain ⟨ao, cap, hv⟩ := hl.shape
      rw [List.length_map] at hv
      subst hv
      obtain ⟨L1, x, e1, hx, g1⟩ := call0 (L := []) (a := a) (b := b) (nA := nA) pa List.nodup_nil (by simp)
      have l1 : L1.length ≤ 1 := by simpa using g1.len
      cases both with
      | false =>
        exact meets_one w a b nA nB pa pb na nb h1 h2 L1 x e1 ⟨g1.nodup, by omega, .s0, by decide, rfl, rfl, hx, rfl⟩ ao cap lost hl
      | true =>
        obtain ⟨L2, y, e2, hy, g2⟩ := call0 (L := L1) (a := b) (b := a) (nA := nB) pb g1.nodup (by omega)
        have l2 := g2.len
        exact meets_two w a b nA nB pa pb na nb h1 h2 L1 L2 x y (show L1.length ≤ 10 by omega) e2 e1 ⟨g2.nodup, by omega, .t0, by decide, rfl, rfl, hx.ext g2.ext, hy⟩ ao cap lost hl

set_option maxRecDepth 100000 in
theorem shakeMeets_lifted (os : Os) (started : os.Started) (H : Type) (enc : TypeId × Value → H) :
    ReturnsInHanded {} Try.checked os 8 .any (Rows.shakeMeetsSpec.pre6 enc Try.prog Try.f8 Rows.shakeMeetsRow.domain false) (Rows.shakeMeetsSpec.post enc Try.prog Try.f8 false true false false) := by
  refine returnsInHanded_of_change (C := Try.checked) Try.own started (by kernel_rfl) Try.func8
    (ChangeSpec.witness6 (enc := enc) (C := Try.checked) false ⟨#[], #[.agg #[.int .i64 0, .int .i64 0, .int .u64 0, .int .u64 0], .bool false, .slice none 0 0], []⟩ 8 (by kernel_rfl) (by kernel_rfl) (by kernel_rfl) (by kernel_rfl)) ?_
  intro W base args ds gs before hval0 hW hcnd _
  have hval : ∀ (j : Nat) t v, Try.f8.params[j]? = some t → args[j]? = some v → Value.okWide Try.prog W .any base t v := hval0
  have hW' := hW
  obtain ⟨p, q, hA0, hV, rfl, hfz, hnd⟩ := hW
  have hA : DataW.TrodAll enc Try.prog W 0 (fun _ => true) true Try.f8.params.toList args.toList ds p := hA0
  rw [Try.params8] at hA hval
  obtain ⟨v0, vs0, d0, ds0, p0, q0, hargs, rfl, rfl, h0, r0⟩ := trodAll_cons hA
  obtain ⟨v1, vs1, d1, ds1, p1, q1, rfl, rfl, rfl, h1, r1⟩ := trodAll_cons r0
  obtain ⟨v2, vs2, d2, ds2, p2, q2, rfl, rfl, rfl, h2, r2⟩ := trodAll_cons r1
  obtain ⟨rfl, rfl, rfl⟩ := trodAll_nil r2
  obtain rfl : args = #[v0, v1, v2] := by cases args; simp_all
  obtain ⟨rfl, rfl⟩ := trodVars_none hV
  obtain ⟨A, B, nA, nB, rfl⟩ := two_of (hval 0 42 v0 rfl rfl) h0
  obtain ⟨both, rfl, rfl, rfl⟩ := open_bool Try.underlying4 (hval 1 4 v1 rfl rfl) h1
  obtain ⟨fuel, h2'⟩ := h2
  have hv2 := hval 2 70 v2 rfl rfl
  obtain ⟨l, hl⟩ : ∃ l : List Bool, SlEx W v2 (l.map Value.bool) := by
    obtain ⟨a, n, c, rfl⟩ : ∃ a n c, v2 = .slice a n c := okWide_slice Try.underlying70 hv2
    exact bools_of h2'
  refine (meets_all W A B nA nB both v2 l hl).mono fun e W' ⟨he, hF⟩ => ?_
  subst he
  exact ⟨_, rfl, law_post Try.laidOut Try.underlying4 rfl rfl (by kernel_rfl) hW' rfl hF⟩

/-- ShakeMeets: the statement. -/
theorem shakeMeets_holds : Rows.ShakeMeetsSaid :=
  OpenClaim.holds_of_wide 8 Try.f8 rfl rfl rfl rfl rfl rfl rfl ⟨rfl, rfl, rfl, rfl, rfl⟩ rfl rfl rfl rfl rfl (by kernel_rfl) Try.func8 (by kernel_rfl)
    (of_decide_eq_true (by kernel_rfl)) (by unfold Func.isWrapper; first | (rw [if_pos (by decide +kernel)]; kernel_rfl) | (rw [if_neg (by decide +kernel)]; exact ⟨rfl, rfl⟩))
    (fun os started H enc _ => shakeMeets_lifted os started H enc)
end Go.Proofs.Ytjfmgpelkhgodaa
#print axioms Go.Proofs.Ytjfmgpelkhgodaa.shakeMeets_holds
