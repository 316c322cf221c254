/- ShakeAgain answers true and leaves its arguments as they were, for every input. No condition. -/
import Derived.Test.YtjfmgpelkhgodaaLawD
import Derived.Test.YtjfmgpelkhgodaaLawO
import Derived.Lib.SmallJoins
namespace Go.Proofs.Ytjfmgpelkhgodaa
open Go.ChangeShapes Go.WideShapes Go.ChangeAt Go.RowKit

theorem u64_range' {n : Int} (h : (Lit.int .u64 n).wf = true) : 0 ≤ n ∧ n ≤ 18446744073709551615 := by
  simpa [Lit.wf, IntKind.min, IntKind.max, IntKind.signed, IntKind.bits] using h
set_option maxRecDepth 100000 in
theorem two_of' {H : Type} {enc : TypeId × Value → H} {W : World} {b0 : Nat} {v : Value} {d : DataW H} {p : List MemPlace} (hv : Value.okWide Try.prog W .any b0 42 v) (h : DataW.Trod enc Try.prog W 0 (fun _ => true) true 42 v d p) :
    ∃ (A B : Int) (nA nB : Nat), v = .agg #[.int .i64 A, .int .i64 B, .int .u64 nA, .int .u64 nB] := by
  obtain ⟨v0, v1, v2, v3, y0, y1, y2, y3, n, rfl, _, _, h0, h1, h2, h3⟩ := Joins.open_agg4 Try.underlying42 (by kernel_rfl) (by kernel_rfl) hv h
  obtain ⟨a0, e0, _, _⟩ := DataW.trod_int Try.underlying3 h0
  obtain ⟨a1, e1, _, _⟩ := DataW.trod_int Try.underlying3 h1
  obtain ⟨a2, e2, _, w2⟩ := DataW.trod_int Try.underlying40 h2
  obtain ⟨a3, e3, _, w3⟩ := DataW.trod_int Try.underlying40 h3
  have k2 : 0 ≤ a2 := (u64_range' w2).1
  have k3 : 0 ≤ a3 := (u64_range' w3).1
  obtain ⟨n2, rfl⟩ := Int.eq_ofNat_of_zero_le k2
  obtain ⟨n3, rfl⟩ := Int.eq_ofNat_of_zero_le k3
  refine ⟨a0, a1, n2, n3, ?_⟩
  simp only [List.cons.injEq, and_true] at e0 e1 e2 e3
  rw [e0, e1, e2, e3]

theorem again_all (w : World) (A B : Int) (nA nB k : Nat) (hk : k < 256) :
    Calls Try.prog 9 #[.agg #[.int .i64 A, .int .i64 B, .int .u64 nA, .int .u64 nB], .int .u8 k] w fun e w' => e = .returned (.bool true) ∧ Fr [] w w' := by
  cases h1 : skMay A B nA
  · cases h2 : skMay B A nB
    · exact ag_ff w A B nA nB k h1 h2
    · exact ag_ft w A B nA nB k h1 h2
  · cases h2 : skMay B A nB
    · exact ag_tf w A B nA nB k h1 h2
    · obtain ⟨a, b, rfl, rfl, pa, pb, hne, na⟩ := skMay_iff.1 h1
      have nb : nonce nB := by
        obtain ⟨_, _, _, _, _, _, _, h⟩ := skMay_iff.1 h2
        exact h
      obtain ⟨L1, x, e1, hx, g1⟩ := call0 (L := []) (a := a) (b := b) (nA := nA) pa List.nodup_nil (by simp)
      have l1 : L1.length ≤ 1 := by simpa using g1.len
      obtain ⟨L2, y, e2, hy, g2⟩ := hh0 (L := L1) (nB := nB) (.inl rfl) pa pb na g1.nodup (by omega) hx
      have l2 := g2.len
      have hx2 := hx.ext g2.ext
      obtain ⟨L3, v, e3, e4, _, _⟩ := hh2 (L := L2) (nB := nB) (.inl rfl) pa pb na g2.nodup (by omega) hx2
      have e5 := made_answer_again pb g2.nodup hy
      rw [e4] at e5
      cases e5
      have hyl : 0 < y.length := hy.ne pb pa nb (by have := na.2; omega) (by simp)
      have hlen : L2.length = 2 := by
        obtain ⟨t1, k1, _, k2, _⟩ := hx2.get
        obtain ⟨t2, m1, _, m2, _⟩ := hy.get
        have i1 := (List.getElem?_eq_some_iff.1 k2).1
        have i2 := (List.getElem?_eq_some_iff.1 m2).1
        by_cases h : L2.length ≤ 1
        · exfalso
          have j1 : t1 - 1 = 0 := by omega
          have j2 : t2 - 1 = 0 := by omega
          rw [j1] at k2
          rw [j2, k2] at m2
          simp only [Option.some.injEq, Prod.mk.injEq] at m2
          omega
        · omega
      exact ag_tt w a b nA nB k pa pb na nb h1 h2 L1 L2 x y hk e1 e2 e3 (ag2 pb g2.nodup hy) (ag1 pa g2.nodup hx2) hyl ⟨by omega, by omega⟩ hlen

set_option maxRecDepth 100000 in
theorem shakeAgain_lifted (os : Os) (started : os.Started) (H : Type) (enc : TypeId × Value → H) :
    ReturnsInHanded {} Try.checked os 9 .any (Rows.shakeAgainSpec.pre6 enc Try.prog Try.f9 Rows.shakeAgainRow.domain false) (Rows.shakeAgainSpec.post enc Try.prog Try.f9 false true false false) := by
  refine returnsInHanded_of_change (C := Try.checked) Try.own started (by kernel_rfl) Try.func9
    (ChangeSpec.witness6 (enc := enc) (C := Try.checked) false ⟨#[], #[.agg #[.int .i64 0, .int .i64 0, .int .u64 0, .int .u64 0], .int .u8 0], []⟩ 8 (by kernel_rfl) (by kernel_rfl) (by kernel_rfl) (by kernel_rfl)) ?_
  intro W base args ds gs before hval0 hW hcnd _
  have hval : ∀ (j : Nat) t v, Try.f9.params[j]? = some t → args[j]? = some v → Value.okWide Try.prog W .any base t v := hval0
  have hW' := hW
  obtain ⟨p, q, hA0, hV, rfl, hfz, hnd⟩ := hW
  have hA : DataW.TrodAll enc Try.prog W 0 (fun _ => true) true Try.f9.params.toList args.toList ds p := hA0
  rw [Try.params9] at hA hval
  obtain ⟨v0, vs0, d0, ds0, p0, q0, hargs, rfl, rfl, h0, r0⟩ := trodAll_cons hA
  obtain ⟨v1, vs1, d1, ds1, p1, q1, rfl, rfl, rfl, h1, r1⟩ := trodAll_cons r0
  obtain ⟨rfl, rfl, rfl⟩ := trodAll_nil r1
  obtain rfl : args = #[v0, v1] := by cases args; simp_all
  obtain ⟨rfl, rfl⟩ := trodVars_none hV
  obtain ⟨A, B, nA, nB, rfl⟩ := two_of' (hval 0 42 v0 rfl rfl) h0
  obtain ⟨a1, rfl, rfl, rfl, w1⟩ := open_int Try.underlying5 (hval 1 5 v1 rfl rfl) h1
  obtain ⟨k1, k2⟩ := u8_range w1
  obtain ⟨k, rfl⟩ := Int.eq_ofNat_of_zero_le k1
  refine (again_all W A B nA nB k (by omega)).mono fun e W' ⟨he, hF⟩ => ?_
  subst he
  exact ⟨_, rfl, law_post Try.laidOut Try.underlying4 rfl rfl (by kernel_rfl) hW' rfl hF⟩

/-- ShakeAgain: the statement. -/
theorem shakeAgain_holds : Rows.ShakeAgainSaid :=
  OpenClaim.holds_of_wide 9 Try.f9 rfl rfl rfl rfl rfl rfl rfl ⟨rfl, rfl, rfl, rfl, rfl⟩ rfl rfl rfl rfl rfl (by kernel_rfl) Try.func9 (by kernel_rfl)
    (of_decide_eq_true (by kernel_rfl)) (by unfold Func.isWrapper; first | (rw [if_pos (by decide +kernel)]; kernel_rfl) | (rw [if_neg (by decide +kernel)]; exact ⟨rfl, rfl⟩))
    (fun os started H enc _ => shakeAgain_lifted os started H enc)
end Go.Proofs.Ytjfmgpelkhgodaa
#print axioms Go.Proofs.Ytjfmgpelkhgodaa.shakeAgain_holds
