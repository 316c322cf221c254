/- ShakeTrue answers true and leaves its arguments as they were, for every input. No condition. -/
import Derived.Test.YtjfmgpelkhgodaaLawU
import Derived.Test.YtjfmgpelkhgodaaTwo
namespace Go.Proofs.Ytjfmgpelkhgodaa
open Go.ChangeShapes Go.WideShapes Go.ChangeAt Go.RowKit

theorem true_all (w : World) (A B : Int) (nA nB : Nat) (v : Value) (D : List Dx) (hD : DosAt w v D) :
    Calls Try.prog 6 #[.agg #[.int .i64 A, .int .i64 B, .int .u64 nA, .int .u64 nB], v] w fun e w' => e = .returned (.bool true) ∧ Fr [] w w' := by
  obtain ⟨ao, cap, rfl, _⟩ := hD.shape
  cases hs : smallAll D
  · exact true_big w A B nA nB ao cap D hD hs
  cases h1 : skMay A B nA
  · cases h2 : skMay B A nB
    · exact true_ff w A B nA nB ao cap D hD hs h1 h2
    · exact true_ft w A B nA nB ao cap D hD hs h1 h2
  · cases h2 : skMay B A nB
    · exact true_tf w A B nA nB ao cap D hD hs h1 h2
    · obtain ⟨a, b, rfl, rfl, pa, pb, hne, na⟩ := skMay_iff.1 h1
      have nb : nonce nB := by
        obtain ⟨_, _, _, _, _, _, _, h⟩ := skMay_iff.1 h2
        exact h
      exact true_main w a b nA nB ao cap D hD pa pb na nb hne hs h1 h2

set_option maxRecDepth 100000 in
theorem shakeTrue_lifted (os : Os) (started : os.Started) (H : Type) (enc : TypeId × Value → H) :
    ReturnsInHanded {} Try.checked os 6 .any (Rows.shakeTrueSpec.pre6 enc Try.prog Try.f6 Rows.shakeTrueRow.domain false) (Rows.shakeTrueSpec.post enc Try.prog Try.f6 false true false false) := by
  refine returnsInHanded_of_change (C := Try.checked) Try.own started (by kernel_rfl) Try.func6
    (ChangeSpec.witness6 (enc := enc) (C := Try.checked) false ⟨#[], #[.agg #[.int .i64 0, .int .i64 0, .int .u64 0, .int .u64 0], .slice none 0 0], []⟩ 8 (by kernel_rfl) (by kernel_rfl) (by kernel_rfl) (by kernel_rfl)) ?_
  intro W base args ds gs before hval0 hW hcnd _
  have hval : ∀ (j : Nat) t v, Try.f6.params[j]? = some t → args[j]? = some v → Value.okWide Try.prog W .any base t v := hval0
  have hW' := hW
  obtain ⟨p, q, hA0, hV, rfl, hfz, hnd⟩ := hW
  have hA : DataW.TrodAll enc Try.prog W 0 (fun _ => true) true Try.f6.params.toList args.toList ds p := hA0
  rw [Try.params6] at hA hval
  obtain ⟨v0, vs0, d0, ds0, p0, q0, hargs, rfl, rfl, h0, r0⟩ := trodAll_cons hA
  obtain ⟨v1, vs1, d1, ds1, p1, q1, rfl, rfl, rfl, h1, r1⟩ := trodAll_cons r0
  obtain ⟨rfl, rfl, rfl⟩ := trodAll_nil r1
  obtain rfl : args = #[v0, v1] := by cases args; simp_all
  obtain ⟨rfl, rfl⟩ := trodVars_none hV
  obtain ⟨A, B, nA, nB, rfl⟩ := two15_of (hval 0 42 v0 rfl rfl) h0
  obtain ⟨fuel1, h1'⟩ := h1
  have hv1 := hval 1 43 v1 rfl rfl
  obtain ⟨D, hl1⟩ : ∃ D, DosAt W v1 D := by
    obtain ⟨a, n, c, rfl⟩ : ∃ a n c, v1 = .slice a n c := okWide_slice Try.underlying43 hv1
    exact dos_of h1'
  refine (true_all W A B nA nB v1 D hl1).mono fun e W' ⟨he, hF⟩ => ?_
  subst he
  exact ⟨_, rfl, law_post Try.laidOut Try.underlying4 rfl rfl (by kernel_rfl) hW' rfl hF⟩

/-- ShakeTrue: the statement. -/
theorem shakeTrue_holds : Rows.ShakeTrueSaid :=
  OpenClaim.holds_of_wide 6 Try.f6 rfl rfl rfl rfl rfl rfl rfl ⟨rfl, rfl, rfl, rfl, rfl⟩ rfl rfl rfl rfl rfl (by kernel_rfl) Try.func6 (by kernel_rfl)
    (of_decide_eq_true (by kernel_rfl)) (by unfold Func.isWrapper; first | (rw [if_pos (by decide +kernel)]; kernel_rfl) | (rw [if_neg (by decide +kernel)]; exact ⟨rfl, rfl⟩))
    (fun os started H enc _ => shakeTrue_lifted os started H enc)
end Go.Proofs.Ytjfmgpelkhgodaa
#print axioms Go.Proofs.Ytjfmgpelkhgodaa.shakeTrue_holds
