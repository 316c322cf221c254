/- TrustAsks answers true and leaves its arguments as they were, for every input. No condition. -/
import Derived.Test.YtjfmgpelkhgodaaTrustF
import Derived.Test.YtjfmgpelkhgodaaClose
import Derived.OpenShut
namespace Go.Proofs.Ytjfmgpelkhgodaa
open Go.ChangeShapes Go.WideShapes Go.ChangeAt Go.RowKit

theorem trustAsks_walk (s : Bool) (n : Int) (hn : 0 ≤ n ∧ n ≤ 255) (w : World) :
    Calls Try.prog 5 #[.bool s, .int .u8 n] w fun e w' => e = .returned (.bool true) ∧ Fr [] w w' := by
  obtain ⟨m, rfl⟩ := Int.eq_ofNat_of_zero_le hn.1
  cases s
  · exact tr_asks_no m (by omega) w
  · exact tr_asks_yes m (by omega) w

set_option maxRecDepth 100000 in
theorem trustAsks_lifted (os : Os) (started : os.Started) (H : Type) (enc : TypeId × Value → H) :
    ReturnsInHanded {} Try.checked os 5 .any (Rows.trustAsksSpec.pre6 enc Try.prog Try.f5 Rows.trustAsksRow.domain false) (Rows.trustAsksSpec.post enc Try.prog Try.f5 false true false false) := by
  refine returnsInHanded_of_change (C := Try.checked) Try.own started (by kernel_rfl) Try.func5
    (ChangeSpec.witness6 (enc := enc) (C := Try.checked) false ⟨#[], #[.bool false, .int .u8 0], []⟩ 8 (by kernel_rfl) (by kernel_rfl) (by kernel_rfl) (by kernel_rfl)) ?_
  intro W base args ds gs before hval0 hW hcnd _
  have hval : ∀ (j : Nat) t v, Try.f5.params[j]? = some t → args[j]? = some v → Value.okWide Try.prog W .any base t v := hval0
  have hW' := hW
  obtain ⟨p, q, hA0, hV, rfl, hfz, hnd⟩ := hW
  have hA : DataW.TrodAll enc Try.prog W 0 (fun _ => true) true Try.f5.params.toList args.toList ds p := hA0
  rw [Try.params5] at hA hval
  obtain ⟨v0, vs0, d0, ds0, p0, q0, hargs, rfl, rfl, h0, r0⟩ := trodAll_cons hA
  obtain ⟨v1, vs1, d1, ds1, p1, q1, rfl, rfl, rfl, h1, r1⟩ := trodAll_cons r0
  obtain ⟨rfl, rfl, rfl⟩ := trodAll_nil r1
  obtain rfl : args = #[v0, v1] := by cases args; simp_all
  obtain ⟨rfl, rfl⟩ := trodVars_none hV
  obtain ⟨a0, rfl, rfl, rfl⟩ := open_bool Try.underlying4 (hval 0 4 v0 rfl rfl) h0
  obtain ⟨a1, rfl, rfl, rfl, w1⟩ := open_int Try.underlying5 (hval 1 5 v1 rfl rfl) h1
  refine (trustAsks_walk a0 a1 (by simpa [Lit.wf, IntKind.min, IntKind.max, IntKind.signed, IntKind.bits] using w1) W).mono fun e W' ⟨he, hF⟩ => ?_
  subst he
  exact ⟨_, rfl, law_post Try.laidOut Try.underlying4 rfl rfl (by kernel_rfl) hW' rfl hF⟩

/-- TrustAsks: the statement. -/
theorem trustAsks_holds : Rows.TrustAsksSaid :=
  OpenClaim.holds_of_wide 5 Try.f5 rfl rfl rfl rfl rfl rfl rfl ⟨rfl, rfl, rfl, rfl, rfl⟩ rfl rfl rfl rfl rfl (by kernel_rfl) Try.func5 (by kernel_rfl)
    (of_decide_eq_true (by kernel_rfl)) (by unfold Func.isWrapper; first | (rw [if_pos (by decide +kernel)]; kernel_rfl) | (rw [if_neg (by decide +kernel)]; exact ⟨rfl, rfl⟩))
    (fun os started H enc _ => trustAsks_lifted os started H enc)
end Go.Proofs.Ytjfmgpelkhgodaa
#print axioms Go.Proofs.Ytjfmgpelkhgodaa.trustAsks_holds
