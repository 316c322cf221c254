/- ShakeForged answers true and leaves its arguments as they were, for every input. No condition. -/
import Derived.Test.YtjfmgpelkhgodaaLawH
import Derived.Test.YtjfmgpelkhgodaaTwo
namespace Go.Proofs.Ytjfmgpelkhgodaa
open Go.ChangeShapes Go.WideShapes Go.ChangeAt Go.RowKit

theorem forged_all (w : World) (A B : Int) (nA nB k d : Nat) (hk : k < 256) (hd : d < 256) :
    Calls Try.prog 7 #[.agg #[.int .i64 A, .int .i64 B, .int .u64 nA, .int .u64 nB], .int .u8 k, .int .u8 d] w fun e w' => e = .returned (.bool true) ∧ Fr [] w w' := by
  cases h1 : skMay A B nA
  · cases h2 : skMay B A nB
    · exact ShakeForged_ff w A B nA nB k d h1 h2
    · exact ShakeForged_ft w A B nA nB k d h1 h2
  · cases h2 : skMay B A nB
    · exact ShakeForged_tf w A B nA nB k d h1 h2
    · obtain ⟨a, b, rfl, rfl, pa, pb, hne, na⟩ := skMay_iff.1 h1
      have nb : nonce nB := by
        obtain ⟨_, _, _, _, _, _, _, h⟩ := skMay_iff.1 h2
        exact h
      by_cases hd0 : d = 0
      · subst hd0
        exact forged_0 w a b nA nB k h1 h2
      obtain ⟨L1, x, e1, hx, g1⟩ := call0 (L := []) (a := a) (b := b) (nA := nA) pa List.nodup_nil (by simp)
      have l1 : L1.length ≤ 1 := by simpa using g1.len
      obtain ⟨rfl, rfl⟩ := hello_one l1 hx
      have hab : a < 9223372036854775808 ∧ b < 9223372036854775808 ∧ nA < 9223372036854775808 := by
        unfold peer at pa pb
        unfold nonce at na
        omega
      have hm : mmay (helloOf a b nA 1) := hello_may hab.1 hab.2.1 hab.2.2 (by omega)
      have EB : Hid (∀ j, j < 4 → skcheck [((a : Int), mbytes (helloOf a b nA 0))] (forgedOf a b nA 1 j d) = false) := fun j hj => forged_bad pa pb na hj (by omega) (by omega)
      exact forged_1 w a b nA nB k d pa pb na nb hk (by omega) hd h1 h2 _ _ (show [((a : Int), mbytes (helloOf a b nA 0))].length ≤ 10 by simp) EB e1 (mfrom_mbytes hm (by simp [helloOf])) (skcheck_hello pa hab.2.1 hab.2.2 (Nat.le_refl _) (by omega) rfl)

set_option maxRecDepth 100000 in
theorem shakeForged_lifted (os : Os) (started : os.Started) (H : Type) (enc : TypeId × Value → H) :
    ReturnsInHanded {} Try.checked os 7 .any (Rows.shakeForgedSpec.pre6 enc Try.prog Try.f7 Rows.shakeForgedRow.domain false) (Rows.shakeForgedSpec.post enc Try.prog Try.f7 false true false false) := by
  refine returnsInHanded_of_change (C := Try.checked) Try.own started (by kernel_rfl) Try.func7
    (ChangeSpec.witness6 (enc := enc) (C := Try.checked) false ⟨#[], #[.agg #[.int .i64 0, .int .i64 0, .int .u64 0, .int .u64 0], .int .u8 0, .int .u8 0], []⟩ 8 (by kernel_rfl) (by kernel_rfl) (by kernel_rfl) (by kernel_rfl)) ?_
  intro W base args ds gs before hval0 hW hcnd _
  have hval : ∀ (j : Nat) t v, Try.f7.params[j]? = some t → args[j]? = some v → Value.okWide Try.prog W .any base t v := hval0
  have hW' := hW
  obtain ⟨p, q, hA0, hV, rfl, hfz, hnd⟩ := hW
  have hA : DataW.TrodAll enc Try.prog W 0 (fun _ => true) true Try.f7.params.toList args.toList ds p := hA0
  rw [Try.params7] at hA hval
  obtain ⟨v0, vs0, d0, ds0, p0, q0, hargs, rfl, rfl, h0, r0⟩ := trodAll_cons hA
  obtain ⟨v1, vs1, d1, ds1, p1, q1, rfl, rfl, rfl, h1, r1⟩ := trodAll_cons r0
  obtain ⟨v2, vs2, d2, ds2, p2, q2, rfl, rfl, rfl, h2, r2⟩ := trodAll_cons r1
  obtain ⟨rfl, rfl, rfl⟩ := trodAll_nil r2
  obtain rfl : args = #[v0, v1, v2] := by cases args; simp_all
  obtain ⟨rfl, rfl⟩ := trodVars_none hV
  obtain ⟨A, B, nA, nB, rfl⟩ := two15_of (hval 0 42 v0 rfl rfl) h0
  obtain ⟨a1, rfl, rfl, rfl, w1⟩ := open_int Try.underlying5 (hval 1 5 v1 rfl rfl) h1
  obtain ⟨k1, l1⟩ := u8_range w1
  obtain ⟨k, rfl⟩ := Int.eq_ofNat_of_zero_le k1
  obtain ⟨a2, rfl, rfl, rfl, w2⟩ := open_int Try.underlying5 (hval 2 5 v2 rfl rfl) h2
  obtain ⟨k2, l2⟩ := u8_range w2
  obtain ⟨d, rfl⟩ := Int.eq_ofNat_of_zero_le k2
  refine (forged_all W A B nA nB k d (by omega) (by omega)).mono fun e W' ⟨he, hF⟩ => ?_
  subst he
  exact ⟨_, rfl, law_post Try.laidOut Try.underlying4 rfl rfl (by kernel_rfl) hW' rfl hF⟩

/-- ShakeForged: the statement. -/
theorem shakeForged_holds : Rows.ShakeForgedSaid :=
  OpenClaim.holds_of_wide 7 Try.f7 rfl rfl rfl rfl rfl rfl rfl ⟨rfl, rfl, rfl, rfl, rfl⟩ rfl rfl rfl rfl rfl (by kernel_rfl) Try.func7 (by kernel_rfl)
    (of_decide_eq_true (by kernel_rfl)) (by unfold Func.isWrapper; first | (rw [if_pos (by decide +kernel)]; kernel_rfl) | (rw [if_neg (by decide +kernel)]; exact ⟨rfl, rfl⟩))
    (fun os started H enc _ => shakeForged_lifted os started H enc)
end Go.Proofs.Ytjfmgpelkhgodaa
#print axioms Go.Proofs.Ytjfmgpelkhgodaa.shakeForged_holds
