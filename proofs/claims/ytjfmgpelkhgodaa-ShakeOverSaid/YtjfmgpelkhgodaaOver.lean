/- ShakeOver answers true and leaves its arguments as they were, for every input. No condition. -/
import Derived.Test.YtjfmgpelkhgodaaLawK
import Derived.Test.YtjfmgpelkhgodaaTwo
namespace Go.Proofs.Ytjfmgpelkhgodaa
open Go.ChangeShapes Go.WideShapes Go.ChangeAt Go.RowKit

theorem over_heard (L : List En) (s : Sk) (l : List UInt8) (h : s.state = 4) : heard L s l = (s, (L, [])) := by
  unfold heard
  split
  · rfl
  · unfold heardM
    rw [if_pos (.inl h)]
theorem over_called (L : List En) (s : Sk) (h : s.state ≠ 0) : called L s = (s, (L, [])) := by
  unfold called
  rw [if_neg h]
theorem again_none (L : List En) (s : Sk) (h : s.state ≠ 1) (h2 : s.state ≠ 2) : again L s = (L, []) := by
  unfold again
  rw [if_neg h, if_neg h2]
theorem over_all (w : World) (A B : Int) (nA nB : Nat) (v : Value) (D : List Dx) (hD : DosAt w v D) :
    Calls Try.prog 10 #[.agg #[.int .i64 A, .int .i64 B, .int .u64 nA, .int .u64 nB], v] w fun e w' => e = .returned (.bool true) ∧ Fr [] w w' := by
  obtain ⟨ao, cap, rfl, _⟩ := hD.shape
  cases hs : smallAll D
  · exact over_big w A B nA nB ao cap D hD hs
  cases h1 : skMay A B nA
  · exact over_no w A B nA nB ao cap D hD hs h1
  obtain ⟨a, b, rfl, rfl, pa, pb, hne, na⟩ := skMay_iff.1 h1
  obtain ⟨L1, x, e1, hx, g1⟩ := call0 (L := []) (a := a) (b := b) (nA := nA) pa List.nodup_nil (by simp)
  have l1 : L1.length ≤ 1 := by simpa using g1.len
  have hab : a < 9223372036854775808 ∧ b < 9223372036854775808 ∧ nA < 9223372036854775808 := by
    unfold peer at pa pb
    unfold nonce at na
    omega
  have main : ∀ (o : Sk) (ec : Int), skNew b a nB = .tuple #[skV o, .int .i64 ec] → o.Wf → Calls Try.prog 10 #[.agg #[.int .i64 a, .int .i64 b, .int .u64 nA, .int .u64 nB], .slice ao D.length cap] w fun e w' => e = .returned (.bool true) ∧ Fr [] w w' := by
    intro o ec ho hw
    have h2 := (called_len L1 o).2
    exact over_main w a b nA nB ao cap D hD pa pb na hs h1 o ec ho hw L1 (called L1 o).2.1 x (called L1 o).2.2 (called L1 o).1 ⟨by omega, by omega⟩ (again_none _ _ (by simp) (by simp)) e1 rfl (fun l => over_heard _ _ l rfl) (over_called _ _ (by simp)) (again_none _ _ (by simp) (by simp))
  cases h2 : skMay b a nB
  · exact main ⟨0, 0, 0, 0, 0⟩ 1 (skNew_no h2) ⟨by simp, by simp, by simp, by simp⟩
  · obtain ⟨b', a', _, _, _, _, _, hn⟩ := skMay_iff.1 h2
    refine main ⟨0, b, a, nB, 0⟩ 0 (skNew_ok h2) ⟨by dsimp only; omega, by dsimp only; omega, ?_, by simp⟩
    unfold nonce at hn
    dsimp only
    omega

set_option maxRecDepth 100000 in
theorem shakeOver_lifted (os : Os) (started : os.Started) (H : Type) (enc : TypeId × Value → H) :
    ReturnsInHanded {} Try.checked os 10 .any (Rows.shakeOverSpec.pre6 enc Try.prog Try.f10 Rows.shakeOverRow.domain false) (Rows.shakeOverSpec.post enc Try.prog Try.f10 false true false false) := by
  refine returnsInHanded_of_change (C := Try.checked) Try.own started (by kernel_rfl) Try.func10
    (ChangeSpec.witness6 (enc := enc) (C := Try.checked) false ⟨#[], #[.agg #[.int .i64 0, .int .i64 0, .int .u64 0, .int .u64 0], .slice none 0 0], []⟩ 8 (by kernel_rfl) (by kernel_rfl) (by kernel_rfl) (by kernel_rfl)) ?_
  intro W base args ds gs before hval0 hW hcnd _
  have hval : ∀ (j : Nat) t v, Try.f10.params[j]? = some t → args[j]? = some v → Value.okWide Try.prog W .any base t v := hval0
  have hW' := hW
  obtain ⟨p, q, hA0, hV, rfl, hfz, hnd⟩ := hW
  have hA : DataW.TrodAll enc Try.prog W 0 (fun _ => true) true Try.f10.params.toList args.toList ds p := hA0
  rw [Try.params10] at hA hval
  obtain ⟨v0, vs0, d0, ds0, p0, q0, hargs, rfl, rfl, h0, r0⟩ := trodAll_cons hA
  obtain ⟨v1, vs1, d1, ds1, p1, q1, rfl, rfl, rfl, h1, r1⟩ := trodAll_cons r0
  obtain ⟨rfl, rfl, rfl⟩ := trodAll_nil r1
  obtain rfl : args = #[v0, v1] := by cases args; simp_all
  obtain ⟨rfl, rfl⟩ := trodVars_none hV
  obtain ⟨A, B, nA, nB, rfl⟩ := two15_of (hval 0 42 v0 rfl rfl) h0
  obtain ⟨fuel1, h1'⟩ := h1
  have hv1 := hval 1 43 v1 rfl rfl
  obtain ⟨D, hl1⟩ : ∃ D, DosAt W v1 D := by
    obtain ⟨a, n, c, rfl⟩ : ∃ a n c, v1 = .slice a n c := okWide_slice Try.underlying43 hv1
    exact dos_of h1'
  refine (over_all W A B nA nB v1 D hl1).mono fun e W' ⟨he, hF⟩ => ?_
  subst he
  exact ⟨_, rfl, law_post Try.laidOut Try.underlying4 rfl rfl (by kernel_rfl) hW' rfl hF⟩

/-- ShakeOver: the statement. -/
theorem shakeOver_holds : Rows.ShakeOverSaid :=
  OpenClaim.holds_of_wide 10 Try.f10 rfl rfl rfl rfl rfl rfl rfl ⟨rfl, rfl, rfl, rfl, rfl⟩ rfl rfl rfl rfl rfl (by kernel_rfl) Try.func10 (by kernel_rfl)
    (of_decide_eq_true (by kernel_rfl)) (by unfold Func.isWrapper; first | (rw [if_pos (by decide +kernel)]; kernel_rfl) | (rw [if_neg (by decide +kernel)]; exact ⟨rfl, rfl⟩))
    (fun os started H enc _ => shakeOver_lifted os started H enc)
end Go.Proofs.Ytjfmgpelkhgodaa
#print axioms Go.Proofs.Ytjfmgpelkhgodaa.shakeOver_holds
