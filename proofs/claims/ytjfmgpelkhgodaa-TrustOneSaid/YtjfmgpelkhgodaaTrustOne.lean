/- TrustOne answers true and leaves its arguments as they were, for every input. No condition. -/
import Derived.Test.YtjfmgpelkhgodaaTrustH
import Derived.Test.YtjfmgpelkhgodaaClose
import Derived.Test.YtjfmgpelkhgodaaOpen
import Derived.OpenShut
namespace Go.Proofs.Ytjfmgpelkhgodaa
open Go.ChangeShapes Go.WideShapes Go.ChangeAt Go.RowKit

theorem do19_cells {H : Type} {enc : TypeId × Value → H} {w : World} {held : Bool} {n : Nat} {cs : List Value} {x : DataW H × List MemPlace}
    (h : DataW.trod enc Try.prog w 0 (fun _ => true) held n 29 cs = some x) :
    ∃ s : Stp, cs[0]? = some (.int .i64 s.wait) ∧ cs[1]? = some (.int .u32 s.by_) ∧ cs[2]? = some (.int .i64 s.told) := by
  obtain ⟨xs, n', _, _, _, hl, hf⟩ := DataW.trod_struct Try.underlying29 h
  have hl : xs.length = 4 := hl
  obtain ⟨a0, c0, _⟩ := int_field Try.underlying3 (by kernel_rfl) (by omega) (hf 0 _ rfl)
  obtain ⟨a1, c1, w1⟩ := int_field Try.underlying27 (by kernel_rfl) (by omega) (hf 1 _ rfl)
  obtain ⟨a2, c2, _⟩ := int_field Try.underlying3 (by kernel_rfl) (by omega) (hf 2 _ rfl)
  obtain ⟨y, rfl⟩ := Int.eq_ofNat_of_zero_le (u32_range w1).1
  exact ⟨⟨a0, y, a2⟩, c0, c1, c2⟩

theorem stps_of {H : Type} {enc : TypeId × Value → H} {w : World} {held : Bool} {fuel : Nat} {v : Value} {x : DataW H × List MemPlace}
    (h : DataW.trod enc Try.prog w 0 (fun _ => true) held fuel 23 [v] = some x) : ∃ L, StpsAt w v L := by
  have hc : Try.prog.cellsOf 29 = 4 := by kernel_rfl
  rcases slice_elems Try.underlying23 h with h0 | ⟨a, len, cap, hcs, hl, hm, hi⟩
  · exact ⟨[], .inl ⟨by simpa using h0, rfl⟩⟩
  · have hv : v = .slice (some a) len cap := by simpa using hcs
    subst hv
    rw [hc] at hi
    have hs : ∀ i, i < len → ∃ s : Stp, w.cell? (a.add (i * 4 + 0)) = some (.int .i64 s.wait) ∧ w.cell? (a.add (i * 4 + 1)) = some (.int .u32 s.by_) ∧ w.cell? (a.add (i * 4 + 2)) = some (.int .i64 s.told) := by
      intro i hlt
      obtain ⟨n, cs', y, hat, _, ht⟩ := hi i (by omega)
      obtain ⟨s, k0, k1, k2⟩ := do19_cells ht
      exact ⟨s, (hat 0 (by omega)).trans k0, (hat 1 (by omega)).trans k1, (hat 2 (by omega)).trans k2⟩
    have : Inhabited Stp := ⟨⟨0, 0, 0⟩⟩
    obtain ⟨f, hf⟩ := Go.Deep.choose_lt hs
    have hlen : ((List.range len).map f).length = len := by simp
    obtain ⟨b, off, sp⟩ := a
    refine ⟨(List.range len).map f, .inr ⟨b, off, cap, sp, by rw [hlen], by rw [hlen]; unfold maxLen at hm; omega, ?_, ?_⟩⟩
    · intro hne
      have h0 : 0 < len := by
        rw [← hlen]
        exact List.length_pos_iff.2 hne
      have hc0 := (hf 0 h0).1
      have e : (⟨b, off, sp⟩ : Addr).add (0 * 4 + 0) = ⟨b, off, sp⟩ := rfl
      rw [e] at hc0
      exact ⟨spot_of_cell hc0, World.block_lt_of_cell? w _ hc0⟩
    · intro j s hj
      have hjl : j < len := by
        have := (List.getElem?_eq_some_iff.1 hj).1
        simpa using this
      have e : f j = s := by simpa [hjl] using hj
      have hc0 := (hf 0 (by omega)).1
      have e0 : (⟨b, off, sp⟩ : Addr).add (0 * 4 + 0) = ⟨b, off, sp⟩ := rfl
      rw [e0] at hc0
      have hsp : sp = none := spot_of_cell hc0
      subst hsp
      have hj := hf j hjl
      rw [e] at hj
      rw [add_off, add_off, add_off] at hj
      exact hj

theorem trustOne_walk (g n : Int) (v : Value) (L : List Stp) (hg : 0 ≤ g ∧ g ≤ 65535) (hn : 0 ≤ n ∧ n ≤ 255) (w : World) (hL : StpsAt w v L) :
    Calls Try.prog 3 #[.int .u16 g, .int .u8 n, v] w fun e w' => e = .returned (.bool true) ∧ Fr [] w w' := by
  obtain ⟨g, rfl⟩ := Int.eq_ofNat_of_zero_le hg.1
  obtain ⟨n, rfl⟩ := Int.eq_ofNat_of_zero_le hn.1
  exact tr_one g n v L (by omega) (by omega) w hL

set_option maxRecDepth 100000 in
theorem trustOne_lifted (os : Os) (started : os.Started) (H : Type) (enc : TypeId × Value → H) :
    ReturnsInHanded {} Try.checked os 3 .any (Rows.trustOneSpec.pre6 enc Try.prog Try.f3 Rows.trustOneRow.domain false) (Rows.trustOneSpec.post enc Try.prog Try.f3 false true false false) := by
  refine returnsInHanded_of_change (C := Try.checked) Try.own started (by kernel_rfl) Try.func3
    (ChangeSpec.witness6 (enc := enc) (C := Try.checked) false ⟨#[], #[.int .u16 0, .int .u8 0, .slice none 0 0], []⟩ 8 (by kernel_rfl) (by kernel_rfl) (by kernel_rfl) (by kernel_rfl)) ?_
  intro W base args ds gs before hval0 hW hcnd _
  have hval : ∀ (j : Nat) t v, Try.f3.params[j]? = some t → args[j]? = some v → Value.okWide Try.prog W .any base t v := hval0
  have hW' := hW
  obtain ⟨p, q, hA0, hV, rfl, hfz, hnd⟩ := hW
  have hA : DataW.TrodAll enc Try.prog W 0 (fun _ => true) true Try.f3.params.toList args.toList ds p := hA0
  rw [Try.params3] at hA hval
  obtain ⟨v0, vs0, d0, ds0, p0, q0, hargs, rfl, rfl, h0, r0⟩ := trodAll_cons hA
  obtain ⟨v1, vs1, d1, ds1, p1, q1, rfl, rfl, rfl, h1, r1⟩ := trodAll_cons r0
  obtain ⟨v2, vs2, d2, ds2, p2, q2, rfl, rfl, rfl, h2, r2⟩ := trodAll_cons r1
  obtain ⟨rfl, rfl, rfl⟩ := trodAll_nil r2
  obtain rfl : args = #[v0, v1, v2] := by cases args; simp_all
  obtain ⟨rfl, rfl⟩ := trodVars_none hV
  obtain ⟨a0, rfl, rfl, rfl, w0⟩ := open_int Try.underlying22 (hval 0 22 v0 rfl rfl) h0
  obtain ⟨a1, rfl, rfl, rfl, w1⟩ := open_int Try.underlying5 (hval 1 5 v1 rfl rfl) h1
  obtain ⟨fuel, h2'⟩ := h2
  have hv2 := hval 2 23 v2 rfl rfl
  obtain ⟨L, hL⟩ : ∃ L, StpsAt W v2 L := by
    obtain ⟨a, n, c, rfl⟩ : ∃ a n c, v2 = .slice a n c := okWide_slice Try.underlying23 hv2
    exact stps_of h2'
  refine (trustOne_walk a0 a1 v2 L (u16_range w0) (u8_range w1) W hL).mono fun e W' ⟨he, hF⟩ => ?_
  subst he
  exact ⟨_, rfl, law_post Try.laidOut Try.underlying4 rfl rfl (by kernel_rfl) hW' rfl hF⟩

/-- TrustOne: the statement. -/
theorem trustOne_holds : Rows.TrustOneSaid :=
  OpenClaim.holds_of_wide 3 Try.f3 rfl rfl rfl rfl rfl rfl rfl ⟨rfl, rfl, rfl, rfl, rfl⟩ rfl rfl rfl rfl rfl (by kernel_rfl) Try.func3 (by kernel_rfl)
    (of_decide_eq_true (by kernel_rfl)) (by unfold Func.isWrapper; first | (rw [if_pos (by decide +kernel)]; kernel_rfl) | (rw [if_neg (by decide +kernel)]; exact ⟨rfl, rfl⟩))
    (fun os started H enc _ => trustOne_lifted os started H enc)
end Go.Proofs.Ytjfmgpelkhgodaa
#print axioms Go.Proofs.Ytjfmgpelkhgodaa.trustOne_holds
