/- The walk of notary.Check. -/
import Derived.BigRegion
import Derived.Test.YtjfmgpelkhgodaaNotB
namespace Go.Proofs.Ytjfmgpelkhgodaa
open Go.RowKit
attribute [local go_sem ↓ high] run_min_whole run_max_whole

theorem bytes_toList (l : List UInt8) : (⟨l.toArray⟩ : ByteArray).toList = l := by rw [ByteArray.toList_eq]
set_option maxRecDepth 100000 in
theorem run_eq_en' (d : Nat) (p q : Int) (t r : List UInt8) (W : World) : (Op.equalIn (d + 1 + 1) 119 (.agg #[.int .i64 p, .string ⟨t.toArray⟩]) (.agg #[.int .i64 q, .string ⟨r.toArray⟩])).run Try.prog W = .ok (decide ((p, t) = (q, r))) W := by
  have hf : Try.prog.underlying 119 = some (.struct (Try.prog.fieldsOf 119)) := by kernel_rfl
  have hp : Try.prog.stoodInHeld 119 = false := by kernel_rfl
  rw [run_equalIn_agg W (d + 1) _ _ _ hf hp]
  have hfs := hf
  rw [Try.underlying119] at hfs
  injection hfs with hfs
  injection hfs with hfs
  rw [← hfs]
  simp [Op.eqFields, go_sem, Try.underlying3, Try.underlying9]
  by_cases h1 : p = q
  · by_cases h2 : t = r <;> simp [h1, h2]
  · simp [h1]

def ncheck (L : List En) (p : Int) (t : List UInt8) (tag : Nat) : Int := if 1 ≤ tag ∧ L[tag - 1]? = some (p, t) then 0 else 12

theorem en_flat_at (L : List En) : ∀ (j : Nat) (e : En), L[j]? = some e → (L.flatMap fun e => [Value.int .i64 e.1, bstr e.2])[j * 2]? = some (.int .i64 e.1) ∧ (L.flatMap fun e => [Value.int .i64 e.1, bstr e.2])[j * 2 + 1]? = some (bstr e.2) := by
  induction L with
  | nil => intro j a h; simp at h
  | cons b l ih =>
    intro j a h
    cases j with
    | zero =>
      simp at h
      subst h
      simp
    | succ j =>
      have := ih j a (by simpa using h)
      rw [show (j + 1) * 2 = j * 2 + 2 from by omega]
      simpa using this
theorem NotIn.at {w : World} {b mb : Nat} {lv : Value} {L : List En} (h : NotIn w b mb lv L) {j : Nat} {e : En} (hj : L[j]? = some e) : ∃ g cap, lv = .slice (some ⟨g, 0, none⟩) L.length cap ∧ ∀ p : GrowTo [] w, p.world.cell? ⟨g, j * 2, none⟩ = some (.int .i64 e.1) ∧ p.world.cell? ⟨g, j * 2 + 1, none⟩ = some (.string ⟨e.2.toArray⟩) := by
  have hlt := (List.getElem?_eq_some_iff.1 hj).1
  rcases h.list.2 with ⟨_, h0⟩ | ⟨g, cap, cur, rfl, hb, hh, h1, h2, h3, h4⟩
  · omega
  · refine ⟨g, cap, rfl, fun q => ?_⟩
    have hh' : q.world.heap[g]? = some (.cells cur 119 (0, 0)) := (q.fr.block g (Array.getElem?_eq_some_iff.1 hh).1 (by simp)).trans hh
    have cell : ∀ i, i < L.length * 2 → q.world.cell? ⟨g, i, none⟩ = (L.flatMap fun e => [Value.int .i64 e.1, bstr e.2])[i]? := by
      intro i hi
      have hc := cell_of_row q.world g i cur 119 (0, 0) hh'
      rw [hc, ← h4, List.getElem?_take, if_pos hi]
      simp
    obtain ⟨p1, p2⟩ := en_flat_at L j e hj
    exact ⟨(cell _ (by omega)).trans p1, (cell _ (by omega)).trans p2⟩

set_option maxRecDepth 100000 in
set_option maxHeartbeats 1500000 in
theorem not_check (w : World) (b mb : Nat) (lv : Value) (L : List En) (p : Int) (tv : Value) (t : List UInt8) (tag : Nat) (hN : NotIn w b mb lv L) (ht : SlAt w tv (u8s t)) (htag : tag < 18446744073709551616) (hlen : L.length ≤ 100000) :
    Calls Try.prog 63 #[.pointer (some ⟨b, 0, none⟩), .int .i64 p, tv, .int .u64 tag] w fun e w' => e = .returned (.int .i64 (ncheck L p t tag)) ∧ Fr [] w w' := by
  have HN := Lib.hid hN
  have hstr := fun (p : GrowTo [] w) => run_conv (ht.fr p.fr (by simp)).ex
  unfold bstr at hstr
  have hstr := hstr ⟨w.drew, Fr.drew w []⟩
  have c1 := fun p => grow_cell (S := []) hN.cells (by simp) 1 p
  have c1 := c1 ⟨w, Fr.refl [] w⟩
  dsimp only at hstr c1
  simp only [List.getElem?_cons_zero, List.getElem?_cons_succ] at c1
  by_cases h1 : tag < 1
  · have HC : Hid (ncheck L p t tag = 12) := by
      show _ = _
      unfold ncheck
      rw [if_neg (by omega)]
    have h1' : decide ((tag : Int) < 1) = true := by simp; omega
    clear hN ht h1
    rw [HC.out]
    go_enter Try.func63, Try.ntmps63
    go_wp2_with fail
    go_region
    go_wp2
    go_ret
    exact ⟨rfl, Fr.drew w []⟩
  by_cases h2 : L.length < tag
  · have HC : Hid (ncheck L p t tag = 12) := by
      show _ = _
      unfold ncheck
      rw [if_neg]
      rintro ⟨_, h⟩
      have := (List.getElem?_eq_some_iff.1 h).1
      omega
    have h1' : decide ((tag : Int) < 1) = false := by simp; omega
    have h2' : decide (L.length < tag) = true := by simp; omega
    have h3 : (0 : Int) ≤ (L.length : Int) := by omega
    have h4 : (L.length : Int) ≤ 18446744073709551615 := by omega
    have hwr : IntKind.u64.wrap (L.length : Int) = (L.length : Int) := IntWalk.u64_in _ ⟨h3, h4⟩
    obtain ⟨ao, cap, rfl⟩ := own_shape hN.list
    clear hN ht h1 h2
    rw [HC.out]
    go_enter Try.func63, Try.ntmps63
    go_wp2_with fail
    go_region
    go_wp2
    go_ret
    exact ⟨rfl, Fr.drew w []⟩
  obtain ⟨⟨q, r⟩, hr⟩ : ∃ e, L[tag - 1]? = some e := ⟨_, List.getElem?_eq_getElem (by omega)⟩
  have HR := Lib.hid hr
  obtain ⟨j, hj⟩ : ∃ j, tag = j + 1 := ⟨tag - 1, by omega⟩
  subst hj
  rw [Nat.add_sub_cancel] at HR hr
  obtain ⟨g, cap, rfl, e0⟩ := hN.at hr
  have hjl : j < L.length := (List.getElem?_eq_some_iff.1 hr).1
  have e1 := (e0 ⟨w, Fr.refl [] w⟩).2
  have e0 := (e0 ⟨w, Fr.refl [] w⟩).1
  dsimp only at e0 e1
  have HC : Hid (ncheck L p t (j + 1) = if (q, r) = (p, t) then 0 else 12) := by
    show _ = _
    unfold ncheck
    rw [Nat.add_sub_cancel, HR.out]
    simp
  have heq : ∀ W, (Op.equalIn 10000 119 (.agg #[.int .i64 q, .string ⟨r.toArray⟩]) (.agg #[.int .i64 p, .string ⟨t.toArray⟩])).run Try.prog W = .ok (decide ((q, r) = (p, t))) W := fun W => run_eq_en' 9998 q p r t W
  have hgd : Try.prog.eqGuardType Try.prog.depth 119 = false := by kernel_rfl
  rw [HC.out]
  have h1' : decide ((j : Int) + 1 < 1) = false := by simp; omega
  have h2' : decide ((L.length : Int) < (j : Int) + 1) = false := by simp; omega
  have h2'' : decide (L.length < j + 1) = false := by simp; omega
  have hjl' : (j : Int) < (L.length : Int) := by omega
  have h3 : (0 : Int) ≤ (L.length : Int) := by omega
  have h4 : (L.length : Int) ≤ 18446744073709551615 := by omega
  have hwr : IntKind.u64.wrap (L.length : Int) = (L.length : Int) := IntWalk.u64_in _ ⟨h3, h4⟩
  have hwj : IntKind.u64.wrap (j : Int) = (j : Int) := IntWalk.u64_in _ (by omega)
  have hj0 : (0 : Int) ≤ (j : Int) := by omega
  clear hN ht h1 h2 hr
  by_cases he : (q, r) = (p, t)
  · rw [if_pos he]
    simp only [decide_eq_true he] at heq
    clear he
    go_enter Try.func63, Try.ntmps63
    go_wp2_with fail
    go_region
    go_wp2
    go_ret
    exact ⟨rfl, Fr.drew w []⟩
  · rw [if_neg he]
    simp only [decide_eq_false he] at heq
    clear he
    go_enter Try.func63, Try.ntmps63
    go_wp2_with fail
    go_region
    go_wp2
    go_ret
    exact ⟨rfl, Fr.drew w []⟩
end Go.Proofs.Ytjfmgpelkhgodaa
