/- slices.Grow at the nil slice, slices.Concat: rows of uint64. -/
import Derived.Lib.AppendZerosOnto
import Derived.Test.YtjfmgpelkhgodaaWireF
namespace Go.Proofs.Ytjfmgpelkhgodaa
open Go.RowKit
attribute [local go_sem ↓ high] run_min_whole run_max_whole

set_option maxRecDepth 100000 in
set_option maxHeartbeats 1600000 in
theorem sl_grow (w : World) (n : Nat) (hn : 0 < n) (hn2 : n ≤ 100000) : Calls Try.prog 127 #[.slice none 0 0, .int .i64 n] w fun e w' => ∃ v, e = .returned v ∧ w'.ownsRow w.heap.size 40 1 v 0 [] ∧ Fr [] w w' := by
  obtain ⟨i0, hi, hz0, hz1, hz2⟩ := info_parts Try.info_u64
  have hold : (Builtin.firstCells i0.size 0 (.slice none 0 0)).run Try.prog w.drew = .ok ([] : List Value).toArray w.drew := by
    simp [Builtin.firstCells]
  have hr : ∀ ty, _ := fun ty => Lib.run_append_grow_zeros (P := Try.prog) w 53 3 ty 40 i0 (.int .u64 0) .i64 .i64 Try.underlying53 Try.underlying3 hi hz0 none 0 0 [] hold n hn (by omega) (by omega) (by omega) (by rw [hz2]; omega) (growslice_fits (by omega) (by rw [hz2]; omega))
  have hG := grownCap_ge w n 0 40
  have hG2 := grownCap_le_maxLen w n 0 40 (by unfold maxLen; omega)
  simp only [Nat.zero_add] at hr
  generalize grownCap w n 0 40 = G at hr hG hG2
  have h1 : ¬ (n : Int) < 0 := by omega
  have h2 : (0 : Int) < (n : Int) := by omega
  have h3 : IntKind.i64.wrap (n : Int) = n := IntWalk.i64_in _ (by omega)
  unfold maxLen at hG2
  go_enter Try.func127, Try.ntmps127
  go_wp2_with (at_builtin; refine Lib.wpList_append_run _ rfl _ _ _ _ rfl _ _ rfl rfl _ _ (hr _) ?_)
  go_ret
  have hsz : ∀ k, (Builtin.zeroCells #[Value.int .u64 0] k).size = k := by
    intro k
    simp [Builtin.zeroCells]
  refine ⟨_, rfl, ⟨by simp, .inr ⟨w.heap.size, G, _, rfl, Nat.le_refl _, heap_alloc_new w.drew _, Nat.zero_le _, ?_, ?_, by simp⟩⟩, (Fr.drew w []).trans ((Fr.refl [] w.drew).calloc _)⟩
  · unfold maxLen
    omega
  · simp [hsz]
    omega

def U64At (w : World) (ss : List (Value × List Nat)) (g : Nat) : Prop := (∀ j (s : Value × List Nat), ss[j]? = some s → w.cell? ⟨g, j, none⟩ = some s.1 ∧ SlAt w s.1 (u64s s.2))
def flat (ss : List (Value × List Nat)) : List Nat := ss.flatMap (·.2)
theorem flat_take_succ {ss : List (Value × List Nat)} {k : Nat} {s : Value × List Nat} (h : ss[k]? = some s) : flat (ss.take (k + 1)) = flat (ss.take k) ++ s.2 := by
  unfold flat
  rw [List.take_add_one, h]
  simp
theorem flat_take_le (ss : List (Value × List Nat)) (k : Nat) : (flat (ss.take k)).length ≤ (flat ss).length := by
  have : flat ss = flat (ss.take k) ++ flat (ss.drop k) := by
    unfold flat
    rw [← List.flatMap_append, List.take_append_drop]
  rw [this, List.length_append]
  omega

theorem u64s_one (l : List Nat) : ∀ u ∈ u64s l, u.oneCell' = true := by
  intro u hu
  obtain ⟨c, _, rfl⟩ := List.mem_map.1 hu
  rfl
theorem u64s_append (a b : List Nat) : u64s (a ++ b) = u64s a ++ u64s b := by simp [u64s]

set_option maxRecDepth 100000 in
set_option maxHeartbeats 1600000 in
theorem sl_concat (w : World) (g n cap : Nat) (ss : List (Value × List Nat)) (hn : ss.length = n) (hg : g < w.heap.size) (hss : U64At w ss g) (hpos : 0 < (flat ss).length) (hmax : (flat ss).length ≤ 100000) (hn2 : n ≤ 1000) :
    Calls Try.prog 120 #[.slice (some ⟨g, 0, none⟩) n cap] w fun e w' => ∃ v, e = .returned v ∧ w'.ownsRow w.heap.size 40 1 v (flat ss).length (u64s (flat ss)) ∧ Fr [] w w' := by
  obtain ⟨i0, hi, hz0, hz1, hz2⟩ := info_parts Try.info_u64
  have HSS := Lib.hid hss
  have HNN := Lib.hid hn
  have hg' := hg
  clear hss hn
  go_enter Try.func120, Try.ntmps120
  go_wp2_with fail
  go_loopw [3, 11] (fun sz k wr => ∃ i : Nat, i ≤ n ∧ k = .int .i64 i ∧ sz = .int .i64 (flat (ss.take i)).length ∧ Fr [] w wr) (fun _ k _ => n - (intOf k).toNat)
  case atStart => exact ⟨0, Nat.zero_le _, rfl, by simp [flat], Fr.refl _ _⟩
  case round =>
    obtain ⟨i, hin, rfl, rfl, hF⟩ := hrel
    have HF := Lib.hid hF
    clear hF
    have hle := flat_take_le ss i
    by_cases hlt : i < n
    · obtain ⟨s, hs⟩ : ∃ s, ss[i]? = some s := ⟨_, List.getElem?_eq_getElem (by rw [HNN.out]; exact hlt)⟩
      obtain ⟨d0, d1⟩ := HSS.out i s hs
      have HT := Lib.hid (flat_take_succ hs)
      have hle2 := flat_take_le ss (i + 1)
      rw [HT.out, List.length_append] at hle2
      obtain ⟨v, l⟩ := s
      dsimp only at d0 d1 hle2
      obtain ⟨sa, sc, hsv⟩ := sl_shape d1
      rw [u64s_length] at hsv
      subst hsv
      have c0 : wr.cell? ⟨g, i, none⟩ = some (.slice sa l.length sc) := (World.cell?_of_block (w := w) (HF.out.block g hg (by simp))).trans d0
      have hi0 : (0 : Int) ≤ (i : Int) := by omega
      have hi1 : (i : Int) < (n : Int) := by omega
      have HL : Hid ((flat (ss.take (i + 1))).length = (flat (ss.take i)).length + l.length) := by
        show _ = _
        rw [HT.out, List.length_append]
      generalize hA : (flat (ss.take i)).length = A at *
      have hw : IntKind.i64.wrap ((A : Int) + (l.length : Int)) = (A : Int) + (l.length : Int) := IntWalk.i64_in _ (by omega)
      have hneg : ¬ (A : Int) + (l.length : Int) < 0 := by omega
      clear hs hA d0 d1
      go_wp2_with fail
      go_roundw
      case rel => exact ⟨i + 1, hlt, by simp, by rw [HL.out]; simp, HF.out⟩
      case measure =>
        simp [intOf]
        omega
    · obtain rfl : i = n := by omega
      have HW : Hid (flat (ss.take i) = flat ss) := by
        show _ = _
        rw [← HNN.out, List.take_length]
      rw [HW.out]
      clear hle
      go_wp2_with fail
      refine (sl_grow wr (flat ss).length hpos hmax).mono ?_
      rintro e w2 ⟨v2, rfl, ho2, hf2⟩
      have HF2 := Lib.hid (HF.out.trans hf2)
      have HO2 := Lib.hid (own_base ho2 HF.out.size)
      clear ho2 hf2
      go_wp2_with fail
      go_loopw [6, 27] (fun v k wr => ∃ j : Nat, j ≤ i ∧ k = .int .i64 j ∧ wr.ownsRow w.heap.size 40 1 v (flat (ss.take j)).length (u64s (flat (ss.take j))) ∧ Fr [] w wr) (fun _ k _ => i - (intOf k).toNat)
      case atStart => exact ⟨0, Nat.zero_le _, rfl, HO2.out, HF2.out⟩
      case round =>
        obtain ⟨j, hjn, rfl, hown, hF3⟩ := hrel
        have HF3 := Lib.hid hF3
        have HO3 := Lib.hid hown
        clear hF3 hown
        by_cases hlt : j < i
        · obtain ⟨s, hs⟩ : ∃ s, ss[j]? = some s := ⟨_, List.getElem?_eq_getElem (by rw [HNN.out]; exact hlt)⟩
          obtain ⟨d0, d1⟩ := HSS.out j s hs
          have HT := Lib.hid (flat_take_succ hs)
          have hle2 := flat_take_le ss (j + 1)
          rw [HT.out, List.length_append] at hle2
          obtain ⟨v, l⟩ := s
          dsimp only at d0 d1 hle2
          have HD1 := Lib.hid (d1.fr HF3.out (by simp))
          obtain ⟨sa, sc, hsv⟩ := sl_shape d1
          rw [u64s_length] at hsv
          subst hsv
          have c0 : wr.cell? ⟨g, j, none⟩ = some (.slice sa l.length sc) := (World.cell?_of_block (w := w) (HF3.out.block g hg (by simp))).trans d0
          have hi0 : (0 : Int) ≤ (j : Int) := by omega
          have hi1 : (j : Int) < (i : Int) := by omega
          have HB1 : Hid ((flat (ss.take j)).length + (u64s l).length ≤ maxLen ∧ ((flat (ss.take j)).length + (u64s l).length) * 8 ≤ 140737488355328) := by
            show _ ∧ _
            rw [u64s_length]
            unfold maxLen
            omega
          clear hs d0 d1 hle2
          go_wp2_with (at_builtin; refine wpList_append_sl rfl _ _ 53 rfl w.heap.size 40 i0 (.int .u64 0) 8 Try.underlying53 hi hz0 hz1 hz2 rfl u6 (flat (ss.take j)).length (u64s (flat (ss.take j))) rfl HO3.out (.slice sa l.length sc) (u64s l) rfl HD1.out (u64s_one _) ?b1 ?b2 HF3.out.size ?_)
          case b1 => exact HB1.out.1
          case b2 => exact HB1.out.2
          intro v' w5 hown5 hgrow _
          have HO5 : Hid (w5.ownsRow w.heap.size 40 1 v' (flat (ss.take (j + 1))).length (u64s (flat (ss.take (j + 1))))) := by
            show World.ownsRow _ _ _ _ _ _ _
            rw [HT.out]
            rw [u64s_length] at hown5
            rw [List.length_append, u64s_append]
            exact hown5
          have HF5 : Hid (Fr [] w w5) := HF3.out.cgrown hgrow (by
            intro q hq
            right
            exact own_ge HO3.out hq)
          clear hown5 hgrow
          go_wp2_with fail
          go_roundw
          case rel => exact ⟨j + 1, hlt, by simp, HO5.out, HF5.out⟩
          case measure =>
            simp [intOf]
            omega
        · obtain rfl : j = i := by omega
          have HO4 : Hid (wr.ownsRow w.heap.size 40 1 u6 (flat ss).length (u64s (flat ss))) := by
            have := HO3.out
            rw [HW.out] at this
            exact this
          go_wp2_with fail
          go_ret
          exact ⟨_, rfl, HO4.out, HF3.out⟩
end Go.Proofs.Ytjfmgpelkhgodaa
