/- The walk of package embrasurelaw19's awake: it answers true, and leaves what was there. No condition. -/
import Derived.Test.YtjfmgpelkhgodaaTrustD
import Derived.KernelRfl
namespace Go.Proofs.Ytjfmgpelkhgodaa
open Go.RowKit

def Bf.zero : Bf := ⟨0, 0, [], 0, 0, 0, false⟩
theorem Bf.Ok.zero : Bf.zero.Ok := by
  refine ⟨?_, ?_, ?_, ?_, ?_, ?_⟩ <;> simp [Bf.zero]
theorem bel_zero (w : World) : BelAt (w.alloc (.cells #[.int .i64 0, .int .i64 0, .slice none 0 0, .int .i64 0, .int .i64 0, .int .i64 0, .bool false] 102)) w.heap.size Bf.zero :=
  ⟨_, Cells.new w 102 (bfCells Bf.zero (.slice none 0 0)), SlFull.nil _, fun g hg => by simp [Value.ownBlock] at hg⟩

theorem bf_new0 (w : World) : Calls Try.prog 14 #[] w fun e w' => ∃ b, e = .returned (.pointer (some ⟨b, 0, none⟩)) ∧ BelAt w' b Bf.zero ∧ b = w.heap.size ∧ b < w'.heap.size ∧ Fr [] w w' := by
  refine (bf_new w).mono ?_
  rintro e w' ⟨rfl, rfl⟩
  exact ⟨_, rfl, bel_zero w, rfl, by simp, Fr.alloc _ _ _⟩

/-- One step more on a belief that the call itself has made. -/
theorem Fr.own {w w1 w2 : World} {b : Nat} (h : Fr [] w w1) (hb : w.heap.size ≤ b) (h2 : Fr [b] w1 w2) : Fr [] w w2 := by
  have h3 : Fr [b] w w2 := (h.mono (fun k hk => by cases hk)).trans h2
  exact h3.forget (fun k hk => .inr (by simp at hk; omega))

abbrev aw1 : Bf := ⟨1, 0, [1], 1, 1, 0, false⟩
abbrev aw2 : Bf := ⟨1, 1, [1, 2], 2, 2, 0, false⟩
abbrev aw3 : Bf := ⟨1, 1, [1, 2], 2, 3, 0, false⟩
abbrev aw4 : Bf := ⟨1, 0, [1, 2, 3], 3, 3, 0, false⟩
abbrev aw5 : Bf := ⟨0, 0, [], 3, 1003, 0, false⟩
abbrev aw6 : Bf := ⟨0, 0, [], 3, 1003, 1003, true⟩
abbrev aw7 : Bf := ⟨0, 0, [], 3, 1004, 1003, true⟩

set_option maxRecDepth 100000 in
set_option maxHeartbeats 800000 in
theorem tr_awake (w : World) : Calls Try.prog 13 #[] w fun e w' => e = .returned (.bool true) ∧ Fr [] w w' := by
  have o1 : Bf.zero.hear 1 65536 1 = aw1 := by kernel_rfl
  have o2 : aw1.hear 2 131072 1 = aw2 := by kernel_rfl
  have o3 : aw2.on 2 = aw2 := by kernel_rfl
  have o4 : aw2.hear 3 131072 2 = aw3 := by kernel_rfl
  have o4' : aw2.answer 3 131072 2 = 6 := by kernel_rfl
  have o5 : aw3.hear 3 196608 2 = aw4 := by kernel_rfl
  have o6 : aw4.on 3 = aw4 := by kernel_rfl
  have o7 : aw4.on 1003 = aw5 := by kernel_rfl
  have o8 : aw5.ask 1003 = aw6 := by kernel_rfl
  have o8' : aw5.asks 1003 = true := by kernel_rfl
  have o9 : aw6.ask 1004 = aw7 := by kernel_rfl
  have o9' : aw6.asks 1004 = false := by kernel_rfl
  have o10 : (aw7.on 1004).next = 1018 := by kernel_rfl
  have O1 := Lib.hid o1; clear o1
  have O2 := Lib.hid o2; clear o2
  have O3 := Lib.hid o3; clear o3
  have O4 := Lib.hid o4; clear o4
  have O4' := Lib.hid o4'; clear o4'
  have O5 := Lib.hid o5; clear o5
  have O6 := Lib.hid o6; clear o6
  have O7 := Lib.hid o7; clear o7
  have O8 := Lib.hid o8; clear o8
  have O8' := Lib.hid o8'; clear o8'
  have O9 := Lib.hid o9; clear o9
  have O9' := Lib.hid o9'; clear o9'
  have O10 := Lib.hid o10; clear o10
  have k1 : aw1.Ok := O1.out ▸ Bf.Ok.zero.hear _ _ _
  have k2 : aw2.Ok := O2.out ▸ k1.hear _ _ _
  have k3 : aw3.Ok := O4.out ▸ k2.hear _ _ _
  have k4 : aw4.Ok := O5.out ▸ k3.hear _ _ _
  have k5 : aw5.Ok := O7.out ▸ k4.on _
  have k6 : aw6.Ok := O8.out ▸ k5.ask _
  have k7 : aw7.Ok := O9.out ▸ k6.ask _
  have K := Lib.hid (And.intro k1 (And.intro k2 (And.intro k3 (And.intro k4 (And.intro k5 (And.intro k6 k7))))))
  clear k1 k2 k3 k4 k5 k6 k7
  go_enter Try.func13, Try.ntmps13
  go_wp2_with fail
  refine (bf_new0 w).mono ?_
  rintro e w1 ⟨b, rfl, hB, hbw, hb, hF⟩
  have HF := Lib.hid hF
  have HB := Lib.hid hB
  have HBW := Lib.hid hbw
  clear hF hB hbw
  go_wp2_with fail
  refine (bf_hear b _ _ 1 65536 1 HB.out Bf.Ok.zero).mono ?_
  rw [O1.out]
  rintro e w2 ⟨rfl, hB2, hF2⟩
  have HB2 := Lib.hid hB2
  have HF2 : Hid (Fr [] w w2) := HF.out.own (by rw [HBW.out]; exact Nat.le_refl _) hF2
  clear hB2 hF2
  go_wp2_with fail
  refine (bf_hear b _ _ 2 131072 1 HB2.out K.out.1).mono ?_
  rw [O2.out]
  rintro e w3 ⟨rfl, hB3, hF3⟩
  have HB3 := Lib.hid hB3
  have HF3 : Hid (Fr [] w w3) := HF2.out.own (by rw [HBW.out]; exact Nat.le_refl _) hF3
  clear hB3 hF3
  go_wp2_with fail
  refine (bf_status b _ _ 2 HB3.out K.out.2.1).mono ?_
  rw [O3.out]
  rintro e w4 ⟨rfl, hB4, hF4⟩
  have HB4 := Lib.hid hB4
  have HF4 : Hid (Fr [] w w4) := HF3.out.own (by rw [HBW.out]; exact Nat.le_refl _) hF4
  clear hB4 hF4
  go_wp2_with fail
  refine (bf_hear b _ _ 3 131072 2 HB4.out K.out.2.1).mono ?_
  rw [O4.out, O4'.out]
  rintro e w5 ⟨rfl, hB5, hF5⟩
  have HB5 := Lib.hid hB5
  have HF5 : Hid (Fr [] w w5) := HF4.out.own (by rw [HBW.out]; exact Nat.le_refl _) hF5
  clear hB5 hF5
  go_wp2_with fail
  refine (bf_hear b _ _ 3 196608 2 HB5.out K.out.2.2.1).mono ?_
  rw [O5.out]
  rintro e w6 ⟨rfl, hB6, hF6⟩
  have HB6 := Lib.hid hB6
  have HF6 : Hid (Fr [] w w6) := HF5.out.own (by rw [HBW.out]; exact Nat.le_refl _) hF6
  clear hB6 hF6
  go_wp2_with fail
  refine (bf_status b _ _ 3 HB6.out K.out.2.2.2.1).mono ?_
  rw [O6.out]
  rintro e w7 ⟨rfl, hB7, hF7⟩
  have HB7 := Lib.hid hB7
  have HF7 : Hid (Fr [] w w7) := HF6.out.own (by rw [HBW.out]; exact Nat.le_refl _) hF7
  clear hB7 hF7
  go_wp2_with fail
  refine (bf_status b _ _ 1003 HB7.out K.out.2.2.2.1).mono ?_
  rw [O7.out]
  rintro e w8 ⟨rfl, hB8, hF8⟩
  have HB8 := Lib.hid hB8
  have HF8 : Hid (Fr [] w w8) := HF7.out.own (by rw [HBW.out]; exact Nat.le_refl _) hF8
  clear hB8 hF8
  go_wp2_with fail
  refine (bf_asked b _ _ 1003 HB8.out K.out.2.2.2.2.1).mono ?_
  rw [O8.out, O8'.out]
  rintro e w9 ⟨rfl, hB9, hF9⟩
  have HB9 := Lib.hid hB9
  have HF9 : Hid (Fr [] w w9) := HF8.out.own (by rw [HBW.out]; exact Nat.le_refl _) hF9
  clear hB9 hF9
  go_wp2_with fail
  refine (bf_asked b _ _ 1004 HB9.out K.out.2.2.2.2.2.1).mono ?_
  rw [O9.out, O9'.out]
  rintro e w10 ⟨rfl, hB10, hF10⟩
  have HB10 := Lib.hid hB10
  have HF10 : Hid (Fr [] w w10) := HF9.out.own (by rw [HBW.out]; exact Nat.le_refl _) hF10
  clear hB10 hF10
  go_wp2_with fail
  refine (bf_next b _ _ 1004 HB10.out K.out.2.2.2.2.2.2).mono ?_
  rw [O10.out]
  rintro e w11 ⟨rfl, hB11, hF11⟩
  have HF11 : Hid (Fr [] w w11) := HF10.out.own (by rw [HBW.out]; exact Nat.le_refl _) hF11
  clear hB11 hF11
  go_wp2
  go_returns
  exact ⟨rfl, HF11.out⟩
end Go.Proofs.Ytjfmgpelkhgodaa
