/- The walk of ShakeTrue. -/
import Derived.Test.YtjfmgpelkhgodaaLawV
import Derived.Deep.DeepCutAuto
import Derived.Deep.CutBlock
namespace Go.Proofs.Ytjfmgpelkhgodaa
open Go.RowKit
attribute [local go_sem ↓ high] run_min_whole run_max_whole

set_option maxRecDepth 100000 in
set_option maxHeartbeats 8000000 in
theorem true_main (w : World) (a b : Nat) (nA nB : Nat) (ao : Option Addr) (cap : Nat) (D : List Dx) (HD : Hid (DosAt w (.slice ao D.length cap) D)) (PA : Hid (peer a)) (PB : Hid (peer b)) (NA : Hid (nonce nA)) (NB : Hid (nonce nB)) (hab : a ≠ b) (HSM : Hid (smallAll D = true)) (H1 : Hid (skMay a b nA = true)) (H2 : Hid (skMay b a nB = true)) :
    Calls Try.prog 6 #[.agg #[.int .i64 a, .int .i64 b, .int .u64 nA, .int .u64 nB], .slice ao D.length cap] w fun e w' => e = .returned (.bool true) ∧ Fr [] w w' := by
  go_enter Try.func6, Try.ntmps6
  have HS0 := Lib.hid (Sep.start [] w)
  go_wp2_with fail
  obtain ⟨gt, hgt⟩ : ∃ g, g = w.heap.size := ⟨_, rfl⟩
  obtain ⟨w1, hw⟩ : ∃ w1, w.alloc (.cells #[.int .i64 a, .int .i64 b, .int .u64 nA, .int .u64 nB] 42) = w1 := ⟨_, rfl⟩
  rw [hw, ← hgt]
  have hs := HS0.out.lay 42 [.int .i64 a, .int .i64 b, .int .u64 nA, .int .u64 nB]
  rw [hw, ← hgt] at hs
  have HS1 := Lib.hid hs
  clear hw hgt hs
  go_wp2_with fail
  have hq := lw_awake w1
  have HQ := Lib.hid hq
  clear hq
  refine HQ.out.mono ?_
  clear HQ
  rintro e w2 ⟨rfl, hf⟩
  have HS2 := Lib.hid (HS1.out.grow hf)
  clear hf
  go_wp2_with fail
  have hq := lw_small w2 _ D (HD.out.fr HS2.out.fr)
  rw [HSM.out] at hq
  have HQ := Lib.hid hq
  clear hq
  refine HQ.out.mono ?_
  clear HQ
  rintro e w3 ⟨rfl, hf⟩
  have HS3 := Lib.hid (HS2.out.grow hf)
  clear hf
  have qgt0 := ((HS3.out.cells 0 rfl)).cell 0
  have qgt1 := ((HS3.out.cells 0 rfl)).cell 1
  have qgt2 := ((HS3.out.cells 0 rfl)).cell 2
  have qgt3 := ((HS3.out.cells 0 rfl)).cell 3
  simp only [List.getElem?_cons_zero, List.getElem?_cons_succ] at qgt0 qgt1 qgt2 qgt3
  go_wp2_with fail
  clear qgt0 qgt1 qgt2 qgt3
  have hq := sk_new w3 a b nA
  rw [skNew_ok H1.out] at hq
  have HQ := Lib.hid hq
  clear hq
  refine HQ.out.mono ?_
  clear HQ
  rintro e w4 ⟨rfl, hf⟩
  have HS4 := Lib.hid (HS3.out.grow hf)
  clear hf
  have qgt0 := fun o => ((HS4.out.cells 0 rfl).alloc o).cell 0
  have qgt1 := fun o => ((HS4.out.cells 0 rfl).alloc o).cell 1
  have qgt2 := fun o => ((HS4.out.cells 0 rfl).alloc o).cell 2
  have qgt3 := fun o => ((HS4.out.cells 0 rfl).alloc o).cell 3
  simp only [List.getElem?_cons_zero, List.getElem?_cons_succ] at qgt0 qgt1 qgt2 qgt3
  go_wp2_with fail
  obtain ⟨ga, hga⟩ : ∃ g, g = w4.heap.size := ⟨_, rfl⟩
  obtain ⟨w5, hw⟩ : ∃ w1, w4.alloc (.cells #[.int .i64 0, .int .i64 a, .int .i64 b, .int .u64 nA, .int .u64 0] 46) = w1 := ⟨_, rfl⟩
  rw [hw, ← hga]
  have hs := HS4.out.lay 46 [.int .i64 0, .int .i64 a, .int .i64 b, .int .u64 nA, .int .u64 0]
  rw [hw, ← hga] at hs
  have HS5 := Lib.hid hs
  clear hw hga hs
  clear qgt0 qgt1 qgt2 qgt3
  have qgt0 := ((HS5.out.cells 1 rfl)).cell 0
  have qgt1 := ((HS5.out.cells 1 rfl)).cell 1
  have qgt2 := ((HS5.out.cells 1 rfl)).cell 2
  have qgt3 := ((HS5.out.cells 1 rfl)).cell 3
  simp only [List.getElem?_cons_zero, List.getElem?_cons_succ] at qgt0 qgt1 qgt2 qgt3
  go_wp2_with fail
  clear qgt0 qgt1 qgt2 qgt3
  have hq := sk_new w5 b a nB
  rw [skNew_ok H2.out] at hq
  have HQ := Lib.hid hq
  clear hq
  refine HQ.out.mono ?_
  clear HQ
  rintro e w6 ⟨rfl, hf⟩
  have HS6 := Lib.hid (HS5.out.grow hf)
  clear hf
  go_wp2_with fail
  obtain ⟨gb, hgb⟩ : ∃ g, g = w6.heap.size := ⟨_, rfl⟩
  obtain ⟨w7, hw⟩ : ∃ w1, w6.alloc (.cells #[.int .i64 0, .int .i64 b, .int .i64 a, .int .u64 nB, .int .u64 0] 46) = w1 := ⟨_, rfl⟩
  rw [hw, ← hgb]
  have hs := HS6.out.lay 46 [.int .i64 0, .int .i64 b, .int .i64 a, .int .u64 nB, .int .u64 0]
  rw [hw, ← hgb] at hs
  have HS7 := Lib.hid hs
  clear hw hgb hs
  go_wp2_with fail
  refine (not_new w7).mono ?_
  rintro e w8 ⟨rfl, hn, hf⟩
  have HS8 := Lib.hid (HS7.out.notary hn hf (by omega) (by omega))
  clear hn hf
  obtain ⟨nb, hnb⟩ : ∃ nb, nb = (w7.heap.size + 1) := ⟨_, rfl⟩
  obtain ⟨mb, hmb⟩ : ∃ mb, mb = w7.heap.size := ⟨_, rfl⟩
  rw [← hnb, ← hmb] at HS8
  go_wp2_with fail
  rw [← hnb]
  clear hnb hmb
  have hDl : D.length ≤ 9223372036854775807 := by
    obtain ⟨_, _, _, h⟩ := HD.out.shape
    unfold maxLen at h
    omega
  go_loopw [10, 11, 12] (fun v10 v11 v12 wr => ∃ (i : Nat) (sa sb : Sk) (L : List En) (ans : Bool) (lv : Value) (so : Option Addr) (sc : Nat) (S : List (Value × List UInt8)), v12 = .int .i64 i ∧ v11 = .bool ans ∧ v10 = .slice so S.length sc ∧ i ≤ D.length ∧ i ≤ 60 ∧ TInv a b nA nB i ⟨sa, sb, L, S.map (·.2), ans⟩ ∧ Sep [] w wr [rowI 52 1 (.slice so S.length sc) S.length (S.map (·.1)), notI nb mb lv L, cellsI gb 46 [.int .i64 sb.state, .int .i64 sb.own, .int .i64 sb.other, .int .u64 sb.nonce, .int .u64 sb.echo], cellsI ga 46 [.int .i64 sa.state, .int .i64 sa.own, .int .i64 sa.other, .int .u64 sa.nonce, .int .u64 sa.echo], cellsI gt 42 [.int .i64 a, .int .i64 b, .int .u64 nA, .int .u64 nB]] (S.map sIt)) (fun _ _ v _ => 60 - (intOf v).toNat)
  case atStart =>
    refine ⟨0, ⟨0, a, b, nA, 0⟩, ⟨0, b, a, nB, 0⟩, [], false, .slice none 0 0, none, 0, [], rfl, rfl, rfl, Nat.zero_le _, Nat.zero_le _, TInv.start a b nA nB, ?_⟩
    exact HS8.out.new (Fr.refl _ _) (n := rowI 52 1 (.slice none 0 0) 0 []) (World.ownsRow_nil _ _ _ _) (by simp [rowI, Value.ownBlock])
  case round =>
    obtain ⟨i, sa, sb, L, ans, lv, so, sc, S, rfl, rfl, rfl, hi, hi60, hinv, hs⟩ := hrel
    have HI := Lib.hid hinv
    have HSr := Lib.hid hs
    have hi0 : (0 : Int) ≤ (i : Int) := by omega
    clear hinv hs
    by_cases hlt : i < D.length ∧ i < 60
    rotate_left
    · by_cases hlt1 : i < D.length
      · have h60' : ¬ (i : Int) < 60 := by omega
        go_wp2_with fail
        go_ret
        exact ⟨rfl, HSr.out.fr⟩
      · clear hlt
        go_wp2_with fail
        go_ret
        exact ⟨rfl, HSr.out.fr⟩
    obtain ⟨hlt, h60⟩ := hlt
    have h60' : (i : Int) < 60 := by omega
    obtain ⟨d, hd⟩ : ∃ d, D[i]? = some d := ⟨_, List.getElem?_eq_getElem hlt⟩
    obtain ⟨g, off, rfl, hg, hok, hc⟩ := HD.out.get hd
    obtain ⟨kind, side, place, bv, bs, nv, av, xv, m⟩ := d
    have hpl : place < 256 := hok.place
    have hpl0 : (0 : Int) ≤ (place : Int) := by omega
    have hpl1 : (place : Int) ≤ 255 := by omega
    obtain ⟨ba, bc, hbv⟩ := hok.bytes.shape
    obtain ⟨na, nc, hnv⟩ := hok.msg.nums.shape
    obtain ⟨aa, ac, hav⟩ := ads_shape hok.msg.addrs
    obtain ⟨xa, xc, hxv⟩ := hok.msg.body.shape
    simp only [u8s_length, u64s_length] at hbv hnv hav hxv
    subst hbv hnv hav hxv
    have HOK := Lib.hid hok
    have HSO : Hid (bs.length ≤ 300) := small_bs (smallAll_get HSM.out hd h60)
    have HWi : Hid (sa.Wf ∧ sb.Wf ∧ L.length ≤ 100 ∧ S.length ≤ 100) := by
      have h := HI.out
      have h1 := h.len
      have h2 := h.slen
      have h3 := h.ea
      have h4 := h.eb
      have h5 := h.own
      have h6 := h.oth
      have ka := PA.out.2
      have kb := PB.out.2
      have na := NA.out.2
      have nb := NB.out.2
      dsimp only at h1 h2 h3 h4 h5 h6
      rw [List.length_map] at h2
      exact ⟨⟨by omega, by omega, by omega, by omega⟩, ⟨by omega, by omega, by omega, by omega⟩, by omega, by omega⟩
    have HC : Hid (∀ j, j < 8 → wr.cell? ⟨g, off + (i * 8 + j), none⟩ = (Dx.cells ⟨kind, side, place, .slice ba bs.length bc, bs, .slice na m.nums.length nc, .slice aa m.addrs.length ac, .slice xa m.body.length xc, m⟩)[j]?) := fun j hj => (World.cell?_of_block (w := w) (HSr.out.fr.block g hg (by simp))).trans (hc j hj)
    clear hok hc hd
    have c0 : wr.cell? ⟨g, off + i * 8, none⟩ = some (.int .i64 kind) := HC.out 0 (by omega)
    have c1 : wr.cell? ⟨g, off + i * 8 + 1, none⟩ = some (.bool side) := HC.out 1 (by omega)
    have c2 : wr.cell? ⟨g, off + i * 8 + 2, none⟩ = some (.int .u8 place) := HC.out 2 (by omega)
    have c3 : wr.cell? ⟨g, off + i * 8 + 3, none⟩ = some (.slice ba bs.length bc) := HC.out 3 (by omega)
    have c4 : wr.cell? ⟨g, off + i * 8 + 4, none⟩ = some (.int .i64 m.kind) := HC.out 4 (by omega)
    have c5 : wr.cell? ⟨g, off + i * 8 + 5, none⟩ = some (.slice na m.nums.length nc) := HC.out 5 (by omega)
    have c6 : wr.cell? ⟨g, off + i * 8 + 6, none⟩ = some (.slice aa m.addrs.length ac) := HC.out 6 (by omega)
    have c7 : wr.cell? ⟨g, off + i * 8 + 7, none⟩ = some (.slice xa m.body.length xc) := HC.out 7 (by omega)
    by_cases hcont : kind = 1 ∧ S = []
    · obtain ⟨rfl, rfl⟩ := hcont
      go_wp2_with fail
      go_roundw
      case rel => exact ⟨i + 1, sa, sb, L, ans, lv, so, sc, [], by go_num, rfl, rfl, hlt, h60, HI.out.up, HSr.out.grow (Fr.alloc _ _ _)⟩
      case measure =>
        simp [intOf]
        omega
    go_upto_block 2 with (fail)
    obtain ⟨gd, hgd⟩ : ∃ g, g = wr.heap.size := ⟨_, rfl⟩
    obtain ⟨w101, hw⟩ : ∃ w1, wr.alloc (.cells #[.int .i64 kind, .bool side, .int .u8 place, .slice ba bs.length bc, .int .i64 m.kind, .slice na m.nums.length nc, .slice aa m.addrs.length ac, .slice xa m.body.length xc] 58) = w1 := ⟨_, rfl⟩
    rw [hw, ← hgd]
    have hs := HSr.out.lay 58 [.int .i64 kind, .bool side, .int .u8 place, .slice ba bs.length bc, .int .i64 m.kind, .slice na m.nums.length nc, .slice aa m.addrs.length ac, .slice xa m.body.length xc]
    rw [hw, ← hgd] at hs
    have HS101 := Lib.hid hs
    clear hw hgd hs
    clear c0 c1 c2 c3 c4 c5 c6 c7
    go_cut [14, 15] (fun v14 v15 wx => TrueMid w a b nA nB i ⟨sa, sb, L, S.map (·.2), ans⟩ nb mb gb ga (rowI 52 1 (.slice so S.length sc) S.length (S.map (·.1))) (cellsI gt 42 [.int .i64 a, .int .i64 b, .int .u64 nA, .int .u64 nB]) (S.map sIt) v14 v15 wx)
    case first =>
      by_cases k0 : kind = 0
      · subst k0
        cases side with
        | true =>
          as_aux_lemma =>
            obtain ⟨r1, r2, r3, hE⟩ : ∃ r1 r2 r3, called L sb = (r1, (r2, r3)) := ⟨_, _, _, rfl⟩
            have HT := HI.out.callB PA.out PB.out NB.out (by omega)
            rw [hE] at HT
            have HT := Lib.hid HT
            have HE := Lib.hid hE
            clear hE
            have qgd0 := ((HS101.out.cells 0 rfl)).cell 0
            have qgd1 := ((HS101.out.cells 0 rfl)).cell 1
            have qgd2 := ((HS101.out.cells 0 rfl)).cell 2
            have qgd3 := ((HS101.out.cells 0 rfl)).cell 3
            have qgd4 := ((HS101.out.cells 0 rfl)).cell 4
            have qgd5 := ((HS101.out.cells 0 rfl)).cell 5
            have qgd6 := ((HS101.out.cells 0 rfl)).cell 6
            have qgd7 := ((HS101.out.cells 0 rfl)).cell 7
            have qgb0 := ((HS101.out.cells 3 rfl)).cell 0
            have qgb1 := ((HS101.out.cells 3 rfl)).cell 1
            have qgb2 := ((HS101.out.cells 3 rfl)).cell 2
            have qgb3 := ((HS101.out.cells 3 rfl)).cell 3
            have qgb4 := ((HS101.out.cells 3 rfl)).cell 4
            simp only [List.getElem?_cons_zero, List.getElem?_cons_succ] at qgd0 qgd1 qgd2 qgd3 qgd4 qgd5 qgd6 qgd7 qgb0 qgb1 qgb2 qgb3 qgb4
            go_wp2_with fail
            clear qgd0 qgd1 qgd2 qgd3 qgd4 qgd5 qgd6 qgd7 qgb0 qgb1 qgb2 qgb3 qgb4
            have hq := sk_call w101 nb mb lv L sb HWi.out.2.1 (HS101.out.not 2 rfl) (by have := HWi.out.2.2.1; omega)
            rw [HE.out] at hq
            have HQ := Lib.hid hq
            clear hq
            refine HQ.out.mono ?_
            clear HQ
            rintro e w102 ⟨v102, rfl, hs⟩
            obtain ⟨lv102, hs⟩ := HS101.out.sent 2 rfl hs
            simp only [List.set_cons_zero, List.set_cons_succ] at hs
            obtain ⟨ao102, c102, hv⟩ := sl_shape (hs.bt 0 rfl)
            rw [u8s_length] at hv
            subst hv
            have HS102 := Lib.hid hs
            clear hs
            unfold skV
            dsimp only
            go_wp2_with (refine wpList_store_whole rfl 46 (.tmp 7) (.tmp 75) rfl gb [.int .i64 r1.state, .int .i64 r1.own, .int .i64 r1.other, .int .u64 r1.nonce, .int .u64 r1.echo] rfl rfl _ _ (HS102.out.cells 3 rfl) (by kernel_rfl) rfl (by simp [Value.oneCell']) ?_; intro w103 hc hf _; have hs := HS102.out.put 3 rfl hf hc; simp only [List.set_cons_zero, List.set_cons_succ] at hs; have HS103 := Lib.hid hs; clear hc hf hs)
            go_meet
            case rel => exact ⟨sa, r1, r2, [], r3, lv102, HT.out, ⟨_, _, rfl⟩, ⟨_, _, rfl⟩, HS103.out.drop1.nil0⟩
        | false =>
          as_aux_lemma =>
            obtain ⟨r1, r2, r3, hE⟩ : ∃ r1 r2 r3, called L sa = (r1, (r2, r3)) := ⟨_, _, _, rfl⟩
            have HT := HI.out.callA PA.out hab
            rw [hE] at HT
            have HT := Lib.hid HT
            have HE := Lib.hid hE
            clear hE
            have qgd0 := ((HS101.out.cells 0 rfl)).cell 0
            have qgd1 := ((HS101.out.cells 0 rfl)).cell 1
            have qgd2 := ((HS101.out.cells 0 rfl)).cell 2
            have qgd3 := ((HS101.out.cells 0 rfl)).cell 3
            have qgd4 := ((HS101.out.cells 0 rfl)).cell 4
            have qgd5 := ((HS101.out.cells 0 rfl)).cell 5
            have qgd6 := ((HS101.out.cells 0 rfl)).cell 6
            have qgd7 := ((HS101.out.cells 0 rfl)).cell 7
            have qga0 := ((HS101.out.cells 4 rfl)).cell 0
            have qga1 := ((HS101.out.cells 4 rfl)).cell 1
            have qga2 := ((HS101.out.cells 4 rfl)).cell 2
            have qga3 := ((HS101.out.cells 4 rfl)).cell 3
            have qga4 := ((HS101.out.cells 4 rfl)).cell 4
            simp only [List.getElem?_cons_zero, List.getElem?_cons_succ] at qgd0 qgd1 qgd2 qgd3 qgd4 qgd5 qgd6 qgd7 qga0 qga1 qga2 qga3 qga4
            go_wp2_with fail
            clear qgd0 qgd1 qgd2 qgd3 qgd4 qgd5 qgd6 qgd7 qga0 qga1 qga2 qga3 qga4
            have hq := sk_call w101 nb mb lv L sa HWi.out.1 (HS101.out.not 2 rfl) (by have := HWi.out.2.2.1; omega)
            rw [HE.out] at hq
            have HQ := Lib.hid hq
            clear hq
            refine HQ.out.mono ?_
            clear HQ
            rintro e w102 ⟨v102, rfl, hs⟩
            obtain ⟨lv102, hs⟩ := HS101.out.sent 2 rfl hs
            simp only [List.set_cons_zero, List.set_cons_succ] at hs
            obtain ⟨ao102, c102, hv⟩ := sl_shape (hs.bt 0 rfl)
            rw [u8s_length] at hv
            subst hv
            have HS102 := Lib.hid hs
            clear hs
            unfold skV
            dsimp only
            go_wp2_with (refine wpList_store_whole rfl 46 (.tmp 5) (.tmp 81) rfl ga [.int .i64 r1.state, .int .i64 r1.own, .int .i64 r1.other, .int .u64 r1.nonce, .int .u64 r1.echo] rfl rfl _ _ (HS102.out.cells 4 rfl) (by kernel_rfl) rfl (by simp [Value.oneCell']) ?_; intro w103 hc hf _; have hs := HS102.out.put 4 rfl hf hc; simp only [List.set_cons_zero, List.set_cons_succ] at hs; have HS103 := Lib.hid hs; clear hc hf hs)
            go_meet
            case rel => exact ⟨r1, sb, r2, r3, [], lv102, HT.out, ⟨_, _, rfl⟩, ⟨_, _, rfl⟩, HS103.out.drop1.nil1⟩
      by_cases k1 : kind = 1
      · subst k1
        cases side with
        | true =>
          as_aux_lemma =>
            have hS : 0 < S.length := by
              apply List.length_pos_iff.2
              intro h
              exact hcont ⟨rfl, h⟩
            have hj : place % S.length < S.length := Nat.mod_lt _ hS
            obtain ⟨⟨pv, pb⟩, hp⟩ : ∃ p, S[place % S.length]? = some p := ⟨_, List.getElem?_eq_getElem hj⟩
            obtain ⟨sg, rfl, hcell⟩ := own_cell1 (HS101.out.at 1 rfl) hj
            rw [List.getElem?_map, hp] at hcell
            have hps : SlAt w101 pv (u8s pb) := (HS101.out.rd (sIt (pv, pb)) (List.mem_map.2 ⟨_, List.mem_of_getElem? hp, rfl⟩)).1
            obtain ⟨pa, pc, hpv⟩ := sl_shape hps
            rw [u8s_length] at hpv
            subst hpv
            have HP := Lib.hid hps
            clear hps hp
            have hS0 : ((S.length : Int) == 0) = false := by
              rw [beq_eq_false_iff_ne]
              omega
            have hm0 : (0 : Int) ≤ (place : Int) % (S.length : Int) := by omega
            have hm1 : (place : Int) % (S.length : Int) < (S.length : Int) := by
              exact Int.emod_lt_of_pos _ (by omega)
            have htn : ((place : Int) % (S.length : Int)).toNat = place % S.length := by omega
            have hcell2 : w101.cell? ⟨sg, ((place : Int) % (S.length : Int)).toNat, none⟩ = some (.slice pa pb.length pc) := by
              rw [htn]
              exact hcell
            clear htn
            obtain ⟨r1, r2, r3, hE⟩ : ∃ r1 r2 r3, heard L sb pb = (r1, (r2, r3)) := ⟨_, _, _, rfl⟩
            have HT := HI.out.hearB PA.out PB.out NB.out (by omega) pb
            rw [hE] at HT
            have HT := Lib.hid HT
            have HE := Lib.hid hE
            clear hE
            have qgd0 := ((HS101.out.cells 0 rfl)).cell 0
            have qgd1 := ((HS101.out.cells 0 rfl)).cell 1
            have qgd2 := ((HS101.out.cells 0 rfl)).cell 2
            have qgd3 := ((HS101.out.cells 0 rfl)).cell 3
            have qgd4 := ((HS101.out.cells 0 rfl)).cell 4
            have qgd5 := ((HS101.out.cells 0 rfl)).cell 5
            have qgd6 := ((HS101.out.cells 0 rfl)).cell 6
            have qgd7 := ((HS101.out.cells 0 rfl)).cell 7
            have qgb0 := ((HS101.out.cells 3 rfl)).cell 0
            have qgb1 := ((HS101.out.cells 3 rfl)).cell 1
            have qgb2 := ((HS101.out.cells 3 rfl)).cell 2
            have qgb3 := ((HS101.out.cells 3 rfl)).cell 3
            have qgb4 := ((HS101.out.cells 3 rfl)).cell 4
            simp only [List.getElem?_cons_zero, List.getElem?_cons_succ] at qgd0 qgd1 qgd2 qgd3 qgd4 qgd5 qgd6 qgd7 qgb0 qgb1 qgb2 qgb3 qgb4
            go_wp2_with fail
            clear qgd0 qgd1 qgd2 qgd3 qgd4 qgd5 qgd6 qgd7 qgb0 qgb1 qgb2 qgb3 qgb4 hcell hcell2 hm0 hm1 hS0 hj hS
            have hq := sk_hear w101 nb mb lv L sb (.slice pa pb.length pc) pb HWi.out.2.1 (HS101.out.not 2 rfl) HP.out.ex (by have := HWi.out.2.2.1; omega)
            rw [HE.out] at hq
            have HQ := Lib.hid hq
            clear hq
            refine HQ.out.mono ?_
            clear HQ
            rintro e w102 ⟨v102, rfl, hs⟩
            obtain ⟨lv102, hs⟩ := HS101.out.sent 2 rfl hs
            simp only [List.set_cons_zero, List.set_cons_succ] at hs
            obtain ⟨ao102, c102, hv⟩ := sl_shape (hs.bt 0 rfl)
            rw [u8s_length] at hv
            subst hv
            have HS102 := Lib.hid hs
            clear hs
            unfold skV
            dsimp only
            go_wp2_with (refine wpList_store_whole rfl 46 (.tmp 7) (.tmp 104) rfl gb [.int .i64 r1.state, .int .i64 r1.own, .int .i64 r1.other, .int .u64 r1.nonce, .int .u64 r1.echo] rfl rfl _ _ (HS102.out.cells 3 rfl) (by kernel_rfl) rfl (by simp [Value.oneCell']) ?_; intro w103 hc hf _; have hs := HS102.out.put 3 rfl hf hc; simp only [List.set_cons_zero, List.set_cons_succ] at hs; have HS103 := Lib.hid hs; clear hc hf hs)
            go_meet
            case rel => exact ⟨sa, r1, r2, [], r3, lv102, HT.out, ⟨_, _, rfl⟩, ⟨_, _, rfl⟩, HS103.out.drop1.nil0⟩
        | false =>
          as_aux_lemma =>
            have hS : 0 < S.length := by
              apply List.length_pos_iff.2
              intro h
              exact hcont ⟨rfl, h⟩
            have hj : place % S.length < S.length := Nat.mod_lt _ hS
            obtain ⟨⟨pv, pb⟩, hp⟩ : ∃ p, S[place % S.length]? = some p := ⟨_, List.getElem?_eq_getElem hj⟩
            obtain ⟨sg, rfl, hcell⟩ := own_cell1 (HS101.out.at 1 rfl) hj
            rw [List.getElem?_map, hp] at hcell
            have hps : SlAt w101 pv (u8s pb) := (HS101.out.rd (sIt (pv, pb)) (List.mem_map.2 ⟨_, List.mem_of_getElem? hp, rfl⟩)).1
            obtain ⟨pa, pc, hpv⟩ := sl_shape hps
            rw [u8s_length] at hpv
            subst hpv
            have HP := Lib.hid hps
            clear hps hp
            have hS0 : ((S.length : Int) == 0) = false := by
              rw [beq_eq_false_iff_ne]
              omega
            have hm0 : (0 : Int) ≤ (place : Int) % (S.length : Int) := by omega
            have hm1 : (place : Int) % (S.length : Int) < (S.length : Int) := by
              exact Int.emod_lt_of_pos _ (by omega)
            have htn : ((place : Int) % (S.length : Int)).toNat = place % S.length := by omega
            have hcell2 : w101.cell? ⟨sg, ((place : Int) % (S.length : Int)).toNat, none⟩ = some (.slice pa pb.length pc) := by
              rw [htn]
              exact hcell
            clear htn
            obtain ⟨r1, r2, r3, hE⟩ : ∃ r1 r2 r3, heard L sa pb = (r1, (r2, r3)) := ⟨_, _, _, rfl⟩
            have HT := HI.out.hearA PA.out PB.out NB.out hab pb
            rw [hE] at HT
            have HT := Lib.hid HT
            have HE := Lib.hid hE
            clear hE
            have qgd0 := ((HS101.out.cells 0 rfl)).cell 0
            have qgd1 := ((HS101.out.cells 0 rfl)).cell 1
            have qgd2 := ((HS101.out.cells 0 rfl)).cell 2
            have qgd3 := ((HS101.out.cells 0 rfl)).cell 3
            have qgd4 := ((HS101.out.cells 0 rfl)).cell 4
            have qgd5 := ((HS101.out.cells 0 rfl)).cell 5
            have qgd6 := ((HS101.out.cells 0 rfl)).cell 6
            have qgd7 := ((HS101.out.cells 0 rfl)).cell 7
            have qga0 := ((HS101.out.cells 4 rfl)).cell 0
            have qga1 := ((HS101.out.cells 4 rfl)).cell 1
            have qga2 := ((HS101.out.cells 4 rfl)).cell 2
            have qga3 := ((HS101.out.cells 4 rfl)).cell 3
            have qga4 := ((HS101.out.cells 4 rfl)).cell 4
            simp only [List.getElem?_cons_zero, List.getElem?_cons_succ] at qgd0 qgd1 qgd2 qgd3 qgd4 qgd5 qgd6 qgd7 qga0 qga1 qga2 qga3 qga4
            go_wp2_with fail
            clear qgd0 qgd1 qgd2 qgd3 qgd4 qgd5 qgd6 qgd7 qga0 qga1 qga2 qga3 qga4 hcell hcell2 hm0 hm1 hS0 hj hS
            have hq := sk_hear w101 nb mb lv L sa (.slice pa pb.length pc) pb HWi.out.1 (HS101.out.not 2 rfl) HP.out.ex (by have := HWi.out.2.2.1; omega)
            rw [HE.out] at hq
            have HQ := Lib.hid hq
            clear hq
            refine HQ.out.mono ?_
            clear HQ
            rintro e w102 ⟨v102, rfl, hs⟩
            obtain ⟨lv102, hs⟩ := HS101.out.sent 2 rfl hs
            simp only [List.set_cons_zero, List.set_cons_succ] at hs
            obtain ⟨ao102, c102, hv⟩ := sl_shape (hs.bt 0 rfl)
            rw [u8s_length] at hv
            subst hv
            have HS102 := Lib.hid hs
            clear hs
            unfold skV
            dsimp only
            go_wp2_with (refine wpList_store_whole rfl 46 (.tmp 5) (.tmp 111) rfl ga [.int .i64 r1.state, .int .i64 r1.own, .int .i64 r1.other, .int .u64 r1.nonce, .int .u64 r1.echo] rfl rfl _ _ (HS102.out.cells 4 rfl) (by kernel_rfl) rfl (by simp [Value.oneCell']) ?_; intro w103 hc hf _; have hs := HS102.out.put 4 rfl hf hc; simp only [List.set_cons_zero, List.set_cons_succ] at hs; have HS103 := Lib.hid hs; clear hc hf hs)
            go_meet
            case rel => exact ⟨r1, sb, r2, r3, [], lv102, HT.out, ⟨_, _, rfl⟩, ⟨_, _, rfl⟩, HS103.out.drop1.nil1⟩
      by_cases k2 : kind = 2
      · subst k2
        obtain ⟨r1, r2, r3, hE⟩ : ∃ r1 r2 r3, heard L sa bs = (r1, (r2, r3)) := ⟨_, _, _, rfl⟩
        have HT := HI.out.hearA PA.out PB.out NB.out hab bs
        rw [hE] at HT
        have HT := Lib.hid HT
        have HE := Lib.hid hE
        clear hE
        have qgd0 := ((HS101.out.cells 0 rfl)).cell 0
        have qgd1 := ((HS101.out.cells 0 rfl)).cell 1
        have qgd2 := ((HS101.out.cells 0 rfl)).cell 2
        have qgd3 := ((HS101.out.cells 0 rfl)).cell 3
        have qgd4 := ((HS101.out.cells 0 rfl)).cell 4
        have qgd5 := ((HS101.out.cells 0 rfl)).cell 5
        have qgd6 := ((HS101.out.cells 0 rfl)).cell 6
        have qgd7 := ((HS101.out.cells 0 rfl)).cell 7
        have qga0 := ((HS101.out.cells 4 rfl)).cell 0
        have qga1 := ((HS101.out.cells 4 rfl)).cell 1
        have qga2 := ((HS101.out.cells 4 rfl)).cell 2
        have qga3 := ((HS101.out.cells 4 rfl)).cell 3
        have qga4 := ((HS101.out.cells 4 rfl)).cell 4
        simp only [List.getElem?_cons_zero, List.getElem?_cons_succ] at qgd0 qgd1 qgd2 qgd3 qgd4 qgd5 qgd6 qgd7 qga0 qga1 qga2 qga3 qga4
        go_wp2_with fail
        clear qgd0 qgd1 qgd2 qgd3 qgd4 qgd5 qgd6 qgd7 qga0 qga1 qga2 qga3 qga4
        have hq := sk_hear w101 nb mb lv L sa (.slice ba bs.length bc) bs HWi.out.1 (HS101.out.not 2 rfl) (HOK.out.bytes.fr HS101.out.fr (by simp)) (by have := HWi.out.2.2.1; omega)
        rw [HE.out] at hq
        have HQ := Lib.hid hq
        clear hq
        refine HQ.out.mono ?_
        clear HQ
        rintro e w102 ⟨v102, rfl, hs⟩
        obtain ⟨lv102, hs⟩ := HS101.out.sent 2 rfl hs
        simp only [List.set_cons_zero, List.set_cons_succ] at hs
        obtain ⟨ao102, c102, hv⟩ := sl_shape (hs.bt 0 rfl)
        rw [u8s_length] at hv
        subst hv
        have HS102 := Lib.hid hs
        clear hs
        unfold skV
        dsimp only
        go_wp2_with (refine wpList_store_whole rfl 46 (.tmp 5) (.tmp 121) rfl ga [.int .i64 r1.state, .int .i64 r1.own, .int .i64 r1.other, .int .u64 r1.nonce, .int .u64 r1.echo] rfl rfl _ _ (HS102.out.cells 4 rfl) (by kernel_rfl) rfl (by simp [Value.oneCell']) ?_; intro w103 hc hf _; have hs := HS102.out.put 4 rfl hf hc; simp only [List.set_cons_zero, List.set_cons_succ] at hs; have HS103 := Lib.hid hs; clear hc hf hs)
        go_meet
        case rel => exact ⟨r1, sb, r2, r3, [], lv102, HT.out, ⟨_, _, rfl⟩, ⟨_, _, rfl⟩, HS103.out.drop1.nil1⟩
      by_cases k6 : kind = 6
      · subst k6
        by_cases kb : place = b
        · have hb1 : ((place : Int) != (b : Int)) = false := by
            rw [bne_eq_false_iff_eq]
            omega
          have qgd0 := ((HS101.out.cells 0 rfl)).cell 0
          have qgd1 := ((HS101.out.cells 0 rfl)).cell 1
          have qgd2 := ((HS101.out.cells 0 rfl)).cell 2
          have qgd3 := ((HS101.out.cells 0 rfl)).cell 3
          have qgd4 := ((HS101.out.cells 0 rfl)).cell 4
          have qgd5 := ((HS101.out.cells 0 rfl)).cell 5
          have qgd6 := ((HS101.out.cells 0 rfl)).cell 6
          have qgd7 := ((HS101.out.cells 0 rfl)).cell 7
          have qgt0 := ((HS101.out.cells 5 rfl)).cell 0
          have qgt1 := ((HS101.out.cells 5 rfl)).cell 1
          have qgt2 := ((HS101.out.cells 5 rfl)).cell 2
          have qgt3 := ((HS101.out.cells 5 rfl)).cell 3
          simp only [List.getElem?_cons_zero, List.getElem?_cons_succ] at qgd0 qgd1 qgd2 qgd3 qgd4 qgd5 qgd6 qgd7 qgt0 qgt1 qgt2 qgt3
          have HT := Lib.hid HI.out.same
          go_wp2_with fail
          go_meet
          case rel => exact ⟨sa, sb, L, [], [], lv, HT.out, ⟨_, _, rfl⟩, ⟨_, _, rfl⟩, HS101.out.drop1.nil0.nil0⟩
        by_cases ka : place = a
        · have hb1 : ((place : Int) != (b : Int)) = true := by
            rw [bne_iff_ne]
            omega
          have hb2 : ((place : Int) != (a : Int)) = false := by
            rw [bne_eq_false_iff_eq]
            omega
          have qgd0 := ((HS101.out.cells 0 rfl)).cell 0
          have qgd1 := ((HS101.out.cells 0 rfl)).cell 1
          have qgd2 := ((HS101.out.cells 0 rfl)).cell 2
          have qgd3 := ((HS101.out.cells 0 rfl)).cell 3
          have qgd4 := ((HS101.out.cells 0 rfl)).cell 4
          have qgd5 := ((HS101.out.cells 0 rfl)).cell 5
          have qgd6 := ((HS101.out.cells 0 rfl)).cell 6
          have qgd7 := ((HS101.out.cells 0 rfl)).cell 7
          have qgt0 := ((HS101.out.cells 5 rfl)).cell 0
          have qgt1 := ((HS101.out.cells 5 rfl)).cell 1
          have qgt2 := ((HS101.out.cells 5 rfl)).cell 2
          have qgt3 := ((HS101.out.cells 5 rfl)).cell 3
          simp only [List.getElem?_cons_zero, List.getElem?_cons_succ] at qgd0 qgd1 qgd2 qgd3 qgd4 qgd5 qgd6 qgd7 qgt0 qgt1 qgt2 qgt3
          have HT := Lib.hid HI.out.same
          go_wp2_with fail
          go_meet
          case rel => exact ⟨sa, sb, L, [], [], lv, HT.out, ⟨_, _, rfl⟩, ⟨_, _, rfl⟩, HS101.out.drop1.nil0.nil0⟩
        · skip
          as_aux_lemma =>
            have qgd0 := ((HS101.out.cells 0 rfl)).cell 0
            have qgd1 := ((HS101.out.cells 0 rfl)).cell 1
            have qgd2 := ((HS101.out.cells 0 rfl)).cell 2
            have qgd3 := ((HS101.out.cells 0 rfl)).cell 3
            have qgd4 := ((HS101.out.cells 0 rfl)).cell 4
            have qgd5 := ((HS101.out.cells 0 rfl)).cell 5
            have qgd6 := ((HS101.out.cells 0 rfl)).cell 6
            have qgd7 := ((HS101.out.cells 0 rfl)).cell 7
            have qgt0 := ((HS101.out.cells 5 rfl)).cell 0
            have qgt1 := ((HS101.out.cells 5 rfl)).cell 1
            have qgt2 := ((HS101.out.cells 5 rfl)).cell 2
            have qgt3 := ((HS101.out.cells 5 rfl)).cell 3
            simp only [List.getElem?_cons_zero, List.getElem?_cons_succ] at qgd0 qgd1 qgd2 qgd3 qgd4 qgd5 qgd6 qgd7 qgt0 qgt1 qgt2 qgt3
            have hb1 : ((place : Int) != (b : Int)) = true := by
              rw [bne_iff_ne]
              omega
            have hb2 : ((place : Int) != (a : Int)) = true := by
              rw [bne_iff_ne]
              omega
            have HT := Lib.hid (HI.out.minted (p := place) kb bs)
            go_wp2_with fail
            clear qgd0 qgd1 qgd2 qgd3 qgd4 qgd5 qgd6 qgd7 qgt0 qgt1 qgt2 qgt3
            refine (not_mint w101 nb mb lv L place _ bs (HS101.out.not 2 rfl) (HOK.out.bytes.fr HS101.out.fr (by simp)) (by simp [Lit.wf, IntKind.min, IntKind.max, IntKind.signed, IntKind.bits]; omega) (by have := HSO.out; omega) (by have := HWi.out.2.2.1; omega)).mono ?_
            rintro e w110 hm
            obtain ⟨rfl, lv3, hs⟩ := HS101.out.minted 2 rfl hm
            simp only [List.set_cons_zero, List.set_cons_succ] at hs
            have HS110 := Lib.hid hs
            clear hs hm
            go_wp2_with fail
            go_meet
            case rel => exact ⟨sa, sb, _, [], [], lv3, HT.out, ⟨_, _, rfl⟩, ⟨_, _, rfl⟩, HS110.out.drop1.nil0.nil0⟩
      by_cases k5 : kind = 5
      rotate_left
      · have b0 : (kind == 0) = false := by simpa using k0
        have b1 : (kind == 1) = false := by simpa using k1
        have b2 : (kind == 2) = false := by simpa using k2
        have b5 : (kind == 5) = false := by simpa using k5
        have b6 : (kind == 6) = false := by simpa using k6
        have qgd0 := ((HS101.out.cells 0 rfl)).cell 0
        have qgd1 := ((HS101.out.cells 0 rfl)).cell 1
        have qgd2 := ((HS101.out.cells 0 rfl)).cell 2
        have qgd3 := ((HS101.out.cells 0 rfl)).cell 3
        have qgd4 := ((HS101.out.cells 0 rfl)).cell 4
        have qgd5 := ((HS101.out.cells 0 rfl)).cell 5
        have qgd6 := ((HS101.out.cells 0 rfl)).cell 6
        have qgd7 := ((HS101.out.cells 0 rfl)).cell 7
        have qgt0 := ((HS101.out.cells 5 rfl)).cell 0
        have qgt1 := ((HS101.out.cells 5 rfl)).cell 1
        have qgt2 := ((HS101.out.cells 5 rfl)).cell 2
        have qgt3 := ((HS101.out.cells 5 rfl)).cell 3
        simp only [List.getElem?_cons_zero, List.getElem?_cons_succ] at qgd0 qgd1 qgd2 qgd3 qgd4 qgd5 qgd6 qgd7 qgt0 qgt1 qgt2 qgt3
        have HT := Lib.hid HI.out.same
        go_wp2_with fail
        go_meet
        case rel => exact ⟨sa, sb, L, [], [], lv, HT.out, ⟨_, _, rfl⟩, ⟨_, _, rfl⟩, HS101.out.drop1.nil0.nil0⟩
      · skip
        subst k5
        as_aux_lemma =>
          obtain ⟨r1, r2, r3, hE⟩ : ∃ r1 r2 r3, heard L sa (mbytes m) = (r1, (r2, r3)) := ⟨_, _, _, rfl⟩
          have HT := HI.out.hearA PA.out PB.out NB.out hab (mbytes m)
          rw [hE] at HT
          have HT := Lib.hid HT
          have HE := Lib.hid hE
          clear hE
          have qgd0 := ((HS101.out.cells 0 rfl)).cell 0
          have qgd1 := ((HS101.out.cells 0 rfl)).cell 1
          have qgd2 := ((HS101.out.cells 0 rfl)).cell 2
          have qgd3 := ((HS101.out.cells 0 rfl)).cell 3
          have qgd4 := ((HS101.out.cells 0 rfl)).cell 4
          have qgd5 := ((HS101.out.cells 0 rfl)).cell 5
          have qgd6 := ((HS101.out.cells 0 rfl)).cell 6
          have qgd7 := ((HS101.out.cells 0 rfl)).cell 7
          simp only [List.getElem?_cons_zero, List.getElem?_cons_succ] at qgd0 qgd1 qgd2 qgd3 qgd4 qgd5 qgd6 qgd7
          go_wp2_with fail
          clear qgd0 qgd1 qgd2 qgd3 qgd4 qgd5 qgd6 qgd7
          have EH : Hid (∀ args w, (callFunc 24 args).run Try.prog w = .ok (.enter 24 args) w) := enters_of Try.func24 (by kernel_rfl) rfl
          have EB : Hid (∀ args w, (callFunc 25 args).run Try.prog w = .ok (.enter 25 args) w) := enters_of Try.func25 (by kernel_rfl) rfl
          refine wp_region_sets (fun X w' => ∃ lv', Sep [] w w' [(cellsI gd 58 [.int .i64 5, .bool side, .int .u8 place, .slice ba bs.length bc, .int .i64 m.kind, .slice na m.nums.length nc, .slice aa m.addrs.length ac, .slice xa m.body.length xc]), (rowI 52 1 (.slice so S.length sc) S.length (S.map (·.1))), notI nb mb lv' (cond (X 5) r2 L), cellsI gb 46 [.int .i64 sb.state, .int .i64 sb.own, .int .i64 sb.other, .int .u64 sb.nonce, .int .u64 sb.echo], cellsI ga 46 (cond (X 9) [.int .i64 r1.state, .int .i64 r1.own, .int .i64 r1.other, .int .u64 r1.nonce, .int .u64 r1.echo] [.int .i64 sa.state, .int .i64 sa.own, .int .i64 sa.other, .int .u64 sa.nonce, .int .u64 sa.echo]), (cellsI gt 42 [.int .i64 a, .int .i64 b, .int .u64 nA, .int .u64 nB])] (S.map sIt)) BytesKept (fun iop v w' => match iop with
            | 0 => v = .agg #[.int .i64 sa.state, .int .i64 sa.own, .int .i64 sa.other, .int .u64 sa.nonce, .int .u64 sa.echo]
            | 1 => v = (.pointer (some ⟨nb, 0, none⟩))
            | 2 => v = .pointer (some ⟨gd, 4, none⟩)
            | 3 => v = .agg #[.int .i64 m.kind, .slice na m.nums.length nc, .slice aa m.addrs.length ac, .slice xa m.body.length xc]
            | 4 => ByteRow w' v (mbytes m)
            | 5 => ∃ u, v = .tuple #[.agg #[.int .i64 r1.state, .int .i64 r1.own, .int .i64 r1.other, .int .u64 r1.nonce, .int .u64 r1.echo], u] ∧ ByteRow w' u r3
            | 6 => ∃ u, v = .tuple #[.agg #[.int .i64 r1.state, .int .i64 r1.own, .int .i64 r1.other, .int .u64 r1.nonce, .int .u64 r1.echo], u] ∧ ByteRow w' u r3
            | 7 => v = .agg #[.int .i64 r1.state, .int .i64 r1.own, .int .i64 r1.other, .int .u64 r1.nonce, .int .u64 r1.echo]
            | 8 => ByteRow w' v r3
            | 9 => True
            | 10 => ByteRow w' v r3
            | _ => True) (by kernel_rfl) (by kernel_rfl) (by kernel_rfl) ?_ ?_ ?_ ?_
          · intro X hX
            refine ⟨lv, ?_⟩
            rw [hX 5 (by decide), hX 9 (by decide)]
            exact HS101.out.drew
          · intro i v X w1 w2 _ hR hF
            split at hF
            all_goals first
              | exact hF
              | exact hF.kept hR
              | (obtain ⟨u, h1, h2⟩ := hF
                 exact ⟨u, h1, h2.kept hR⟩)
          · refine ⟨?_, ?_, ?_, ?_, ?_, ?_, ?_, ?_, ?_, ?_, ?_, trivial⟩
            · intro X a' w' hJ hX hC hd hk hf
              obtain ⟨lv', hs'⟩ := hJ
              have h9 : X 9 = false := not_yet hC hX 20 9 (by kernel_rfl)
              rw [h9] at hs'
              have hs' : Sep [] w w' [(cellsI gd 58 [.int .i64 5, .bool side, .int .u8 place, .slice ba bs.length bc, .int .i64 m.kind, .slice na m.nums.length nc, .slice aa m.addrs.length ac, .slice xa m.body.length xc]), (rowI 52 1 (.slice so S.length sc) S.length (S.map (·.1))), notI nb mb lv' (cond (X 5) r2 L), cellsI gb 46 [.int .i64 sb.state, .int .i64 sb.own, .int .i64 sb.other, .int .u64 sb.nonce, .int .u64 sb.echo], cellsI ga 46 [.int .i64 sa.state, .int .i64 sa.own, .int .i64 sa.other, .int .u64 sa.nonce, .int .u64 sa.echo], (cellsI gt 42 [.int .i64 a, .int .i64 b, .int .u64 nA, .int .u64 nB])] (S.map sIt) := hs'
              have q0 := ((hs'.cells 4 rfl).cell 0)
              have q1 := ((hs'.cells 4 rfl).cell 1)
              have q2 := ((hs'.cells 4 rfl).cell 2)
              have q3 := ((hs'.cells 4 rfl).cell 3)
              have q4 := ((hs'.cells 4 rfl).cell 4)
              simp only [List.getElem?_cons_zero, List.getElem?_cons_succ] at q0 q1 q2 q3 q4
              have e5 : a'.tmps[5]?.getD undef = .pointer (some ⟨ga, 0, none⟩) := hk 5 rfl
              rw [if_pos (show Region.wanted _ _ = true from rfl)]
              unfold Oper.wp
              simp [go_sem, e5, q0, q1, q2, q3, q4]
              exact ⟨_, rfl, ⟨lv', by show Sep [] w w' _ _; rw [mark_ne (show 5 ≠ 0 by decide), mark_ne (show 9 ≠ 0 by decide), h9]; exact hs'⟩, BytesKept.refl _, rfl⟩
            · intro X a' w' hJ hX hC hd hk hf
              obtain ⟨lv', hs'⟩ := hJ
              have e9 : a'.tmps[9]?.getD undef = (.pointer (some ⟨nb, 0, none⟩)) := hk 9 rfl
              rw [if_pos (show Region.wanted _ _ = true from rfl)]
              unfold Oper.wp
              simp [go_sem, e9]
              exact ⟨_, rfl, ⟨lv', hs'⟩, BytesKept.refl _, rfl⟩
            · intro X a' w' hJ hX hC hd hk hf
              obtain ⟨lv', hs'⟩ := hJ
              have e13 : a'.tmps[13]?.getD undef = .pointer (some ⟨gd, 0, none⟩) := hk 13 rfl
              rw [if_pos (show Region.wanted _ _ = true from rfl)]
              unfold Oper.wp
              simp [go_sem, e13]
              exact ⟨_, rfl, ⟨lv', hs'⟩, BytesKept.refl _, rfl⟩
            · intro X a' w' hJ hX hC hd hk hf
              obtain ⟨lv', hs'⟩ := hJ
              have q0 := ((hs'.cells 0 rfl).cell 4)
              have q1 := ((hs'.cells 0 rfl).cell 5)
              have q2 := ((hs'.cells 0 rfl).cell 6)
              have q3 := ((hs'.cells 0 rfl).cell 7)
              simp only [List.getElem?_cons_zero, List.getElem?_cons_succ] at q0 q1 q2 q3
              have f2 : a'.tmps[128]?.getD undef = .pointer (some ⟨gd, 4, none⟩) := hf 2 _ rfl rfl
              rw [if_pos (show Region.wanted _ _ = true from rfl)]
              unfold Oper.wp
              simp [go_sem, f2, q0, q1, q2, q3]
              exact ⟨_, rfl, ⟨lv', hs'⟩, BytesKept.refl _, rfl⟩
            · intro X a' w' hJ hX hC hd hk hf
              obtain ⟨lv', hs'⟩ := hJ
              have f3 : a'.tmps[129]?.getD undef = .agg #[.int .i64 m.kind, .slice na m.nums.length nc, .slice aa m.addrs.length ac, .slice xa m.body.length xc] := hf 3 _ rfl rfl
              rw [if_pos (show Region.wanted _ _ = true from rfl)]
              refine call_step 25 #[.tmp 129] _ rfl EB.out #[.agg #[.int .i64 m.kind, .slice na m.nums.length nc, .slice aa m.addrs.length ac, .slice xa m.body.length xc]] (by simp only [List.map_cons, List.map_nil, Act.eval, Array.getD_eq_getD_getElem?]; rw [f3]) (wr_bytes w' m _ _ _ (HOK.out.msg.old hs'.fr)) ?_
              rintro e w2 ⟨⟨v2, rfl, ho2, _⟩, hf2⟩
              exact ⟨v2, rfl, v2, rfl, ⟨lv', hs'.grow hf2⟩, BytesKept.of_new hf2, ByteRow.of_own ho2⟩
            · intro X a' w' hJ hX hC hd hk hf
              obtain ⟨lv', hs'⟩ := hJ
              have hX5 : X 5 = false := hX
              rw [hX5] at hs'
              have f0 : a'.tmps[126]?.getD undef = .agg #[.int .i64 sa.state, .int .i64 sa.own, .int .i64 sa.other, .int .u64 sa.nonce, .int .u64 sa.echo] := hf 0 _ rfl rfl
              have f1 : a'.tmps[127]?.getD undef = (.pointer (some ⟨nb, 0, none⟩)) := hf 1 _ rfl rfl
              have f4 : ByteRow w' (a'.tmps[130]?.getD undef) (mbytes m) := hf 4 _ rfl rfl
              rw [if_pos (show Region.wanted _ _ = true from rfl)]
              refine call_step 24 #[.tmp 126, .tmp 127, .tmp 130] _ rfl EH.out #[skV sa, (.pointer (some ⟨nb, 0, none⟩)), a'.tmps[130]?.getD undef] (by simp only [List.map_cons, List.map_nil, Act.eval, Array.getD_eq_getD_getElem?]; rw [f0, f1]; rfl) (sk_hear w' nb mb lv' L sa _ (mbytes m) HWi.out.1 (hs'.not 2 rfl) f4.sl.ex (by have := HWi.out.2.2.1; omega)) ?_
              rw [HE.out]
              rintro e w2 ⟨v2, rfl, hs2⟩
              obtain ⟨lv2, hs3⟩ := hs'.sent 2 rfl hs2
              simp only [List.set_cons_zero, List.set_cons_succ] at hs3
              refine ⟨_, rfl, _, rfl, ⟨lv2, ?_⟩, hs2.kept (hs'.not 2 rfl), v2, rfl, ByteRow.of_own hs2.1⟩
              rw [mark_eq, mark_ne (show 9 ≠ 5 by decide)]
              exact hs3.dropB
            · intro X a' w' hJ hX hC hd hk hf
              obtain ⟨lv', hs'⟩ := hJ
              obtain ⟨u, f5, hu⟩ : ∃ u, a'.tmps[131]?.getD undef = .tuple #[.agg #[.int .i64 r1.state, .int .i64 r1.own, .int .i64 r1.other, .int .u64 r1.nonce, .int .u64 r1.echo], u] ∧ ByteRow w' u r3 := hf 5 _ rfl rfl
              rw [if_pos (show Region.wanted _ _ = true from rfl)]
              unfold Oper.wp
              simp [go_sem, f5]
              exact ⟨_, rfl, ⟨lv', hs'⟩, BytesKept.refl _, u, rfl, hu⟩
            · intro X a' w' hJ hX hC hd hk hf
              obtain ⟨lv', hs'⟩ := hJ
              obtain ⟨u, f5, hu⟩ : ∃ u, a'.tmps[125]?.getD undef = .tuple #[.agg #[.int .i64 r1.state, .int .i64 r1.own, .int .i64 r1.other, .int .u64 r1.nonce, .int .u64 r1.echo], u] ∧ ByteRow w' u r3 := hf 6 _ rfl rfl
              rw [if_pos (show Region.wanted _ _ = true from rfl)]
              unfold Oper.wp
              simp [go_sem, f5]
              exact ⟨_, rfl, ⟨lv', hs'⟩, BytesKept.refl _, rfl⟩
            · intro X a' w' hJ hX hC hd hk hf
              obtain ⟨lv', hs'⟩ := hJ
              obtain ⟨u, f5, hu⟩ : ∃ u, a'.tmps[125]?.getD undef = .tuple #[.agg #[.int .i64 r1.state, .int .i64 r1.own, .int .i64 r1.other, .int .u64 r1.nonce, .int .u64 r1.echo], u] ∧ ByteRow w' u r3 := hf 6 _ rfl rfl
              rw [if_pos (show Region.wanted _ _ = true from rfl)]
              unfold Oper.wp
              simp [go_sem, f5]
              exact ⟨_, rfl, ⟨lv', hs'⟩, BytesKept.refl _, hu⟩
            · intro X a' w' hJ hX hC hd hk hf
              obtain ⟨lv', hs'⟩ := hJ
              have hX9 : X 9 = false := hX
              rw [hX9] at hs'
              have f7 : a'.tmps[132]?.getD undef = .agg #[.int .i64 r1.state, .int .i64 r1.own, .int .i64 r1.other, .int .u64 r1.nonce, .int .u64 r1.echo] := hf 7 _ rfl rfl
              have e5 : a'.tmps[5]?.getD undef = .pointer (some ⟨ga, 0, none⟩) := hk 5 rfl
              rw [if_pos (show Region.wanted _ _ = true from rfl)]
              have hca := hs'.cells 4 rfl
              refine wp_store_row 46 (.tmp 5) (.tmp 132) rfl ga #[.int .i64 r1.state, .int .i64 r1.own, .int .i64 r1.other, .int .u64 r1.nonce, .int .u64 r1.echo] (by simp only [Act.eval, Array.getD_eq_getD_getElem?]; rw [e5]) (by simp only [Act.eval, Array.getD_eq_getD_getElem?]; rw [f7]) 46 _ hca (by kernel_rfl) (by simp) (by simp [Value.oneCell']) ?_
              have hc2 : Cells (w'.setRow ga #[.int .i64 r1.state, .int .i64 r1.own, .int .i64 r1.other, .int .u64 r1.nonce, .int .u64 r1.echo]) ga 46 [.int .i64 r1.state, .int .i64 r1.own, .int .i64 r1.other, .int .u64 r1.nonce, .int .u64 r1.echo] := setRow_heap w' ga _ _ _ (0, 0) hca
              have hfr : Fr [ga] w' (w'.setRow ga #[.int .i64 r1.state, .int .i64 r1.own, .int .i64 r1.other, .int .u64 r1.nonce, .int .u64 r1.echo]) := (Fr.refl _ _).crow _ _ (by left; simp)
              have hs3 := hs'.put 4 rfl hfr hc2
              simp only [List.set_cons_zero, List.set_cons_succ] at hs3
              refine ⟨undef, rfl, ⟨lv', ?_⟩, BytesKept.of_cells hca (by decide) hfr, trivial⟩
              rw [mark_eq, mark_ne (show 5 ≠ 9 by decide)]
              exact hs3
            · intro X a' w' hJ hX hC hd hk hf
              obtain ⟨lv', hs'⟩ := hJ
              have f8 : ByteRow w' (a'.tmps[133]?.getD undef) r3 := hf 8 _ rfl rfl
              rw [if_pos (show Region.wanted _ _ = true from rfl)]
              unfold Oper.wp
              simp [go_sem]
              exact ⟨_, rfl, ⟨lv', hs'⟩, BytesKept.refl _, f8⟩
          · intro X a' w' hXa hJ hF
            obtain ⟨lv', hs'⟩ := hJ
            rw [hXa 5 (by decide), hXa 9 (by decide)] at hs'
            obtain ⟨g0, g1, g2, g3, g4, g5, g6, g7, g8, g9, g10, -⟩ := hF
            have h10 : ByteRow w' (a'.tmps[14]?.getD undef) r3 := g10
            clear g0 g1 g2 g3 g4 g5 g6 g7 g8 g9 g10
            simp only [putTmps, List.setIfInBounds_toArray, List.set_cons_succ, List.set_cons_zero]
            generalize a'.tmps[14]?.getD undef = v14 at h10 ⊢
            generalize a'.tmps[125]?.getD undef = x125
            generalize a'.tmps[126]?.getD undef = x126
            generalize a'.tmps[127]?.getD undef = x127
            generalize a'.tmps[128]?.getD undef = x128
            generalize a'.tmps[129]?.getD undef = x129
            generalize a'.tmps[130]?.getD undef = x130
            generalize a'.tmps[131]?.getD undef = x131
            generalize a'.tmps[132]?.getD undef = x132
            generalize a'.tmps[133]?.getD undef = x133
            clear a'
            obtain ⟨c14, d14, hv⟩ := sl_shape h10.sl
            rw [u8s_length] at hv
            subst hv
            have hs4 : Sep [] w w' [(cellsI gd 58 [.int .i64 5, .bool side, .int .u8 place, .slice ba bs.length bc, .int .i64 m.kind, .slice na m.nums.length nc, .slice aa m.addrs.length ac, .slice xa m.body.length xc]), (rowI 52 1 (.slice so S.length sc) S.length (S.map (·.1))), notI nb mb lv' r2, cellsI gb 46 [.int .i64 sb.state, .int .i64 sb.own, .int .i64 sb.other, .int .u64 sb.nonce, .int .u64 sb.echo], cellsI ga 46 [.int .i64 r1.state, .int .i64 r1.own, .int .i64 r1.other, .int .u64 r1.nonce, .int .u64 r1.echo], (cellsI gt 42 [.int .i64 a, .int .i64 b, .int .u64 nA, .int .u64 nB])] (S.map sIt) := hs'
            have HS5 : Hid (Sep [] w w' [(cellsI gd 58 [.int .i64 5, .bool side, .int .u8 place, .slice ba bs.length bc, .int .i64 m.kind, .slice na m.nums.length nc, .slice aa m.addrs.length ac, .slice xa m.body.length xc]), (rowI 52 1 (.slice so S.length sc) S.length (S.map (·.1))), notI nb mb lv' r2, cellsI gb 46 [.int .i64 sb.state, .int .i64 sb.own, .int .i64 sb.other, .int .u64 sb.nonce, .int .u64 sb.echo], cellsI ga 46 [.int .i64 r1.state, .int .i64 r1.own, .int .i64 r1.other, .int .u64 r1.nonce, .int .u64 r1.echo], (cellsI gt 42 [.int .i64 a, .int .i64 b, .int .u64 nA, .int .u64 nB])] (slI (.slice c14 r3.length d14) (u8s r3) :: S.map sIt)) := by
              refine hs4.addB h10.sl ?_
              intro i hi
              simp only [List.mem_cons, List.not_mem_nil, or_false] at hi
              rcases hi with rfl | rfl | rfl | rfl | rfl | rfl
              · exact u8_cells h10 (hs4.cells 0 rfl) (by decide)
              · exact u8_row h10 (hs4.at 1 rfl) (by decide)
              · exact u8_not h10 (hs4.not 2 rfl)
              · exact u8_cells h10 (hs4.cells 3 rfl) (by decide)
              · exact u8_cells h10 (hs4.cells 4 rfl) (by decide)
              · exact u8_cells h10 (hs4.cells 5 rfl) (by decide)
            clear hs4 hs' h10
            go_wp2_with fail
            go_meet
            case rel => exact ⟨r1, sb, r2, r3, [], lv', HT.out, ⟨_, _, rfl⟩, ⟨_, _, rfl⟩, HS5.out.drop1.nil1⟩
    obtain ⟨sa2, sb2, L2, X, Y, lv2, hT, ⟨xa2, xc2, rfl⟩, ⟨ya2, yc2, rfl⟩, hs⟩ := hcut
    unfold shCells at hs
    have HT := Lib.hid hT
    have HSc := Lib.hid hs
    have hS100 := HWi.out.2.2.2
    clear hT hs
    obtain ⟨i0, hi0', hz0, hz1, hz2⟩ := info_parts Try.info_bytes
    have HI0 := Lib.hid (And.intro hi0' (And.intro hz0 (And.intro hz1 hz2)))
    clear hi0' hz0 hz1 hz2
    by_cases hX : X = []
    · subst hX
      by_cases hY : Y = []
      · subst hY
        as_aux_lemma =>
          have HX : Hid (isAns nA [] = false) := isAns_nil nA
          have HB : Hid (Sep [] w wc [(rowI 52 1 (.slice so S.length sc) S.length (S.map (·.1))), notI nb mb lv2 L2, cellsI gb 46 [.int .i64 sb2.state, .int .i64 sb2.own, .int .i64 sb2.other, .int .u64 sb2.nonce, .int .u64 sb2.echo], cellsI ga 46 [.int .i64 sa2.state, .int .i64 sa2.own, .int .i64 sa2.other, .int .u64 sa2.nonce, .int .u64 sa2.echo], (cellsI gt 42 [.int .i64 a, .int .i64 b, .int .u64 nA, .int .u64 nB])] (S.map sIt)) := HSc.out.dropB.dropB
          have q0 := (HB.out.cells 3 rfl).cell 0
          have q4 := (HB.out.cells 3 rfl).cell 4
          have p3 := (HB.out.cells 4 rfl).cell 3
          simp only [List.getElem?_cons_zero, List.getElem?_cons_succ] at q0 q4 p3
          by_cases h3 : sa2.state = 3
          · have h3b : (sa2.state == 3) = true := by rw [h3]; rfl
            have hop := HT.out.fin.opened h3
            have ha2 : (ans || isAns nA []) = true := hop.1
            have he2 : sa2.echo = nB := hop.2
            have he3 : ((sa2.echo : Int) != (nB : Int)) = false := by rw [he2]; simp
            have HA2 := Lib.hid ha2
            clear hop he2 ha2 h3
            have HA3 : ans = true := by have h := HA2.out; rw [HX.out] at h; simpa using h
            subst HA3
            go_wp2_with fail
            go_roundw
            case rel => exact ⟨i + 1, sa2, sb2, L2, true, lv2, so, sc, S, by go_num, rfl, rfl, hlt, h60, by have h := HT.out.fin; unfold TS.fin at h; rw [show _ = true from HA2.out] at h; simpa [put1, HX.out] using h, HB.out⟩
            case measure =>
              simp [intOf]
              omega
          · have h3b : (sa2.state == 3) = false := by simpa using h3
            clear h3
            go_wp2_with fail
            go_roundw
            case rel => exact ⟨i + 1, sa2, sb2, L2, _, lv2, so, sc, S, by go_num, rfl, rfl, hlt, h60, by have h := HT.out.fin; unfold TS.fin at h; simpa [put1, HX.out] using h, HB.out⟩
            case measure =>
              simp [intOf]
              omega
      · have hYl : 0 < Y.length := List.length_pos_iff.2 hY
        as_aux_lemma =>
          obtain ⟨my, hmy⟩ := HT.out.rd hY
          have HMY := Lib.hid hmy
          have HYn : Hid (Y ≠ []) := hY
          clear hY hmy
          have HO : Hid ((wc.alloc (.cells #[.slice ya2 Y.length yc2] 52)).ownsRow 0 52 1 (.slice so S.length sc) S.length (S.map (·.1))) := own_fr (HSc.out.at 0 rfl) (Fr.alloc wc _ []) (by simp)
          have HR : Hid (RowEx (wc.alloc (.cells #[.slice ya2 Y.length yc2] 52)) (.slice (some ⟨wc.heap.size, 0, none⟩) 1 1) 1 1 [.slice ya2 Y.length yc2]) := .inr ⟨_, 1, rfl, rfl, Cells.news (Cells.new wc _ _)⟩
          have HB1 : Hid (S.length + 1 ≤ maxLen) := by
            show _ ≤ _
            unfold maxLen
            omega
          have HB2 : Hid ((S.length + 1) * 24 ≤ 140737488355328) := by
            show _ ≤ _
            omega
          go_upto_region 40 with (at_builtin; refine wpList_append_sep rfl _ _ 51 rfl 52 i0 (.slice none 0 0) 1 24 Try.underlying51 HI0.out.1 HI0.out.2.1 HI0.out.2.2.1 HI0.out.2.2.2 rfl (by decide) (.slice so S.length sc) S.length (S.map (·.1)) rfl HO.out (.slice (some ⟨wc.heap.size, 0, none⟩) 1 1) 1 [.slice ya2 Y.length yc2] rfl HR.out (by simp [Value.oneCell']) HB1.out HB2.out ?_; intro v6 w6 ho hf hq; obtain ⟨so2, sc2, rfl⟩ := own_shape ho; have hs6 := (HSc.out.grow (Fr.alloc wc (.cells #[.slice ya2 Y.length yc2] 52) [])).row 0 rfl ho hf hq; simp only [List.set_cons_zero] at hs6; have HS6 := Lib.hid (Sep.sentX hs6 (X := Y) (by intro b hb; rw [List.mem_cons] at hb ⊢; rcases hb with h | h; exact .inr (List.mem_cons.2 (.inl h)); exact .inr (List.mem_cons_of_mem _ h))); clear ho hf hq hs6)
          clear HO HR HB1 HB2
          go_wp2_with fail
          refine (wr_from w6 _ Y (HS6.out.rd (sIt (.slice ya2 Y.length yc2, Y)) (List.mem_map.2 ⟨(.slice ya2 Y.length yc2, Y), by simp, rfl⟩)).1).mono ?_
          rintro e w7 ⟨hg7, hf⟩
          unfold FromGot at hg7
          rw [HMY.out] at hg7
          obtain ⟨nv7, av7, bv7, rfl, hn7, ha7, hb7⟩ := hg7
          obtain ⟨na7, nc7, rfl⟩ := own_shape hn7
          obtain ⟨ba7, bc7, rfl⟩ := own_shape hb7
          obtain ⟨aa7, ac7, rfl⟩ := ads_shape (ads_of_own ha7)
          have HS7 := Lib.hid (HS6.out.grow hf)
          have HN7 := Lib.hid hn7
          clear hf ha7 hb7 hn7
          unfold mgV
          go_upto_region 41 with (fail)
          obtain ⟨gm, hgm⟩ : ∃ g, g = w7.heap.size := ⟨_, rfl⟩
          obtain ⟨w8, hw⟩ : ∃ w1, w7.alloc (.cells #[.int .i64 my.kind, .slice na7 my.nums.length nc7, .slice aa7 my.addrs.length ac7, .slice ba7 my.body.length bc7] 56) = w1 := ⟨_, rfl⟩
          rw [hw, ← hgm]
          have hs := HS7.out.lay 56 [.int .i64 my.kind, .slice na7 my.nums.length nc7, .slice aa7 my.addrs.length ac7, .slice ba7 my.body.length bc7]
          rw [hw, ← hgm] at hs
          have HS8 := Lib.hid hs
          have hn8 := own_fr HN7.out (Fr.alloc w7 (.cells #[.int .i64 my.kind, .slice na7 my.nums.length nc7, .slice aa7 my.addrs.length ac7, .slice ba7 my.body.length bc7] 56) []) (by simp)
          rw [hw] at hn8
          have HN8 := Lib.hid hn8
          clear hw hgm hs hn8
          have HX : Hid (isAns nA Y = decide (my.kind = 2 ∧ my.nums.getD 3 0 = nA)) := by
            show _ = _
            unfold isAns
            rw [HMY.out]
          have HLN : Hid (my.kind = 2 → my.nums.length = 5) := (kind_len (mfrom_ok HMY.out).1).2
          go_cut [11] (fun v wx => v = .bool (ans || isAns nA Y) ∧ Fr [] w8 wx)
          case first =>
            have q0 := (HS8.out.cells 0 rfl).cell 0
            have q1 := (HS8.out.cells 0 rfl).cell 1
            have p2 := (HS8.out.cells 5 rfl).cell 2
            simp only [List.getElem?_cons_zero, List.getElem?_cons_succ] at q0 q1 p2
            cases ans with
            | true =>
              go_quiet (fail)
              go_wp2_with fail
              go_meet
              case rel => exact ⟨rfl, Fr.drewN _ _ _⟩
            | false =>
              by_cases k2 : my.kind = 2
              · have h5 := HLN.out k2
                obtain ⟨x3, hx3⟩ : ∃ x, my.nums[3]? = some x := ⟨_, List.getElem?_eq_getElem (by omega)⟩
                obtain ⟨g7, rfl, hc7a⟩ := own_cell1 HN8.out (show 3 < my.nums.length by omega)
                have hc7 : w8.cell? ⟨g7, 3, none⟩ = some (.int .u64 x3) := by
                  rw [hc7a]
                  simp [u64s, hx3]
                clear hc7a
                have hlt3 : (3 : Int) < (my.nums.length : Int) := by omega
                have hkb : (my.kind == 2) = true := by rw [k2]; rfl
                have HG : Hid (my.nums.getD 3 0 = x3) := by simp [Hid, List.getD, hx3]
                have HK := Lib.hid k2
                clear hx3 k2 h5
                by_cases hx : x3 = nA
                · have hxb : ((x3 : Int) == (nA : Int)) = true := by rw [hx]; simp
                  have HXX := Lib.hid hx
                  clear hx
                  go_quiet (fail)
                  go_wp2_with fail
                  go_meet
                  case rel => exact ⟨by rw [HX.out, HG.out, HXX.out, HK.out]; simp, Fr.drewN _ _ _⟩
                · have hxb : ((x3 : Int) == (nA : Int)) = false := by
                    rw [beq_eq_false_iff_ne]
                    omega
                  have HXX : Hid (x3 ≠ nA) := hx
                  clear hx
                  go_quiet (fail)
                  go_wp2_with fail
                  go_meet
                  case rel => exact ⟨by rw [HX.out, HG.out, HK.out]; simp [HXX.out], Fr.drewN _ _ _⟩
              · have hkb : (my.kind == 2) = false := by simpa using k2
                have HK : Hid (¬ my.kind = 2) := k2
                clear k2
                go_quiet (fail)
                go_wp2_with fail
                go_meet
                case rel => exact ⟨by rw [HX.out]; simp [HK.out], Fr.drewN _ _ _⟩
          obtain ⟨rfl, hf⟩ := hcut
          have HS9 := Lib.hid (HS8.out.drop1.grow hf)
          clear hf HX
          obtain ⟨ans2, hans2⟩ : ∃ x, x = (ans || isAns nA Y) := ⟨_, rfl⟩
          rw [← hans2]
          have HX := Lib.hid hans2
          clear hans2

          have q0 := (HS9.out.cells 3 rfl).cell 0
          have q4 := (HS9.out.cells 3 rfl).cell 4
          have p3 := (HS9.out.cells 4 rfl).cell 3
          simp only [List.getElem?_cons_zero, List.getElem?_cons_succ] at q0 q4 p3
          by_cases h3 : sa2.state = 3
          · have h3b : (sa2.state == 3) = true := by rw [h3]; rfl
            have hop := HT.out.fin.opened h3
            have ha2 : ans2 = true := by rw [HX.out]; exact hop.1
            have he2 : sa2.echo = nB := hop.2
            have he3 : ((sa2.echo : Int) != (nB : Int)) = false := by rw [he2]; simp
            clear hop he2 h3
            obtain rfl := ha2
            go_wp2_with fail
            go_roundw
            case rel => exact ⟨i + 1, sa2, sb2, L2, true, lv2, so2, sc2, (S ++ [(.slice ya2 Y.length yc2, Y)]), by go_num, rfl, (by rw [List.length_append]; rfl), hlt, h60, by have h := HT.out.fin; unfold TS.fin at h; rw [← HX.out] at h; simpa [put1, HYn.out] using h, (by simpa using HS9.out)⟩
            case measure =>
              simp [intOf]
              omega
          · have h3b : (sa2.state == 3) = false := by simpa using h3
            clear h3
            go_wp2_with fail
            go_roundw
            case rel => exact ⟨i + 1, sa2, sb2, L2, _, lv2, so2, sc2, (S ++ [(.slice ya2 Y.length yc2, Y)]), by go_num, rfl, (by rw [List.length_append]; rfl), hlt, h60, by have h := HT.out.fin; unfold TS.fin at h; rw [← HX.out] at h; simpa [put1, HYn.out] using h, (by simpa using HS9.out)⟩
            case measure =>
              simp [intOf]
              omega
    · have hY : Y = [] := by
        rcases HT.out.one with h | h
        · exact absurd h hX
        · exact h
      subst hY
      have hXl : 0 < X.length := List.length_pos_iff.2 hX
      as_aux_lemma =>
        have HX : Hid (isAns nA [] = false) := isAns_nil nA
        have HXn : Hid (X ≠ []) := hX
        clear hX
        have HO : Hid ((wc.alloc (.cells #[.slice xa2 X.length xc2] 52)).ownsRow 0 52 1 (.slice so S.length sc) S.length (S.map (·.1))) := own_fr (HSc.out.at 0 rfl) (Fr.alloc wc _ []) (by simp)
        have HR : Hid (RowEx (wc.alloc (.cells #[.slice xa2 X.length xc2] 52)) (.slice (some ⟨wc.heap.size, 0, none⟩) 1 1) 1 1 [.slice xa2 X.length xc2]) := .inr ⟨_, 1, rfl, rfl, Cells.news (Cells.new wc _ _)⟩
        have HB1 : Hid (S.length + 1 ≤ maxLen) := by
          show _ ≤ _
          unfold maxLen
          omega
        have HB2 : Hid ((S.length + 1) * 24 ≤ 140737488355328) := by
          show _ ≤ _
          omega
        go_upto_region 38 with (at_builtin; refine wpList_append_sep rfl _ _ 51 rfl 52 i0 (.slice none 0 0) 1 24 Try.underlying51 HI0.out.1 HI0.out.2.1 HI0.out.2.2.1 HI0.out.2.2.2 rfl (by decide) (.slice so S.length sc) S.length (S.map (·.1)) rfl HO.out (.slice (some ⟨wc.heap.size, 0, none⟩) 1 1) 1 [.slice xa2 X.length xc2] rfl HR.out (by simp [Value.oneCell']) HB1.out HB2.out ?_; intro v6 w6 ho hf hq; obtain ⟨so2, sc2, rfl⟩ := own_shape ho; have hs6 := (HSc.out.grow (Fr.alloc wc (.cells #[.slice xa2 X.length xc2] 52) [])).row 0 rfl ho hf hq; simp only [List.set_cons_zero] at hs6; have HS6 := Lib.hid (Sep.sentX hs6 (X := X) (by intro b hb; rw [List.mem_cons] at hb ⊢; rcases hb with h | h; exact .inl h; exact .inr (List.mem_cons_of_mem _ h))); clear ho hf hq hs6)
        clear HO HR HB1 HB2
        have HS9 := Lib.hid HS6.out
        have q0 := (HS9.out.cells 3 rfl).cell 0
        have q4 := (HS9.out.cells 3 rfl).cell 4
        have p3 := (HS9.out.cells 4 rfl).cell 3
        simp only [List.getElem?_cons_zero, List.getElem?_cons_succ] at q0 q4 p3
        by_cases h3 : sa2.state = 3
        · have h3b : (sa2.state == 3) = true := by rw [h3]; rfl
          have hop := HT.out.fin.opened h3
          have ha2 : (ans || isAns nA []) = true := hop.1
          have he2 : sa2.echo = nB := hop.2
          have he3 : ((sa2.echo : Int) != (nB : Int)) = false := by rw [he2]; simp
          have HA2 := Lib.hid ha2
          clear hop he2 ha2 h3
          have HA3 : ans = true := by have h := HA2.out; rw [HX.out] at h; simpa using h
          subst HA3
          go_wp2_with fail
          go_roundw
          case rel => exact ⟨i + 1, sa2, sb2, L2, true, lv2, so2, sc2, (S ++ [(.slice xa2 X.length xc2, X)]), by go_num, rfl, (by rw [List.length_append]; rfl), hlt, h60, by have h := HT.out.fin; unfold TS.fin at h; rw [show _ = true from HA2.out] at h; simpa [put1, HX.out, HXn.out] using h, (by simpa using HS9.out)⟩
          case measure =>
            simp [intOf]
            omega
        · have h3b : (sa2.state == 3) = false := by simpa using h3
          clear h3
          go_wp2_with fail
          go_roundw
          case rel => exact ⟨i + 1, sa2, sb2, L2, _, lv2, so2, sc2, (S ++ [(.slice xa2 X.length xc2, X)]), by go_num, rfl, (by rw [List.length_append]; rfl), hlt, h60, by have h := HT.out.fin; unfold TS.fin at h; simpa [put1, HX.out, HXn.out] using h, (by simpa using HS9.out)⟩
          case measure =>
            simp [intOf]
            omega
end Go.Proofs.Ytjfmgpelkhgodaa
