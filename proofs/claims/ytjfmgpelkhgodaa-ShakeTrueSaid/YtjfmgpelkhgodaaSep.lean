/- What a walk holds of memory, thing by thing: each thing has its own blocks, apart from the others'. No condition. -/
import Derived.Test.YtjfmgpelkhgodaaShakeE
namespace Go.Proofs.Ytjfmgpelkhgodaa
open Go.RowKit

/-- A thing in memory: what holds of it, and its blocks; it stays as long as its blocks are left alone. -/
structure It where
  ok : World → Prop
  foot : List Nat
  lt : ∀ w, ok w → ∀ q, q ∈ foot → q < w.heap.size
  fr : ∀ S w w', ok w → Fr S w w' → (∀ q, q ∈ foot → q ∉ S) → ok w'

def Apart (a b : It) : Prop := ∀ q, q ∈ a.foot → q ∉ b.foot
theorem Apart.symm {a b : It} (h : Apart a b) : Apart b a := fun q hb ha => h q ha hb

/-- What is held: I, the things that may be turned, each apart from each other; B, those that are only read. S0: the caller's blocks that may be turned. -/
structure Sep (S0 : List Nat) (w0 w : World) (I B : List It) : Prop where
  fr : Fr S0 w0 w
  ok : ∀ i, i ∈ I → i.ok w
  lo : ∀ i, i ∈ I → ∀ q, q ∈ i.foot → q ∈ S0 ∨ w0.heap.size ≤ q
  dis : I.Pairwise Apart
  rd : ∀ b, b ∈ B → b.ok w ∧ ∀ i, i ∈ I → Apart b i

section
variable {S0 : List Nat} {w0 w w' : World} {I B : List It}
theorem Sep.start (S0 : List Nat) (w : World) : Sep S0 w w [] [] := ⟨Fr.refl _ _, by simp, by simp, .nil, by simp⟩
theorem Sep.at (h : Sep S0 w0 w I B) (k : Nat) {i : It} (hk : I[k]? = some i) : i.ok w := h.ok _ (List.mem_of_getElem? hk)
theorem Sep.bt (h : Sep S0 w0 w I B) (k : Nat) {i : It} (hk : B[k]? = some i) : i.ok w := (h.rd _ (List.mem_of_getElem? hk)).1
theorem Sep.size (h : Sep S0 w0 w I B) : w0.heap.size ≤ w.heap.size := h.fr.size
theorem Sep.grow (h : Sep S0 w0 w I B) (hf : Fr [] w w') : Sep S0 w0 w' I B :=
  ⟨h.fr.trans (hf.mono (by simp)), fun i hi => i.fr _ _ _ (h.ok i hi) hf (by simp), h.lo, h.dis, fun b hb => ⟨b.fr _ _ _ (h.rd b hb).1 hf (by simp), (h.rd b hb).2⟩⟩
theorem Sep.drew (h : Sep S0 w0 w I B) : Sep S0 w0 w.drew I B := h.grow (Fr.drew w [])
theorem Sep.drewN (h : Sep S0 w0 w I B) (n : Nat) : Sep S0 w0 (w.drewN n) I B := h.grow (Fr.drewN w n [])
/-- Something new. -/
theorem Sep.new (h : Sep S0 w0 w I B) (hf : Fr [] w w') {n : It} (hn : n.ok w') (hq : ∀ q, q ∈ n.foot → w.heap.size ≤ q) : Sep S0 w0 w' (n :: I) B := by
  have hg := h.grow hf
  refine ⟨hg.fr, ?_, ?_, ?_, ?_⟩
  · intro i hi
    rcases List.mem_cons.1 hi with rfl | hi
    · exact hn
    · exact hg.ok i hi
  · intro i hi q hqi
    rcases List.mem_cons.1 hi with rfl | hi
    · exact .inr (Nat.le_trans h.fr.size (hq q hqi))
    · exact h.lo i hi q hqi
  · refine List.pairwise_cons.2 ⟨fun i hi q h1 h2 => ?_, h.dis⟩
    have := i.lt _ (h.ok i hi) q h2
    have := hq q h1
    omega
  · intro b hb
    refine ⟨(hg.rd b hb).1, fun i hi => ?_⟩
    rcases List.mem_cons.1 hi with rfl | hi
    · intro q h1 h2
      have := b.lt _ (h.rd b hb).1 q h1
      have := hq q h2
      omega
    · exact (h.rd b hb).2 i hi
/-- Something new that is only read. -/
theorem Sep.newB (h : Sep S0 w0 w I B) (hf : Fr [] w w') {n : It} (hn : n.ok w') (hq : ∀ q, q ∈ n.foot → w.heap.size ≤ q) : Sep S0 w0 w' I (n :: B) := by
  have hg := h.grow hf
  refine ⟨hg.fr, hg.ok, hg.lo, hg.dis, ?_⟩
  intro b hb
  rcases List.mem_cons.1 hb with rfl | hb
  · refine ⟨hn, fun i hi q h1 h2 => ?_⟩
    have := i.lt _ (h.ok i hi) q h2
    have := hq q h1
    omega
  · exact hg.rd b hb
/-- The k-th is turned, and its blocks alone. -/
theorem Sep.upd (h : Sep S0 w0 w I B) (k : Nat) {i n : It} (hk : I[k]? = some i) (hf : Fr i.foot w w') (hn : n.ok w') (hq : ∀ q, q ∈ n.foot → q ∈ i.foot ∨ w.heap.size ≤ q) : Sep S0 w0 w' (I.set k n) B := by
  have hmem := List.mem_of_getElem? hk
  have hklt := (List.getElem?_eq_some_iff.1 hk).1
  have hki := (List.getElem?_eq_some_iff.1 hk).2
  have hsy : ∀ (a b : Nat) (x y : It), I[a]? = some x → I[b]? = some y → a ≠ b → Apart x y := by
    intro a b x y ha hb hne
    obtain ⟨ha1, ha2⟩ := List.getElem?_eq_some_iff.1 ha
    obtain ⟨hb1, hb2⟩ := List.getElem?_eq_some_iff.1 hb
    rcases Nat.lt_or_gt_of_ne hne with hlt | hlt
    · have := List.pairwise_iff_getElem.1 h.dis a b ha1 hb1 hlt
      rw [ha2, hb2] at this
      exact this
    · have := List.pairwise_iff_getElem.1 h.dis b a hb1 ha1 hlt
      rw [ha2, hb2] at this
      exact Apart.symm this
  have hcases : ∀ j, j ∈ I.set k n → j = n ∨ ∃ a, a ≠ k ∧ I[a]? = some j := by
    intro j hj
    obtain ⟨a, ha⟩ := List.getElem?_of_mem hj
    by_cases hak : k = a
    · subst hak
      rw [List.getElem?_set_self hklt] at ha
      exact .inl (Option.some.inj ha).symm
    · rw [List.getElem?_set_ne hak] at ha
      exact .inr ⟨a, Ne.symm hak, ha⟩
  have hap : ∀ (x : It), x.ok w → Apart x i → Apart x n := by
    intro x hx hxi q h1 h2
    rcases hq q h2 with h3 | h3
    · exact hxi q h1 h3
    · have := x.lt _ hx q h1
      omega
  refine ⟨h.fr.step hf (fun q hqi => h.lo i hmem q hqi), ?_, ?_, ?_, ?_⟩
  · intro j hj
    rcases hcases j hj with rfl | ⟨a, ha, hja⟩
    · exact hn
    · exact j.fr _ _ _ (h.ok j (List.mem_of_getElem? hja)) hf (hsy a k j i hja hk ha)
  · intro j hj q hqj
    rcases hcases j hj with rfl | ⟨a, ha, hja⟩
    · rcases hq q hqj with h3 | h3
      · exact h.lo i hmem q h3
      · exact .inr (Nat.le_trans h.fr.size h3)
    · exact h.lo j (List.mem_of_getElem? hja) q hqj
  · rw [List.pairwise_iff_getElem]
    intro a b ha hb hab
    rw [List.length_set] at ha hb
    rw [List.getElem_set, List.getElem_set]
    have hab' := List.pairwise_iff_getElem.1 h.dis a b ha hb hab
    by_cases h1 : k = a
    · subst h1
      rw [if_pos rfl, if_neg (by omega)]
      exact (hap _ (h.ok _ (List.getElem_mem hb)) (hki ▸ Apart.symm hab')).symm
    · rw [if_neg h1]
      by_cases h2 : k = b
      · subst h2
        rw [if_pos rfl]
        exact hap _ (h.ok _ (List.getElem_mem ha)) (hki ▸ hab')
      · rw [if_neg h2]
        exact hab'
  · intro b hb
    refine ⟨b.fr _ _ _ (h.rd b hb).1 hf ((h.rd b hb).2 i hmem), fun j hj => ?_⟩
    rcases hcases j hj with rfl | ⟨a, ha, hja⟩
    · exact hap _ (h.rd b hb).1 ((h.rd b hb).2 i hmem)
    · exact (h.rd b hb).2 j (List.mem_of_getElem? hja)
theorem Sep.perm {I' : List It} (h : Sep S0 w0 w I B) (hp : I.Perm I') : Sep S0 w0 w I' B :=
  ⟨h.fr, fun i hi => h.ok i (hp.mem_iff.2 hi), fun i hi => h.lo i (hp.mem_iff.2 hi), hp.pairwise h.dis (fun {_ _} h => Apart.symm h), fun b hb => ⟨(h.rd b hb).1, fun i hi => (h.rd b hb).2 i (hp.mem_iff.2 hi)⟩⟩
theorem Sep.drop1 {i : It} (h : Sep S0 w0 w (i :: I) B) : Sep S0 w0 w I B :=
  ⟨h.fr, fun j hj => h.ok j (List.mem_cons_of_mem _ hj), fun j hj => h.lo j (List.mem_cons_of_mem _ hj), (List.pairwise_cons.1 h.dis).2, fun b hb => ⟨(h.rd b hb).1, fun j hj => (h.rd b hb).2 j (List.mem_cons_of_mem _ hj)⟩⟩
theorem Sep.keep {I' : List It} (h : Sep S0 w0 w I B) (hs : I'.Sublist I) : Sep S0 w0 w I' B :=
  ⟨h.fr, fun j hj => h.ok j (hs.subset hj), fun j hj => h.lo j (hs.subset hj), h.dis.sublist hs, fun b hb => ⟨(h.rd b hb).1, fun j hj => (h.rd b hb).2 j (hs.subset hj)⟩⟩
theorem Sep.keepB {B' : List It} (h : Sep S0 w0 w I B) (hs : ∀ b, b ∈ B' → b ∈ B) : Sep S0 w0 w I B' :=
  ⟨h.fr, h.ok, h.lo, h.dis, fun b hb => h.rd b (hs b hb)⟩
theorem Sep.dropB {b : It} (h : Sep S0 w0 w I (b :: B)) : Sep S0 w0 w I B := h.keepB fun _ hb => List.mem_cons_of_mem _ hb
/-- The first is turned no more. -/
theorem Sep.freeze {i : It} (h : Sep S0 w0 w (i :: I) B) : Sep S0 w0 w I (i :: B) := by
  refine ⟨h.drop1.fr, h.drop1.ok, h.drop1.lo, h.drop1.dis, ?_⟩
  intro b hb
  rcases List.mem_cons.1 hb with rfl | hb
  · exact ⟨h.ok _ (List.mem_cons_self ..), fun j hj => (List.pairwise_cons.1 h.dis).1 j hj⟩
  · exact h.drop1.rd b hb
/-- What was there ahead of it all, and isn't the caller's to turn. -/
theorem Sep.old (h : Sep S0 w0 w I B) {n : It} (hn : n.ok w0) (hq : ∀ q, q ∈ n.foot → q ∉ S0) : Sep S0 w0 w I (n :: B) := by
  refine ⟨h.fr, h.ok, h.lo, h.dis, ?_⟩
  intro b hb
  rcases List.mem_cons.1 hb with rfl | hb
  · refine ⟨b.fr _ _ _ hn h.fr hq, fun i hi q h1 h2 => ?_⟩
    rcases h.lo i hi q h2 with h3 | h3
    · exact hq q h1 h3
    · have := b.lt _ hn q h1
      omega
  · exact h.rd b hb
end

/-! ### things -/
/-- A block of cells. -/
def cellsI (g : Nat) (T : TypeId) (cs : List Value) : It where
  ok := fun w => Cells w g T cs
  foot := [g]
  lt := fun _ h q hq => by
    simp only [List.mem_singleton] at hq
    subst hq
    exact h.lt
  fr := fun _ _ _ h hf hS => h.fr hf (hS g (by simp))
/-- A slice, read. -/
def slI (v : Value) (xs : List Value) : It where
  ok := fun w => SlAt w v xs
  foot := v.ownBlock.toList
  lt := fun _ h q hq => by
    rw [Option.mem_toList] at hq
    rcases h with ⟨rfl, _⟩ | ⟨g', off, cap, rfl, h1, _⟩
    · simp [Value.ownBlock] at hq
    · simp [Value.ownBlock] at hq
      omega
  fr := fun _ _ _ h hf hS => h.fr hf (fun g hg => hS g (by simp [hg]))
/-- An own row. -/
def rowI (T : TypeId) (size : Nat) (v : Value) (n : Nat) (xs : List Value) : It where
  ok := fun w => w.ownsRow 0 T size v n xs
  foot := v.ownBlock.toList
  lt := fun _ h q hq => (h.lt q (by simpa using hq)).2
  fr := fun _ _ _ h hf hS => own_fr h hf (fun g hg => hS g (by simp [hg]))
/-- A notary. -/
def notI (nb mb : Nat) (lv : Value) (L : List En) : It where
  ok := fun w => NotIn w nb mb lv L
  foot := NBlocks nb mb lv
  lt := fun _ h => NotIn.blt h
  fr := fun _ _ _ h hf hS => h.fr hf (fun g hg hm => hS g hm hg)

section
variable {S0 : List Nat} {w0 w w' : World} {I B : List It}
theorem Sep.lay (h : Sep S0 w0 w I B) (T : TypeId) (cs : List Value) : Sep S0 w0 (w.alloc (.cells cs.toArray T)) (cellsI w.heap.size T cs :: I) B :=
  h.new (Fr.alloc w _ []) (Cells.new w T cs) (by simp [cellsI])
theorem Sep.cells (h : Sep S0 w0 w I B) (k : Nat) {g : Nat} {T : TypeId} {cs : List Value} (hk : I[k]? = some (cellsI g T cs)) : Cells w g T cs := h.at k hk
theorem Sep.put (h : Sep S0 w0 w I B) (k : Nat) {g : Nat} {T : TypeId} {cs cs' : List Value} (hk : I[k]? = some (cellsI g T cs)) (hf : Fr [g] w w') (hc : Cells w' g T cs') : Sep S0 w0 w' (I.set k (cellsI g T cs')) B :=
  h.upd k hk hf (n := cellsI g T cs') hc (fun _ hq => .inl hq)
theorem Sep.not (h : Sep S0 w0 w I B) (k : Nat) {nb mb : Nat} {lv : Value} {L : List En} (hk : I[k]? = some (notI nb mb lv L)) : NotIn w nb mb lv L := h.at k hk
/-- A call that may have minted. -/
theorem Sep.sent (h : Sep S0 w0 w I B) (k : Nat) {nb mb : Nat} {lv : Value} {L L' : List En} {bs : List UInt8} {v : Value} (hk : I[k]? = some (notI nb mb lv L)) (hs : SentAt w w' nb mb lv L' bs v) :
    ∃ lv', Sep S0 w0 w' (I.set k (notI nb mb lv' L')) (slI v (u8s bs) :: B) := by
  obtain ⟨h1, h2, h3, lv', h4, h5⟩ := hs
  have hu := h.upd k hk (n := notI nb mb lv' L') h3 h4 (by
    intro q hq
    show q ∈ NBlocks nb mb lv ∨ _
    have hq : q ∈ NBlocks nb mb lv' := hq
    simp only [NBlocks, List.mem_cons, Option.mem_toList] at hq ⊢
    rcases hq with hq | hq | hq
    · exact .inl (.inl hq)
    · exact .inl (.inr (.inl hq))
    · rcases h5 q hq with h6 | h6
      · exact .inl (.inr (.inr h6))
      · exact .inr h6)
  refine ⟨lv', hu.fr, hu.ok, hu.lo, hu.dis, ?_⟩
  intro b hb
  rcases List.mem_cons.1 hb with rfl | hb
  · refine ⟨sl_of_own h1, fun i hi g hg hm => ?_⟩
    have hg : v.ownBlock = some g := by simpa [slI] using hg
    have hge := own_ge h1 hg
    have hmem := List.mem_of_getElem? hk
    obtain ⟨a, ha⟩ := List.getElem?_of_mem hi
    have hklt := (List.getElem?_eq_some_iff.1 hk).1
    by_cases hak : k = a
    · subst hak
      rw [List.getElem?_set_self hklt] at ha
      obtain rfl := Option.some.inj ha
      have hm : g ∈ NBlocks nb mb lv' := hm
      have hN := NotIn.blt (h.not k hk)
      simp only [NBlocks, List.mem_cons, Option.mem_toList] at hm
      rcases hm with hm | hm | hm
      · have := hN g (by simp [NBlocks, hm])
        omega
      · have := hN g (by simp [NBlocks, hm])
        omega
      · obtain ⟨cur, hc⟩ := own_type h4.list hm
        obtain ⟨cur', hc'⟩ := own_type h1 hg
        rw [hc] at hc'
        cases hc'
    · rw [List.getElem?_set_ne hak] at ha
      have := i.lt _ (h.ok i (List.mem_of_getElem? ha)) g hm
      omega
  · exact hu.rd b hb
/-- The same, where nothing is sent. -/
theorem Sep.sent0 (h : Sep S0 w0 w I B) (k : Nat) {nb mb : Nat} {lv : Value} {L L' : List En} {v : Value} (hk : I[k]? = some (notI nb mb lv L)) (hs : SentAt w w' nb mb lv L' [] v) :
    v = .slice none 0 0 ∧ ∃ lv', Sep S0 w0 w' (I.set k (notI nb mb lv' L')) B := by
  obtain ⟨lv', h'⟩ := h.sent k hk hs
  exact ⟨hs.2.1.2 rfl, lv', h'.dropB⟩
theorem Sep.notary {nb mb : Nat} (h : Sep S0 w0 w I B) (hN : NotIn w' nb mb (.slice none 0 0) []) (hf : Fr [] w w') (hnb : w.heap.size ≤ nb) (hmb : w.heap.size ≤ mb) : Sep S0 w0 w' (notI nb mb (.slice none 0 0) [] :: I) B :=
  h.new hf (n := notI nb mb (.slice none 0 0) []) hN (by
    intro q hq
    have hq : q ∈ NBlocks nb mb (.slice none 0 0) := hq
    simp only [NBlocks, Value.ownBlock, Option.toList_none, List.mem_cons, List.not_mem_nil, or_false] at hq
    omega)
end

/-! ### appending to an own row -/
/-- What is appended: m elements of so many cells. -/
def RowEx (w : World) (sv : Value) (m size : Nat) (news : List Value) : Prop :=
  (sv = .slice none 0 0 ∧ m = 0 ∧ news = []) ∨ ∃ ad c, sv = .slice (some ad) m c ∧ news.length = m * size ∧ ∀ j u, news[j]? = some u → w.cell? (ad.add j) = some u
theorem append_where {P : Program} {w w' : World} {t ty e : TypeId} {i : TypeInfo} {z : Value} {size bytes : Nat} (ht : P.underlying t = some (.slice e)) (hi : P.info? e = some i) (hz : i.zero = some z)
    (hsize : i.size = size) (hby : i.bytes = bytes) {v v' : Value} {n : Nat} {xs : List Value} (hown : w.ownsRow 0 e size v n xs)
    {a : Addr} {m c : Nat} {news : List Value} (hl : news.length = m * size) (hnews : ∀ j u, news[j]? = some u → w.cell? (a.add j) = some u) (h1 : ∀ u ∈ news, u.oneCell' = true)
    (h63 : n + m ≤ maxLen) (hbytes : (n + m) * bytes ≤ 140737488355328) (hr : (Builtin.append_ #[t, t] ty #[v, .slice (some a) m c]).run P w = .ok v' w') :
    ∀ q, v'.ownBlock = some q → v.ownBlock = some q ∨ w.heap.size ≤ q := by
  subst hsize hby
  have hsmall : n + m ≤ 9223372036854775807 := by simp only [maxLen] at h63; omega
  intro q hq
  rcases hown.2 with ⟨rfl, rfl⟩ | ⟨g, cap, cur, rfl, _, hg, hnc, hcm, hcs, htake⟩
  · by_cases hm : m = 0
    · subst hm
      have : (Builtin.append_ #[t, t] ty #[.slice none 0 0, .slice (some a) 0 c]).run P w = .ok (.slice none 0 0) w := by
        simp [Builtin.append_, run_underlying ht, sizeOf, typeInfo, hi, Builtin.lenOf, Builtin.firstCells, loadCells, loadCellsFrom]
      rw [this] at hr
      cases hr
      simp [Value.ownBlock] at hq
    · rw [run_append_nil (P := P) w t ty e i z ht hi hz a m c news hl hnews (by omega) (by omega) (by have hb := hbytes; simp only [Nat.zero_add] at hb; omega)] at hr
      cases hr
      simp only [Value.ownBlock, Option.some.injEq] at hq
      exact .inr (by omega)
  · by_cases hroom : n + m ≤ cap
    · have hfit : n * i.size + news.length ≤ cur.size := by rw [hl, hcs, ← Nat.add_mul]; exact Nat.mul_le_mul_right _ hroom
      rw [run_append_room (P := P) w t ty e i ht hi g n cap cur hg a m c news hl hnews h1 hroom hfit] at hr
      cases hr
      exact .inl hq
    · have holds : ∀ j u, xs[j]? = some u → w.cell? ((⟨g, 0, none⟩ : Addr).add j) = some u := hown.cells (g := g) rfl
      rw [run_append_grow (P := P) w t ty e i z ht hi hz ⟨g, 0, none⟩ n cap xs hown.1 holds a m c news hl hnews (by omega) (by omega) (growslice_fits (by omega) hbytes)] at hr
      cases hr
      simp only [Value.ownBlock, Option.some.injEq] at hq
      exact .inr (by omega)
theorem run_append_sep {P : Program} {w : World} (t ty e : TypeId) (i : TypeInfo) (z : Value) (size bytes : Nat) (ht : P.underlying t = some (.slice e)) (hi : P.info? e = some i) (hz : i.zero = some z)
    (hsize : i.size = size) (hby : i.bytes = bytes) (hzs : z.cells.size = size) (hsz : 0 < size) (v : Value) (n : Nat) (xs : List Value) (hown : w.ownsRow 0 e size v n xs)
    (sv : Value) (m : Nat) (news : List Value) (hsv : RowEx w sv m size news) (h1 : ∀ u ∈ news, u.oneCell' = true) (h63 : n + m ≤ maxLen) (hbytes : (n + m) * bytes ≤ 140737488355328) :
    ∃ v' w', (Builtin.append_ #[t, t] ty #[v, sv]).run P w = .ok v' w' ∧ w'.ownsRow 0 e size v' (n + m) (xs ++ news) ∧ Fr v.ownBlock.toList w w' ∧ (∀ q, v'.ownBlock = some q → v.ownBlock = some q ∨ w.heap.size ≤ q) := by
  rcases hsv with ⟨rfl, rfl, rfl⟩ | ⟨ad, c, rfl, hl, hnews⟩
  · refine ⟨v, w, run_append_owned_none (P := P) (w := w) 0 t ty e i size ht hi v n xs hown, by simpa using hown, Fr.refl _ _, fun q hq => .inl hq⟩
  · obtain ⟨v', w', hr, h2, h3, _⟩ := run_append_own (P := P) w 0 t ty e i z size bytes ht hi hz hsize hby hzs hsz v n xs hown ad m c news hl hnews h1 h63 hbytes (Nat.zero_le _)
    refine ⟨v', w', hr, h2, Fr.grown h3 _ (fun k hk => .inl (by simp [hk])), append_where ht hi hz hsize hby hown hl hnews h1 h63 hbytes hr⟩
theorem wp_append_sep {P : Program} {w : World} {o : Oper} {a : Act} {K : Act → World → Prop} {Q : Exit → Act → World → Prop} (s x : Operand) (t : TypeId)
    (ho : o.op = .call { callee := .builtin .append, args := #[s, x], argTypes := #[t, t] })
    (e : TypeId) (i : TypeInfo) (z : Value) (size bytes : Nat) (ht : P.underlying t = some (.slice e)) (hi : P.info? e = some i) (hz : i.zero = some z)
    (hsize : i.size = size) (hby : i.bytes = bytes) (hzs : z.cells.size = size) (hsz : 0 < size)
    (v : Value) (n : Nat) (xs : List Value) (hs : a.eval s = v) (hown : w.ownsRow 0 e size v n xs)
    (sv : Value) (m : Nat) (news : List Value) (hx : a.eval x = sv) (hsv : RowEx w sv m size news) (h1 : ∀ u ∈ news, u.oneCell' = true)
    (h63 : n + m ≤ maxLen) (hbytes : (n + m) * bytes ≤ 140737488355328)
    (h : ∀ v' w', w'.ownsRow 0 e size v' (n + m) (xs ++ news) → Fr v.ownBlock.toList w w' → (∀ q, v'.ownBlock = some q → v.ownBlock = some q ∨ w.heap.size ≤ q) → K (a.put o.dst v') w') : o.wp P a w K Q := by
  obtain ⟨v', w', hr, h2, h3, h4⟩ := run_append_sep (P := P) t o.type e i z size bytes ht hi hz hsize hby hzs hsz v n xs hown sv m news hsv h1 h63 hbytes
  unfold Oper.wp execOp
  simp only [ho, resolve, invoke, builtin, Sem.run_bind, Sem.run_pure, Result.andThen_ok, List.map_toArray, List.map_cons, List.map_nil, hs, hx, hr]
  exact h v' w' h2 h3 h4
theorem wpList_append_sep {P : Program} {w : World} {ops : Array Oper} {rest : List Oper} {o : Oper} {a : Act} {Q : Exit → Act → World → Prop} (hgd : o.guard = none) (s x : Operand) (t : TypeId)
    (ho : o.op = .call { callee := .builtin .append, args := #[s, x], argTypes := #[t, t] })
    (e : TypeId) (i : TypeInfo) (z : Value) (size bytes : Nat) (ht : P.underlying t = some (.slice e)) (hi : P.info? e = some i) (hz : i.zero = some z)
    (hsize : i.size = size) (hby : i.bytes = bytes) (hzs : z.cells.size = size) (hsz : 0 < size)
    (v : Value) (n : Nat) (xs : List Value) (hs : a.eval s = v) (hown : w.ownsRow 0 e size v n xs)
    (sv : Value) (m : Nat) (news : List Value) (hx : a.eval x = sv) (hsv : RowEx w sv m size news) (h1 : ∀ u ∈ news, u.oneCell' = true)
    (h63 : n + m ≤ maxLen) (hbytes : (n + m) * bytes ≤ 140737488355328)
    (h : ∀ v' w', w'.ownsRow 0 e size v' (n + m) (xs ++ news) → Fr v.ownBlock.toList w w' → (∀ q, v'.ownBlock = some q → v.ownBlock = some q ∨ w.heap.size ≤ q) → wpList P ops Q rest (a.put o.dst v') w') : wpList P ops Q (o :: rest) a w :=
  wpList_plain hgd fun _ hK => wp_append_sep s x t ho e i z size bytes ht hi hz hsize hby hzs hsz v n xs hs hown sv m news hx hsv h1 h63 hbytes fun v' w' h2 h3 h4 => hK _ _ (h v' w' h2 h3 h4)
section
variable {S0 : List Nat} {w0 w w' : World} {I B : List It}
/-- A row that was appended to. -/
theorem Sep.row (h : Sep S0 w0 w I B) (k : Nat) {T : TypeId} {size : Nat} {v v' : Value} {n n' : Nat} {xs xs' : List Value} (hk : I[k]? = some (rowI T size v n xs)) (ho : w'.ownsRow 0 T size v' n' xs') (hf : Fr v.ownBlock.toList w w')
    (hq : ∀ q, v'.ownBlock = some q → v.ownBlock = some q ∨ w.heap.size ≤ q) : Sep S0 w0 w' (I.set k (rowI T size v' n' xs')) B :=
  h.upd k hk hf (n := rowI T size v' n' xs') ho (fun q hm => by
    have hm : q ∈ v'.ownBlock.toList := hm
    rcases hq q (by simpa using hm) with h1 | h1
    · exact .inl (show q ∈ v.ownBlock.toList by simp [h1])
    · exact .inr h1)
end
end Go.Proofs.Ytjfmgpelkhgodaa
