/- The rule for regions, its side conditions as checks on the text of the region. -/
import Derived.KernelRfl
import Derived.Test.YtjfmgpelkhgodaaRegFacts
namespace Go.Proofs.Ytjfmgpelkhgodaa

def dsts (l : List Oper) : List Nat := l.filterMap (·.dst)
/-- Each slot is written once, within the frame; what an operation waits for stands ahead of it. -/
def regB (l : List Oper) (n : Nat) : Bool := decide (dsts l).Nodup && (dsts l).all (fun d => decide (d < n)) && (l.zipIdx.all fun oi => oi.1.after.toList.all fun e => !Region.binds .any e || decide (e.on < oi.2))

/-- A store waits for whoever writes the slot of its address. -/
def storeB (l : List Oper) : Bool := l.all fun o =>
  match o.dst, o.op with
  | none, .store _ (.tmp t) _ => l.zipIdx.all fun oi => !(oi.1.dst == some t) || o.after.toList.any fun e => e.on == oi.2 && Region.binds .any e
  | _, _ => true
theorem dsts_once : ∀ (l : List Oper), (dsts l).Nodup → ∀ (i j : Nat) (oi oj : Oper), l[i]? = some oi → l[j]? = some oj → i < j → ∀ d, oi.dst = some d → oj.dst ≠ some d
  | [], _, _, _, _, _, h, _, _, _, _ => by simp at h
  | o :: l, hn, i, j, oi, oj, hi, hj, hij, d, hd => by
    intro hd'
    obtain ⟨j, rfl⟩ : ∃ k, j = k + 1 := ⟨j - 1, by omega⟩
    rw [List.getElem?_cons_succ] at hj
    have hn' : (dsts l).Nodup := by
      unfold dsts at hn ⊢
      rw [List.filterMap_cons] at hn
      split at hn
      · exact hn
      · exact (List.nodup_cons.1 hn).2
    cases i with
    | zero =>
      simp only [List.getElem?_cons_zero, Option.some.injEq] at hi
      subst hi
      unfold dsts at hn
      rw [List.filterMap_cons, hd] at hn
      exact (List.nodup_cons.1 hn).1 (List.mem_filterMap.2 ⟨oj, List.mem_of_getElem? hj, hd'⟩)
    | succ i =>
      rw [List.getElem?_cons_succ] at hi
      exact dsts_once l hn' i j oi oj hi hj (by omega) d hd hd'

/-- One obligation an operation. -/
def ObAll (Ob : Nat → Oper → Prop) : Nat → List Oper → Prop
  | _, [] => True
  | i, o :: l => Ob i o ∧ ObAll Ob (i + 1) l
theorem ObAll.at {Ob : Nat → Oper → Prop} : ∀ (l : List Oper) (k : Nat), ObAll Ob k l → ∀ (i : Nat) (o : Oper), l[i]? = some o → Ob (k + i) o
  | [], _, _, i, o, h => by simp at h
  | x :: l, k, hall, i, o, h => by
    cases i with
    | zero =>
      simp only [List.getElem?_cons_zero, Option.some.injEq] at h
      subst h
      exact hall.1
    | succ i =>
      rw [List.getElem?_cons_succ] at h
      have := ObAll.at l (k + 1) hall.2 i o h
      rw [show k + (i + 1) = k + 1 + i from by omega]
      exact this
theorem ObAll.of {Ob : Nat → Oper → Prop} : ∀ (l : List Oper) (k : Nat), (∀ (i : Nat) (o : Oper), l[i]? = some o → Ob (k + i) o) → ObAll Ob k l
  | [], _, _ => trivial
  | x :: l, k, h => ⟨h 0 x rfl, ObAll.of l (k + 1) fun i o hi => by
    have := h (i + 1) o (by rw [List.getElem?_cons_succ]; exact hi)
    rw [show k + (i + 1) = k + 1 + i from by omega] at this
    exact this⟩

/-- A slot that the region does not write. -/
def Outer (l : List Oper) (a0 a : Act) : Prop := ∀ t, (dsts l).contains t = false → a.tmps[t]?.getD undef = a0.tmps[t]?.getD undef
/-- What an operation is asked for. -/
def Ob1 (P : Program) (l : List Oper) (a0 : Act) (J : World → Prop) (F : Nat → Value → World → Prop) (R : World → World → Prop) (Q : Exit → Act → World → Prop) (i : Nat) (o : Oper) : Prop :=
  ∀ a w, J w → a.defers = a0.defers → Outer l a0 a →
    (∀ (j : Nat) (oj : Oper), (o.after.toList.any fun e => e.on == j && Region.binds .any e) = true → l[j]? = some oj → F j (valOf oj a) w) →
    if Region.wanted o (yielded l.toArray a.tmps) = true then o.wp P a w (fun a' w' => ∃ v, a' = a.put o.dst v ∧ J w' ∧ R w w' ∧ F i (match o.dst with | some _ => v | none => valOf o a) w') Q else F i (match o.dst with | some _ => undef | none => valOf o a) w

/-- The frame that the region leaves: what each operation left in its slot. -/
def fillAct : List Oper → Act → Act → Act
  | [], _, b => b
  | o :: l, a, b => fillAct l a (b.put o.dst (valOf o a))
theorem fillAct_defers : ∀ (l : List Oper) (a b : Act), (fillAct l a b).defers = b.defers
  | [], _, _ => rfl
  | o :: l, a, b => by
    unfold fillAct
    rw [fillAct_defers l]
    unfold Act.put
    cases o.dst <;> rfl
theorem fillAct_size : ∀ (l : List Oper) (a b : Act), (fillAct l a b).tmps.size = b.tmps.size
  | [], _, _ => rfl
  | o :: l, a, b => by
    unfold fillAct
    rw [fillAct_size l]
    unfold Act.put
    cases o.dst <;> simp
theorem fillAct_at : ∀ (l : List Oper) (a b : Act), a.tmps.size = b.tmps.size → (∀ t : Nat, (dsts l).contains t = false → a.tmps[t]? = b.tmps[t]?) → ∀ t : Nat, (fillAct l a b).tmps[t]? = a.tmps[t]?
  | [], a, b, _, hk, t => (hk t rfl).symm
  | o :: l, a, b, hs, hk, t => by
    unfold fillAct
    refine fillAct_at l a _ ?_ ?_ t
    · unfold Act.put
      cases o.dst
      · exact hs
      · simpa using hs
    · intro u hu
      cases hd : o.dst with
      | none =>
        have hdl : dsts (o :: l) = dsts l := by
          unfold dsts
          rw [List.filterMap_cons, hd]
        unfold Act.put
        exact hk u (by rw [hdl]; exact hu)
      | some d =>
        have hdl : dsts (o :: l) = d :: dsts l := by
          unfold dsts
          rw [List.filterMap_cons, hd]
        unfold Act.put
        dsimp only
        by_cases hdu : d = u
        · subst hdu
          unfold valOf
          rw [hd]
          dsimp only
          by_cases hlt : d < a.tmps.size
          · have hlt' : d < b.tmps.size := by rw [← hs]; exact hlt
            simp [hlt, hlt']
          · have hlt' : ¬ d < b.tmps.size := by rw [← hs]; exact hlt
            simp [hlt, hlt']
        · have hu' : u ∉ dsts l := by simpa using hu
          have := hk u (by rw [hdl, List.contains_cons]; simp [Ne.symm hdu, hu'])
          rw [this]
          simp [hdu]
theorem fillAct_eq {l : List Oper} {a b : Act} (hd : a.defers = b.defers) (hs : a.tmps.size = b.tmps.size) (hk : ∀ t : Nat, (dsts l).contains t = false → a.tmps[t]? = b.tmps[t]?) : fillAct l a b = a := by
  have h1 := fillAct_defers l a b
  have h2 : (fillAct l a b).tmps = a.tmps := by
    apply Array.ext_getElem?
    exact fillAct_at l a b hs hk
  cases h : fillAct l a b
  cases a
  rw [h] at h1 h2
  simp only at h1 h2 hd
  rw [h1, h2, hd]

/-- The slots alone. -/
def putTmps : List Oper → Act → Array Value → Array Value
  | [], _, t => t
  | o :: l, a, t =>
    match o.dst with
    | some d => putTmps l a (t.setIfInBounds d (a.tmps[d]?.getD undef))
    | none => putTmps l a t
theorem fillAct_tmps : ∀ (l : List Oper) (a b : Act), fillAct l a b = { tmps := putTmps l a b.tmps, defers := b.defers }
  | [], _, _ => rfl
  | o :: l, a, b => by
    unfold fillAct putTmps
    rw [fillAct_tmps l]
    unfold Act.put valOf
    cases o.dst <;> rfl

theorem wp_region_ops {P : Program} {id : Nat} {Q : Exit → Act → World → Prop} {a0 : Act} {w : World} {l : List Oper} (J : World → Prop) (R : World → World → Prop) (F : Nat → Value → World → Prop)
    (hm : P.follows .mixedOrders = true) (hB : regB l a0.tmps.size = true) (hSB : storeB l = true) (hJ : J w.drew) (hst : ∀ i v w w', J w → R w w' → F i v w → F i v w')
    (hop : ObAll (Ob1 P l a0 J F R Q) 0 l)
    (hdone : ∀ a w, J w → ObAll (fun i o => F i (valOf o a) w) 0 l → Q .normal { tmps := putTmps l a a0.tmps, defers := a0.defers } w) :
    (Code.region id l.toArray true).wp P Q a0 w := by
  unfold regB at hB
  simp only [Bool.and_eq_true, decide_eq_true_eq, List.all_eq_true] at hB
  obtain ⟨⟨h1, h2⟩, h3⟩ := hB
  have hin : ∀ t, (dsts l).contains t = false → ∀ o' : Oper, o' ∈ l.toArray.toList → o'.dst ≠ some t := by
    intro t ht o' ho' hd
    have : t ∈ dsts l := List.mem_filterMap.2 ⟨o', ho', hd⟩
    simp [this] at ht
  refine wp_region_facts (J := J) (R := R) (F := F) hm hJ ?_ ?_ ?_ ?_ hst ?_ ?_
  · intro i j oi oj hi hj hne d hd
    rw [List.getElem?_toArray] at hi hj
    rcases Nat.lt_or_gt_of_ne hne with h | h
    · exact dsts_once l h1 i j oi oj hi hj h d hd
    · intro hd'
      exact dsts_once l h1 j i oj oi hj hi h d hd' hd
  · intro o ho d hd
    exact h2 d (List.mem_filterMap.2 ⟨o, ho, hd⟩)
  · intro i o ho e he hbd
    rw [List.getElem?_toArray] at ho
    have h4 := h3 (o, i) (List.mem_zipIdx_iff_getElem?.2 ho) e he
    simpa [hbd] using h4
  · intro j oj hoj hd ty t x hop' i oi hoi hdi
    rw [List.getElem?_toArray] at hoj hoi
    unfold storeB at hSB
    rw [List.all_eq_true] at hSB
    have h4 := hSB oj (List.mem_of_getElem? hoj)
    rw [hd, hop'] at h4
    dsimp only at h4
    rw [List.all_eq_true] at h4
    have h5 := h4 (oi, i) (List.mem_zipIdx_iff_getElem?.2 hoi)
    simp only [hdi, Bool.or_eq_true, Bool.not_eq_true', beq_eq_false_iff_ne, ne_eq, not_true_eq_false, false_or, List.any_eq_true, Bool.and_eq_true, beq_iff_eq] at h5
    obtain ⟨e, he, h6, h7⟩ := h5
    exact ⟨e, he, h6, h7⟩
  · intro i o ho a w' hJ' hd hs hk hf
    rw [List.getElem?_toArray] at ho
    have hob := ObAll.at l 0 hop i o ho
    rw [Nat.zero_add] at hob
    refine hob a w' hJ' hd (fun t ht => by rw [hk t (hin t ht)]) fun j oj hj hoj => ?_
    rw [List.any_eq_true] at hj
    obtain ⟨e, he, h⟩ := hj
    simp only [Bool.and_eq_true, beq_iff_eq] at h
    obtain ⟨rfl, hb⟩ := h
    exact hf e he hb oj (by rw [List.getElem?_toArray]; exact hoj)
  · intro a w' hJ' hd hs hk hf
    have hfin := hdone a w' hJ' (ObAll.of l 0 fun i o ho => ?_)
    · rw [← fillAct_tmps, fillAct_eq hd hs (fun t ht => hk t (hin t ht))] at hfin
      exact hfin
    rw [Nat.zero_add]
    exact hf i o (by rw [List.getElem?_toArray]; exact ho)

theorem wanted_of {l : List Oper} {tmps : Array Value} {j d : Nat} {o oj : Oper} {b : Bool} (hg : o.guard = some (j, b)) (ho : l[j]? = some oj) (hd : oj.dst = some d) (h : tmps[d]?.getD undef = .bool b) : Region.wanted o (yielded l.toArray tmps) = true := by
  have hy : yielded l.toArray tmps j = some b := by
    unfold yielded
    rw [List.getElem?_toArray, ho]
    simp only [Option.bind_some, hd]
    cases ht : tmps[d]? with
    | none =>
      rw [ht] at h
      simp [undef] at h
    | some v =>
      rw [ht] at h
      simp only [Option.getD_some] at h
      subst h
      rfl
  unfold Region.wanted
  rw [hg]
  simp [hy]
end Go.Proofs.Ytjfmgpelkhgodaa
