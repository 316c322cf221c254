/- The rule for regions once more, where what holds of the world hangs on which operations have run. -/
import Derived.Test.YtjfmgpelkhgodaaRegRun
namespace Go.Proofs.Ytjfmgpelkhgodaa

/-- Operation i has run besides. -/
def mark (X : Nat → Bool) (i : Nat) : Nat → Bool := fun j => if j = i then true else X j
/-- What holds while the region runs. -/
structure RInv2 (ops : Array Oper) (a0 : Act) (J : (Nat → Bool) → World → Prop) (F : Nat → Value → World → Prop) (listed : Array Bool) (a : Act) (w : World) : Prop where
  size : listed.size = ops.size
  closed : ∀ (j : Nat) (o : Oper), ops[j]? = some o → listed.getD j true = true → ∀ e, e ∈ o.after.toList → Region.binds .any e = true → e.on < ops.size → listed.getD e.on true = true
  j : J (fun j => listed.getD j true) w
  defers : a.defers = a0.defers
  tsize : a.tmps.size = a0.tmps.size
  keep : ∀ t, (∀ o : Oper, o ∈ ops.toList → o.dst ≠ some t) → a.tmps[t]? = a0.tmps[t]?
  facts : ∀ (i : Nat) (o : Oper), ops[i]? = some o → listed.getD i true = true → F i (valOf o a) w
def Clo (ops : Array Oper) (X : Nat → Bool) : Prop := ∀ (j : Nat) (o : Oper), ops[j]? = some o → X j = true → ∀ e, e ∈ o.after.toList → Region.binds .any e = true → e.on < ops.size → X e.on = true

section
variable {P : Program} {ops : Array Oper} {Q : Exit → Act → World → Prop} {a0 : Act} {J : (Nat → Bool) → World → Prop} {F : Nat → Value → World → Prop} {R : World → World → Prop}

theorem wpAny_sets (hdis : ∀ (i j : Nat) (oi oj : Oper), ops[i]? = some oi → ops[j]? = some oj → i ≠ j → ∀ d, oi.dst = some d → oj.dst ≠ some d)
    (hb : ∀ (o : Oper), o ∈ ops.toList → ∀ d, o.dst = some d → d < a0.tmps.size)
    (hac : ∀ (i : Nat) (o : Oper), ops[i]? = some o → ∀ e, e ∈ o.after.toList → Region.binds .any e = true → e.on < i)
    (hstore : ∀ (j : Nat) (oj : Oper), ops[j]? = some oj → oj.dst = none → ∀ ty t x, oj.op = .store ty (.tmp t) x → ∀ (i : Nat) (oi : Oper), ops[i]? = some oi → oi.dst = some t → ∃ e, e ∈ oj.after.toList ∧ e.on = i ∧ Region.binds .any e = true)
    (hst : ∀ i v X w w', J X w → R w w' → F i v w → F i v w')
    (hop : ∀ (i : Nat) (o : Oper), ops[i]? = some o → ∀ (X : Nat → Bool) a w, J X w → X i = false → Clo ops X → a.defers = a0.defers → a.tmps.size = a0.tmps.size → (∀ t, (∀ o' : Oper, o' ∈ ops.toList → o'.dst ≠ some t) → a.tmps[t]? = a0.tmps[t]?) →
      (∀ e, e ∈ o.after.toList → Region.binds .any e = true → ∀ oe : Oper, ops[e.on]? = some oe → F e.on (valOf oe a) w) →
      if Region.wanted o (yielded ops a.tmps) = true then o.wp P a w (fun a' w' => ∃ v, a' = a.put o.dst v ∧ J (mark X i) w' ∧ R w w' ∧ F i (match o.dst with | some _ => v | none => valOf o a) w') Q else J (mark X i) w ∧ F i (match o.dst with | some _ => undef | none => valOf o a) w)
    (hdone : ∀ (X : Nat → Bool) a w, (∀ i, i < ops.size → X i = true) → J X w → a.defers = a0.defers → a.tmps.size = a0.tmps.size → (∀ t, (∀ o' : Oper, o' ∈ ops.toList → o'.dst ≠ some t) → a.tmps[t]? = a0.tmps[t]?) → (∀ (i : Nat) (o : Oper), ops[i]? = some o → F i (valOf o a) w) → Q .normal a w) :
    ∀ (fuel : Nat) (listed : Array Bool) (a : Act) (w : World), unl listed ops.size ≤ fuel → RInv2 ops a0 J F listed a w → wpAny P .any ops Q fuel listed a w := by
  have hready : ∀ listed : Array Bool, listed.size = ops.size → Region.ready .any ops listed = [] → ∀ i, i < ops.size → listed.getD i true = true := by
    intro listed hsz h i
    induction i using Nat.strongRecOn with
    | _ i ih =>
      intro hi
      by_cases hl : listed.getD i true = true
      · exact hl
      · exfalso
        have hm : i ∈ Region.ready .any ops listed := by
          unfold Region.ready
          rw [List.mem_filter]
          refine ⟨List.mem_range.2 hi, ?_⟩
          have ho : ops[i]? = some ops[i] := Array.getElem?_eq_getElem hi
          simp only [Bool.and_eq_true]
          refine ⟨by simpa using hl, ?_⟩
          rw [ho]
          simp only [Option.map_some, Option.getD_some]
          rw [Array.all_eq_true]
          intro k hk
          by_cases hbd : Region.binds .any ops[i].after[k] = true
          · have hlt := hac i _ ho ops[i].after[k] (by simp) hbd
            have hj := ih _ hlt (by omega)
            have e1 : listed.getD ops[i].after[k].on false = true := by
              have hs : ops[i].after[k].on < listed.size := by omega
              simpa [Array.getD, hs] using hj
            simp [e1]
          · simp [hbd]
        rw [h] at hm
        cases hm
  have hend : ∀ listed a w, RInv2 ops a0 J F listed a w → Region.ready .any ops listed = [] → Q .normal a w := by
    intro listed a w h hr
    refine hdone _ a w (hready listed h.size hr) h.j h.defers h.tsize h.keep fun i o ho => h.facts i o ho ?_
    exact hready listed h.size hr i (Array.getElem?_eq_some_iff.1 ho).1
  have hval : ∀ (a : Act) (i j : Nat) (oi oj : Oper) (v : Value), ops[i]? = some oi → ops[j]? = some oj → i ≠ j → (∀ ty t x, oj.dst = none → oj.op = .store ty (.tmp t) x → oi.dst ≠ some t) → valOf oj (a.put oi.dst v) = valOf oj a := by
    intro a i j oi oj v hi hj hne hns
    unfold valOf Act.put
    cases hd : oi.dst with
    | none => rfl
    | some d =>
      cases hd' : oj.dst with
      | none =>
        dsimp only
        split
        · rename_i ty t x hop
          have hdt : d ≠ t := by
            rintro rfl
            exact hns _ _ _ hd' hop hd
          simp [hdt]
        · rfl
      | some d' =>
        dsimp only
        have hdd : d ≠ d' := by
          rintro rfl
          exact hdis i j oi oj hi hj hne d hd hd'
        simp [hdd]
  have hval2 : ∀ (a : Act) (i : Nat) (o : Oper) (v : Value), ops[i]? = some o → a.tmps.size = a0.tmps.size → valOf o (a.put o.dst v) = (match o.dst with | some _ => v | none => valOf o a) := by
    intro a i o v hi hsz
    unfold Act.put
    cases hd : o.dst with
    | none => rfl
    | some d =>
      unfold valOf
      rw [hd]
      dsimp only
      have := hb o (by obtain ⟨h1, h2⟩ := Array.getElem?_eq_some_iff.1 hi; rw [← h2]; simp) d hd
      simp [hsz, this]
  have hput : ∀ (listed : Array Bool) (a : Act) (w w' : World) (i : Nat) (o : Oper) (v : Value), RInv2 ops a0 J F listed a w → ops[i]? = some o → listed.getD i true = false → (∀ e, e ∈ o.after.toList → Region.binds .any e = true → e.on < ops.size → listed.getD e.on true = true) → J (mark (fun j => listed.getD j true) i) w' → (∀ j v, F j v w → F j v w') → F i (match o.dst with | some _ => v | none => valOf o a) w' → RInv2 ops a0 J F (listed.setIfInBounds i true) (a.put o.dst v) w' := by
    intro listed a w w' i o v h ho hnl hcl hj hs hF
    have hlt := (Array.getElem?_eq_some_iff.1 ho).1
    refine ⟨by simpa using h.size, ?_, ?_, ?_, ?_, ?_, ?_⟩
    · intro j oj hoj hl e he hbd hes
      rw [getD_set _ _ _ (by rw [h.size]; exact hlt)] at hl ⊢
      by_cases hei : e.on = i
      · rw [if_pos hei]
      · rw [if_neg hei]
        by_cases hji : j = i
        · subst hji
          rw [ho] at hoj
          cases hoj
          exact hcl e he hbd hes
        · rw [if_neg hji] at hl
          exact h.closed j oj hoj hl e he hbd hes
    · have e : (fun j => (listed.setIfInBounds i true).getD j true) = mark (fun j => listed.getD j true) i := by
        funext j
        rw [getD_set _ _ _ (by rw [h.size]; exact hlt)]
        rfl
      rw [e]
      exact hj
    · unfold Act.put
      cases o.dst <;> exact h.defers
    · unfold Act.put
      cases o.dst
      · exact h.tsize
      · simpa using h.tsize
    · intro t ht
      rw [← h.keep t ht]
      unfold Act.put
      cases hd : o.dst with
      | none => rfl
      | some d =>
        have : d ≠ t := by
          rintro rfl
          exact ht o (by obtain ⟨h1, h2⟩ := Array.getElem?_eq_some_iff.1 ho; rw [← h2]; simp) hd
        simp [this]
    · intro j oj hoj hl
      by_cases hij : i = j
      · subst hij
        rw [ho] at hoj
        cases hoj
        rw [hval2 a i o v ho h.tsize]
        exact hF
      · rw [getD_set _ _ _ (by rw [h.size]; exact hlt)] at hl
        rw [if_neg (Ne.symm hij)] at hl
        rw [hval a i j o oj v ho hoj hij ?_]
        · exact hs j _ (h.facts j oj hoj hl)
        · intro ty t x hd hop' hdi
          obtain ⟨e, he, hei, hbd⟩ := hstore j oj hoj hd ty t x hop' i o ho hdi
          have := h.closed j oj hoj hl e he hbd (by rw [hei]; exact hlt)
          rw [hei, hnl] at this
          cases this
  intro fuel
  induction fuel with
  | zero =>
    intro listed a w hu h
    have hr : Region.ready .any ops listed = [] := by
      rw [List.eq_nil_iff_forall_not_mem]
      intro i hi
      unfold Region.ready at hi
      rw [List.mem_filter] at hi
      obtain ⟨h1, h2⟩ := hi
      simp only [Bool.and_eq_true] at h2
      have : i ∈ (List.range ops.size).filter fun i => !listed.getD i true := List.mem_filter.2 ⟨h1, h2.1⟩
      have h3 : 0 < unl listed ops.size := List.length_pos_iff.2 (List.ne_nil_of_mem this)
      omega
    exact ⟨hr, hend _ _ _ h hr⟩
  | succ fuel ih =>
    intro listed a w hu h
    refine ⟨hend _ _ _ h, fun i hi => ?_⟩
    have hi' := hi
    unfold Region.ready at hi
    rw [List.mem_filter] at hi
    obtain ⟨h1, h2⟩ := hi
    have hlt := List.mem_range.1 h1
    simp only [Bool.and_eq_true] at h2
    obtain ⟨h2, h3⟩ := h2
    have ho : ops[i]? = some ops[i] := Array.getElem?_eq_getElem hlt
    rw [ho] at h3
    simp only [Option.map_some, Option.getD_some] at h3
    rw [Array.all_eq_true] at h3
    have hfew : unl (listed.setIfInBounds i true) ops.size ≤ fuel := by
      have : unl (listed.setIfInBounds i true) ops.size < unl listed ops.size := by
        unfold unl
        refine filter_len_lt _ _ ?_ _ i h1 h2 ?_
        · intro x hx
          rw [getD_set _ _ _ (by rw [h.size]; exact hlt)] at hx
          split at hx
          · simp at hx
          · exact hx
        · rw [getD_set _ _ _ (by rw [h.size]; exact hlt), if_pos rfl]
          rfl
      omega
    have hnl : listed.getD i true = false := by simpa using h2
    have hcl : ∀ e, e ∈ ops[i].after.toList → Region.binds .any e = true → e.on < ops.size → listed.getD e.on true = true := by
      intro e he hbd hes
      obtain ⟨k, hk, rfl⟩ := List.getElem_of_mem he
      have := h3 k (by simpa using hk)
      simp only [Array.getElem_toList] at hbd this hes ⊢
      rw [hbd] at this
      have hs : ops[i].after[k].on < listed.size := by rw [h.size]; exact hes
      simpa [Array.getD, hs] using this
    have hdeps : ∀ e, e ∈ ops[i].after.toList → Region.binds .any e = true → ∀ oe : Oper, ops[e.on]? = some oe → F e.on (valOf oe a) w := by
      intro e he hbd oe hoe
      refine h.facts _ _ hoe ?_
      obtain ⟨k, hk, rfl⟩ := List.getElem_of_mem he
      have := h3 k (by simpa using hk)
      simp only [Array.getElem_toList] at hbd this ⊢
      rw [hbd] at this
      have hs : ops[i].after[k].on < listed.size := by
        rw [h.size]
        exact (Array.getElem?_eq_some_iff.1 hoe).1
      simpa [Array.getD, hs] using this
    have hob := hop i _ ho _ a w h.j hnl h.closed h.defers h.tsize h.keep hdeps
    unfold wpOp
    rw [ho]
    dsimp only
    split
    · rename_i hw
      rw [if_pos hw] at hob
      refine .inl (Oper.wp_mono ?_ hob)
      rintro a' w' ⟨v, rfl, hj, hR, hF⟩
      exact ih _ _ _ hfew (hput listed a w w' i _ v h ho hnl hcl hj (fun j v hf => hst j v _ w w' h.j hR hf) hF)
    · rename_i hw
      rw [if_neg hw] at hob
      exact ih _ _ _ hfew (hput listed a w w i _ undef h ho hnl hcl hob.1 (fun _ _ hf => hf) hob.2)

/-- THE RULE: one obligation an operation, whatever the order. -/
theorem wp_region_sets0 {id : Nat} {w : World} (hm : P.follows .mixedOrders = true) (hJ : ∀ X : Nat → Bool, (∀ i, i < ops.size → X i = false) → J X w.drew)
    (hdis : ∀ (i j : Nat) (oi oj : Oper), ops[i]? = some oi → ops[j]? = some oj → i ≠ j → ∀ d, oi.dst = some d → oj.dst ≠ some d)
    (hb : ∀ (o : Oper), o ∈ ops.toList → ∀ d, o.dst = some d → d < a0.tmps.size)
    (hac : ∀ (i : Nat) (o : Oper), ops[i]? = some o → ∀ e, e ∈ o.after.toList → Region.binds .any e = true → e.on < i)
    (hstore : ∀ (j : Nat) (oj : Oper), ops[j]? = some oj → oj.dst = none → ∀ ty t x, oj.op = .store ty (.tmp t) x → ∀ (i : Nat) (oi : Oper), ops[i]? = some oi → oi.dst = some t → ∃ e, e ∈ oj.after.toList ∧ e.on = i ∧ Region.binds .any e = true)
    (hst : ∀ i v X w w', J X w → R w w' → F i v w → F i v w')
    (hop : ∀ (i : Nat) (o : Oper), ops[i]? = some o → ∀ (X : Nat → Bool) a w, J X w → X i = false → Clo ops X → a.defers = a0.defers → a.tmps.size = a0.tmps.size → (∀ t, (∀ o' : Oper, o' ∈ ops.toList → o'.dst ≠ some t) → a.tmps[t]? = a0.tmps[t]?) →
      (∀ e, e ∈ o.after.toList → Region.binds .any e = true → ∀ oe : Oper, ops[e.on]? = some oe → F e.on (valOf oe a) w) →
      if Region.wanted o (yielded ops a.tmps) = true then o.wp P a w (fun a' w' => ∃ v, a' = a.put o.dst v ∧ J (mark X i) w' ∧ R w w' ∧ F i (match o.dst with | some _ => v | none => valOf o a) w') Q else J (mark X i) w ∧ F i (match o.dst with | some _ => undef | none => valOf o a) w)
    (hdone : ∀ (X : Nat → Bool) a w, (∀ i, i < ops.size → X i = true) → J X w → a.defers = a0.defers → a.tmps.size = a0.tmps.size → (∀ t, (∀ o' : Oper, o' ∈ ops.toList → o'.dst ≠ some t) → a.tmps[t]? = a0.tmps[t]?) → (∀ (i : Nat) (o : Oper), ops[i]? = some o → F i (valOf o a) w) → Q .normal a w) :
    (Code.region id ops true).wp P Q a0 w := by
  refine wp_region_any hm (wpAny_sets (R := R) hdis hb hac hstore hst hop hdone _ _ _ _ ?_ ⟨by simp, ?_, hJ _ (fun i hi => by simp [Array.getD, hi]), rfl, rfl, fun _ _ => rfl, ?_⟩)
  · unfold unl
    exact Nat.le_trans (List.length_filter_le _ _) (by simp)
  · intro i o ho hl
    have hlt := (Array.getElem?_eq_some_iff.1 ho).1
    simp [Array.getD, hlt] at hl
  · intro i o ho hl
    have hlt := (Array.getElem?_eq_some_iff.1 ho).1
    simp [Array.getD, hlt] at hl
end

/-- What an operation is asked for. -/
def Ob2 (P : Program) (l : List Oper) (a0 : Act) (J : (Nat → Bool) → World → Prop) (F : Nat → Value → World → Prop) (R : World → World → Prop) (Q : Exit → Act → World → Prop) (i : Nat) (o : Oper) : Prop :=
  ∀ (X : Nat → Bool) a w, J X w → X i = false → Clo l.toArray X → a.defers = a0.defers → Outer l a0 a →
    (∀ (j : Nat) (oj : Oper), (o.after.toList.any fun e => e.on == j && Region.binds .any e) = true → l[j]? = some oj → F j (valOf oj a) w) →
    if Region.wanted o (yielded l.toArray a.tmps) = true then o.wp P a w (fun a' w' => ∃ v, a' = a.put o.dst v ∧ J (mark X i) w' ∧ R w w' ∧ F i (match o.dst with | some _ => v | none => valOf o a) w') Q else J (mark X i) w ∧ F i (match o.dst with | some _ => undef | none => valOf o a) w

theorem wp_region_sets {P : Program} {id : Nat} {Q : Exit → Act → World → Prop} {a0 : Act} {w : World} {l : List Oper} (J : (Nat → Bool) → World → Prop) (R : World → World → Prop) (F : Nat → Value → World → Prop)
    (hm : P.follows .mixedOrders = true) (hB : regB l a0.tmps.size = true) (hSB : storeB l = true) (hJ : ∀ X : Nat → Bool, (∀ i, i < l.length → X i = false) → J X w.drew) (hst : ∀ i v X w w', J X w → R w w' → F i v w → F i v w')
    (hop : ObAll (Ob2 P l a0 J F R Q) 0 l)
    (hdone : ∀ (X : Nat → Bool) a w, (∀ i, i < l.length → X i = true) → J X w → ObAll (fun i o => F i (valOf o a) w) 0 l → Q .normal { tmps := putTmps l a a0.tmps, defers := a0.defers } w) :
    (Code.region id l.toArray true).wp P Q a0 w := by
  unfold regB at hB
  simp only [Bool.and_eq_true, decide_eq_true_eq, List.all_eq_true] at hB
  obtain ⟨⟨h1, h2⟩, h3⟩ := hB
  have hin : ∀ t, (dsts l).contains t = false → ∀ o' : Oper, o' ∈ l.toArray.toList → o'.dst ≠ some t := by
    intro t ht o' ho' hd
    have : t ∈ dsts l := List.mem_filterMap.2 ⟨o', ho', hd⟩
    simp [this] at ht
  refine wp_region_sets0 (J := J) (R := R) (F := F) hm (fun X hX => hJ X (fun i hi => hX i (by simpa using hi))) ?_ ?_ ?_ ?_ hst ?_ ?_
  · intro i j oi oj hi hj hne d hd
    rw [List.getElem?_toArray] at hi hj
    rcases Nat.lt_or_gt_of_ne hne with h | h
    · exact dsts_once l h1 i j oi oj hi hj h d hd
    · intro hd'
      exact dsts_once l h1 j i oj oi hj hi h d hd' hd
  · intro o ho d hd
    exact h2 d (List.mem_filterMap.2 ⟨o, ho, hd⟩)
  · intro i o ho e he hbd
    rw [List.getElem?_toArray] at ho
    have h4 := h3 (o, i) (List.mem_zipIdx_iff_getElem?.2 ho) e he
    simpa [hbd] using h4
  · intro j oj hoj hd ty t x hop' i oi hoi hdi
    rw [List.getElem?_toArray] at hoj hoi
    unfold storeB at hSB
    rw [List.all_eq_true] at hSB
    have h4 := hSB oj (List.mem_of_getElem? hoj)
    rw [hd, hop'] at h4
    dsimp only at h4
    rw [List.all_eq_true] at h4
    have h5 := h4 (oi, i) (List.mem_zipIdx_iff_getElem?.2 hoi)
    simp only [hdi, Bool.or_eq_true, Bool.not_eq_true', beq_eq_false_iff_ne, ne_eq, not_true_eq_false, false_or, List.any_eq_true, Bool.and_eq_true, beq_iff_eq] at h5
    obtain ⟨e, he, h6, h7⟩ := h5
    exact ⟨e, he, h6, h7⟩
  · intro i o ho X a w' hJ' hX hC hd hs hk hf
    rw [List.getElem?_toArray] at ho
    have hob := ObAll.at l 0 hop i o ho
    rw [Nat.zero_add] at hob
    refine hob X a w' hJ' hX hC hd (fun t ht => by rw [hk t (hin t ht)]) fun j oj hj hoj => ?_
    rw [List.any_eq_true] at hj
    obtain ⟨e, he, h⟩ := hj
    simp only [Bool.and_eq_true, beq_iff_eq] at h
    obtain ⟨rfl, hb⟩ := h
    exact hf e he hb oj (by rw [List.getElem?_toArray]; exact hoj)
  · intro X a w' hX hJ' hd hs hk hf
    have hfin := hdone X a w' (fun i hi => hX i (by simpa using hi)) hJ' (ObAll.of l 0 fun i o ho => ?_)
    · rw [← fillAct_tmps, fillAct_eq hd hs (fun t ht => hk t (hin t ht))] at hfin
      exact hfin
    rw [Nat.zero_add]
    exact hf i o (by rw [List.getElem?_toArray]; exact ho)


/-- Operation i stands ahead of j, by the edges. -/
def beforeB (l : List Oper) (i : Nat) : Nat → Nat → Bool
  | 0, _ => false
  | fuel + 1, j =>
    match l[j]? with
    | none => false
    | some o => o.after.toList.any fun e => Region.binds .any e && (e.on == i || beforeB l i fuel e.on) && decide (e.on < l.length)
theorem not_yet {l : List Oper} {X : Nat → Bool} (hC : Clo l.toArray X) {i : Nat} (hX : X i = false) : ∀ (fuel j : Nat), beforeB l i fuel j = true → X j = false
  | 0, _, h => by simp [beforeB] at h
  | fuel + 1, j, h => by
    cases hj : X j
    · rfl
    · exfalso
      unfold beforeB at h
      cases ho : l[j]? with
      | none =>
        rw [ho] at h
        simp at h
      | some o =>
        rw [ho] at h
        simp only [List.any_eq_true, Bool.and_eq_true, Bool.or_eq_true, decide_eq_true_eq, beq_iff_eq] at h
        obtain ⟨e, he, ⟨hb, h2⟩, hlt⟩ := h
        have hon := hC j o (by rw [List.getElem?_toArray]; exact ho) hj e he hb (by simpa using hlt)
        rcases h2 with rfl | h2
        · rw [hX] at hon
          cases hon
        · rw [not_yet hC hX fuel e.on h2] at hon
          cases hon
theorem mark_ne {X : Nat → Bool} {i k : Nat} (h : k ≠ i) : mark X i k = X k := by
  unfold mark
  rw [if_neg h]
theorem mark_eq (X : Nat → Bool) (i : Nat) : mark X i i = true := by
  unfold mark
  rw [if_pos rfl]
end Go.Proofs.Ytjfmgpelkhgodaa
