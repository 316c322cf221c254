/- A region that draws its order, proved operation by operation: each operation's value has a fact that the other operations leave alone. -/
import Derived.Orders
import Derived.Test.YtjfmgpelkhgodaaBase
namespace Go.Proofs.Ytjfmgpelkhgodaa

def valOf (o : Oper) (a : Act) : Value :=
  match o.dst with
  | some d => a.tmps[d]?.getD undef
  | none =>
    match o.op with
    | .store _ (.tmp t) _ => a.tmps[t]?.getD undef
    | _ => undef

/-- What holds while the region runs. -/
structure RInv (ops : Array Oper) (a0 : Act) (J : World → Prop) (F : Nat → Value → World → Prop) (listed : Array Bool) (a : Act) (w : World) : Prop where
  size : listed.size = ops.size
  closed : ∀ (j : Nat) (o : Oper), ops[j]? = some o → listed.getD j true = true → ∀ e, e ∈ o.after.toList → Region.binds .any e = true → e.on < ops.size → listed.getD e.on true = true
  j : J w
  defers : a.defers = a0.defers
  tsize : a.tmps.size = a0.tmps.size
  keep : ∀ t, (∀ o : Oper, o ∈ ops.toList → o.dst ≠ some t) → a.tmps[t]? = a0.tmps[t]?
  facts : ∀ (i : Nat) (o : Oper), ops[i]? = some o → listed.getD i true = true → F i (valOf o a) w

def unl (listed : Array Bool) (n : Nat) : Nat := ((List.range n).filter fun i => !listed.getD i true).length

theorem filter_len_lt {α : Type} (p q : α → Bool) (hpq : ∀ x, q x = true → p x = true) : ∀ (l : List α) (x : α), x ∈ l → p x = true → q x = false → (l.filter q).length < (l.filter p).length
  | [], x, hx, _, _ => by cases hx
  | y :: l, x, hx, hp, hq => by
    have hle : (l.filter q).length ≤ (l.filter p).length := by
      induction l with
      | nil => simp
      | cons z l ih =>
        rw [List.filter_cons, List.filter_cons]
        by_cases h1 : q z = true
        · rw [if_pos h1, if_pos (hpq z h1)]
          have := ih
          simp only [List.length_cons]
          by_cases hx' : x ∈ y :: l
          · have := ih hx'
            omega
          · have h2 : (l.filter q).length ≤ (l.filter p).length := by
              clear ih this hx hx'
              induction l with
              | nil => simp
              | cons u l ih =>
                rw [List.filter_cons, List.filter_cons]
                by_cases h3 : q u = true
                · rw [if_pos h3, if_pos (hpq u h3)]
                  simp only [List.length_cons]
                  omega
                · rw [if_neg h3]
                  split
                  · simp only [List.length_cons]
                    omega
                  · exact ih
            omega
        · rw [if_neg h1]
          have h2 : (l.filter q).length ≤ (l.filter p).length := by
            clear ih hx
            induction l with
            | nil => simp
            | cons u l ih =>
              rw [List.filter_cons, List.filter_cons]
              by_cases h3 : q u = true
              · rw [if_pos h3, if_pos (hpq u h3)]
                simp only [List.length_cons]
                omega
              · rw [if_neg h3]
                split
                · simp only [List.length_cons]
                  omega
                · exact ih
          split
          · simp only [List.length_cons]
            omega
          · exact h2
    rw [List.filter_cons, List.filter_cons]
    rcases List.mem_cons.1 hx with rfl | hx
    · rw [if_neg (by simp [hq]), if_pos hp]
      simp only [List.length_cons]
      omega
    · have ih := filter_len_lt p q hpq l x hx hp hq
      by_cases h1 : q y = true
      · rw [if_pos h1, if_pos (hpq y h1)]
        simp only [List.length_cons]
        omega
      · rw [if_neg h1]
        split
        · simp only [List.length_cons]
          omega
        · exact ih

theorem getD_set (listed : Array Bool) (i j : Nat) (hi : i < listed.size) : (listed.setIfInBounds i true).getD j true = if j = i then true else listed.getD j true := by
  simp only [Array.getD_eq_getD_getElem?, Array.getElem?_setIfInBounds]
  by_cases h : i = j
  · subst h
    simp [hi]
  · simp [h, Ne.symm h]

section
variable {P : Program} {ops : Array Oper} {Q : Exit → Act → World → Prop} {a0 : Act} {J : World → Prop} {F : Nat → Value → World → Prop} {R : World → World → Prop}

theorem wpAny_facts (hdis : ∀ (i j : Nat) (oi oj : Oper), ops[i]? = some oi → ops[j]? = some oj → i ≠ j → ∀ d, oi.dst = some d → oj.dst ≠ some d)
    (hb : ∀ (o : Oper), o ∈ ops.toList → ∀ d, o.dst = some d → d < a0.tmps.size)
    (hac : ∀ (i : Nat) (o : Oper), ops[i]? = some o → ∀ e, e ∈ o.after.toList → Region.binds .any e = true → e.on < i)
    (hstore : ∀ (j : Nat) (oj : Oper), ops[j]? = some oj → oj.dst = none → ∀ ty t x, oj.op = .store ty (.tmp t) x → ∀ (i : Nat) (oi : Oper), ops[i]? = some oi → oi.dst = some t → ∃ e, e ∈ oj.after.toList ∧ e.on = i ∧ Region.binds .any e = true)
    (hst : ∀ i v w w', J w → R w w' → F i v w → F i v w')
    (hop : ∀ (i : Nat) (o : Oper), ops[i]? = some o → ∀ a w, J w → a.defers = a0.defers → a.tmps.size = a0.tmps.size → (∀ t, (∀ o' : Oper, o' ∈ ops.toList → o'.dst ≠ some t) → a.tmps[t]? = a0.tmps[t]?) →
      (∀ e, e ∈ o.after.toList → Region.binds .any e = true → ∀ oe : Oper, ops[e.on]? = some oe → F e.on (valOf oe a) w) →
      if Region.wanted o (yielded ops a.tmps) = true then o.wp P a w (fun a' w' => ∃ v, a' = a.put o.dst v ∧ J w' ∧ R w w' ∧ F i (match o.dst with | some _ => v | none => valOf o a) w') Q else F i (match o.dst with | some _ => undef | none => valOf o a) w)
    (hdone : ∀ a w, J w → a.defers = a0.defers → a.tmps.size = a0.tmps.size → (∀ t, (∀ o' : Oper, o' ∈ ops.toList → o'.dst ≠ some t) → a.tmps[t]? = a0.tmps[t]?) → (∀ (i : Nat) (o : Oper), ops[i]? = some o → F i (valOf o a) w) → Q .normal a w) :
    ∀ (fuel : Nat) (listed : Array Bool) (a : Act) (w : World), unl listed ops.size ≤ fuel → RInv ops a0 J F listed a w → wpAny P .any ops Q fuel listed a w := by
  have hready : ∀ listed : Array Bool, listed.size = ops.size → Region.ready .any ops listed = [] → ∀ i, i < ops.size → listed.getD i true = true := by
    intro listed hsz h i
    induction i using Nat.strongRecOn with
    | _ i ih =>
      intro hi
      by_cases hl : listed.getD i true = true
      · exact hl
      · exfalso
        have hm : i ∈ Region.ready .any ops listed := by
          unfold Region.ready
          rw [List.mem_filter]
          refine ⟨List.mem_range.2 hi, ?_⟩
          have ho : ops[i]? = some ops[i] := Array.getElem?_eq_getElem hi
          simp only [Bool.and_eq_true]
          refine ⟨by simpa using hl, ?_⟩
          rw [ho]
          simp only [Option.map_some, Option.getD_some]
          rw [Array.all_eq_true]
          intro k hk
          by_cases hbd : Region.binds .any ops[i].after[k] = true
          · have hlt := hac i _ ho ops[i].after[k] (by simp) hbd
            have hj := ih _ hlt (by omega)
            have e1 : listed.getD ops[i].after[k].on false = true := by
              have hs : ops[i].after[k].on < listed.size := by omega
              simpa [Array.getD, hs] using hj
            simp [e1]
          · simp [hbd]
        rw [h] at hm
        cases hm
  have hend : ∀ listed a w, RInv ops a0 J F listed a w → Region.ready .any ops listed = [] → Q .normal a w := by
    intro listed a w h hr
    refine hdone a w h.j h.defers h.tsize h.keep fun i o ho => h.facts i o ho ?_
    exact hready listed h.size hr i (Array.getElem?_eq_some_iff.1 ho).1
  have hval : ∀ (a : Act) (i j : Nat) (oi oj : Oper) (v : Value), ops[i]? = some oi → ops[j]? = some oj → i ≠ j → (∀ ty t x, oj.dst = none → oj.op = .store ty (.tmp t) x → oi.dst ≠ some t) → valOf oj (a.put oi.dst v) = valOf oj a := by
    intro a i j oi oj v hi hj hne hns
    unfold valOf Act.put
    cases hd : oi.dst with
    | none => rfl
    | some d =>
      cases hd' : oj.dst with
      | none =>
        dsimp only
        split
        · rename_i ty t x hop
          have hdt : d ≠ t := by
            rintro rfl
            exact hns _ _ _ hd' hop hd
          simp [hdt]
        · rfl
      | some d' =>
        dsimp only
        have hdd : d ≠ d' := by
          rintro rfl
          exact hdis i j oi oj hi hj hne d hd hd'
        simp [hdd]
  have hval2 : ∀ (a : Act) (i : Nat) (o : Oper) (v : Value), ops[i]? = some o → a.tmps.size = a0.tmps.size → valOf o (a.put o.dst v) = (match o.dst with | some _ => v | none => valOf o a) := by
    intro a i o v hi hsz
    unfold Act.put
    cases hd : o.dst with
    | none => rfl
    | some d =>
      unfold valOf
      rw [hd]
      dsimp only
      have := hb o (by obtain ⟨h1, h2⟩ := Array.getElem?_eq_some_iff.1 hi; rw [← h2]; simp) d hd
      simp [hsz, this]
  have hput : ∀ (listed : Array Bool) (a : Act) (w w' : World) (i : Nat) (o : Oper) (v : Value), RInv ops a0 J F listed a w → ops[i]? = some o → listed.getD i true = false → (∀ e, e ∈ o.after.toList → Region.binds .any e = true → e.on < ops.size → listed.getD e.on true = true) → J w' → (∀ j v, F j v w → F j v w') → F i (match o.dst with | some _ => v | none => valOf o a) w' → RInv ops a0 J F (listed.setIfInBounds i true) (a.put o.dst v) w' := by
    intro listed a w w' i o v h ho hnl hcl hj hs hF
    have hlt := (Array.getElem?_eq_some_iff.1 ho).1
    refine ⟨by simpa using h.size, ?_, hj, ?_, ?_, ?_, ?_⟩
    · intro j oj hoj hl e he hbd hes
      rw [getD_set _ _ _ (by rw [h.size]; exact hlt)] at hl ⊢
      by_cases hei : e.on = i
      · rw [if_pos hei]
      · rw [if_neg hei]
        by_cases hji : j = i
        · subst hji
          rw [ho] at hoj
          cases hoj
          exact hcl e he hbd hes
        · rw [if_neg hji] at hl
          exact h.closed j oj hoj hl e he hbd hes
    · unfold Act.put
      cases o.dst <;> exact h.defers
    · unfold Act.put
      cases o.dst
      · exact h.tsize
      · simpa using h.tsize
    · intro t ht
      rw [← h.keep t ht]
      unfold Act.put
      cases hd : o.dst with
      | none => rfl
      | some d =>
        have : d ≠ t := by
          rintro rfl
          exact ht o (by obtain ⟨h1, h2⟩ := Array.getElem?_eq_some_iff.1 ho; rw [← h2]; simp) hd
        simp [this]
    · intro j oj hoj hl
      by_cases hij : i = j
      · subst hij
        rw [ho] at hoj
        cases hoj
        rw [hval2 a i o v ho h.tsize]
        exact hF
      · rw [getD_set _ _ _ (by rw [h.size]; exact hlt)] at hl
        rw [if_neg (Ne.symm hij)] at hl
        rw [hval a i j o oj v ho hoj hij ?_]
        · exact hs j _ (h.facts j oj hoj hl)
        · intro ty t x hd hop' hdi
          obtain ⟨e, he, hei, hbd⟩ := hstore j oj hoj hd ty t x hop' i o ho hdi
          have := h.closed j oj hoj hl e he hbd (by rw [hei]; exact hlt)
          rw [hei, hnl] at this
          cases this
  intro fuel
  induction fuel with
  | zero =>
    intro listed a w hu h
    have hr : Region.ready .any ops listed = [] := by
      rw [List.eq_nil_iff_forall_not_mem]
      intro i hi
      unfold Region.ready at hi
      rw [List.mem_filter] at hi
      obtain ⟨h1, h2⟩ := hi
      simp only [Bool.and_eq_true] at h2
      have : i ∈ (List.range ops.size).filter fun i => !listed.getD i true := List.mem_filter.2 ⟨h1, h2.1⟩
      have h3 : 0 < unl listed ops.size := List.length_pos_iff.2 (List.ne_nil_of_mem this)
      omega
    exact ⟨hr, hend _ _ _ h hr⟩
  | succ fuel ih =>
    intro listed a w hu h
    refine ⟨hend _ _ _ h, fun i hi => ?_⟩
    have hi' := hi
    unfold Region.ready at hi
    rw [List.mem_filter] at hi
    obtain ⟨h1, h2⟩ := hi
    have hlt := List.mem_range.1 h1
    simp only [Bool.and_eq_true] at h2
    obtain ⟨h2, h3⟩ := h2
    have ho : ops[i]? = some ops[i] := Array.getElem?_eq_getElem hlt
    rw [ho] at h3
    simp only [Option.map_some, Option.getD_some] at h3
    rw [Array.all_eq_true] at h3
    have hfew : unl (listed.setIfInBounds i true) ops.size ≤ fuel := by
      have : unl (listed.setIfInBounds i true) ops.size < unl listed ops.size := by
        unfold unl
        refine filter_len_lt _ _ ?_ _ i h1 h2 ?_
        · intro x hx
          rw [getD_set _ _ _ (by rw [h.size]; exact hlt)] at hx
          split at hx
          · simp at hx
          · exact hx
        · rw [getD_set _ _ _ (by rw [h.size]; exact hlt), if_pos rfl]
          rfl
      omega
    have hnl : listed.getD i true = false := by simpa using h2
    have hcl : ∀ e, e ∈ ops[i].after.toList → Region.binds .any e = true → e.on < ops.size → listed.getD e.on true = true := by
      intro e he hbd hes
      obtain ⟨k, hk, rfl⟩ := List.getElem_of_mem he
      have := h3 k (by simpa using hk)
      simp only [Array.getElem_toList] at hbd this hes ⊢
      rw [hbd] at this
      have hs : ops[i].after[k].on < listed.size := by rw [h.size]; exact hes
      simpa [Array.getD, hs] using this
    have hdeps : ∀ e, e ∈ ops[i].after.toList → Region.binds .any e = true → ∀ oe : Oper, ops[e.on]? = some oe → F e.on (valOf oe a) w := by
      intro e he hbd oe hoe
      refine h.facts _ _ hoe ?_
      obtain ⟨k, hk, rfl⟩ := List.getElem_of_mem he
      have := h3 k (by simpa using hk)
      simp only [Array.getElem_toList] at hbd this ⊢
      rw [hbd] at this
      have hs : ops[i].after[k].on < listed.size := by
        rw [h.size]
        exact (Array.getElem?_eq_some_iff.1 hoe).1
      simpa [Array.getD, hs] using this
    have hob := hop i _ ho a w h.j h.defers h.tsize h.keep hdeps
    unfold wpOp
    rw [ho]
    dsimp only
    split
    · rename_i hw
      rw [if_pos hw] at hob
      refine .inl (Oper.wp_mono ?_ hob)
      rintro a' w' ⟨v, rfl, hj, hR, hF⟩
      exact ih _ _ _ hfew (hput listed a w w' i _ v h ho hnl hcl hj (fun j v hf => hst j v w w' h.j hR hf) hF)
    · rename_i hw
      rw [if_neg hw] at hob
      exact ih _ _ _ hfew (hput listed a w w i _ undef h ho hnl hcl h.j (fun _ _ hf => hf) hob)

/-- THE RULE: one obligation an operation, whatever the order. -/
theorem wp_region_facts {id : Nat} {w : World} (hm : P.follows .mixedOrders = true) (hJ : J w.drew)
    (hdis : ∀ (i j : Nat) (oi oj : Oper), ops[i]? = some oi → ops[j]? = some oj → i ≠ j → ∀ d, oi.dst = some d → oj.dst ≠ some d)
    (hb : ∀ (o : Oper), o ∈ ops.toList → ∀ d, o.dst = some d → d < a0.tmps.size)
    (hac : ∀ (i : Nat) (o : Oper), ops[i]? = some o → ∀ e, e ∈ o.after.toList → Region.binds .any e = true → e.on < i)
    (hstore : ∀ (j : Nat) (oj : Oper), ops[j]? = some oj → oj.dst = none → ∀ ty t x, oj.op = .store ty (.tmp t) x → ∀ (i : Nat) (oi : Oper), ops[i]? = some oi → oi.dst = some t → ∃ e, e ∈ oj.after.toList ∧ e.on = i ∧ Region.binds .any e = true)
    (hst : ∀ i v w w', J w → R w w' → F i v w → F i v w')
    (hop : ∀ (i : Nat) (o : Oper), ops[i]? = some o → ∀ a w, J w → a.defers = a0.defers → a.tmps.size = a0.tmps.size → (∀ t, (∀ o' : Oper, o' ∈ ops.toList → o'.dst ≠ some t) → a.tmps[t]? = a0.tmps[t]?) →
      (∀ e, e ∈ o.after.toList → Region.binds .any e = true → ∀ oe : Oper, ops[e.on]? = some oe → F e.on (valOf oe a) w) →
      if Region.wanted o (yielded ops a.tmps) = true then o.wp P a w (fun a' w' => ∃ v, a' = a.put o.dst v ∧ J w' ∧ R w w' ∧ F i (match o.dst with | some _ => v | none => valOf o a) w') Q else F i (match o.dst with | some _ => undef | none => valOf o a) w)
    (hdone : ∀ a w, J w → a.defers = a0.defers → a.tmps.size = a0.tmps.size → (∀ t, (∀ o' : Oper, o' ∈ ops.toList → o'.dst ≠ some t) → a.tmps[t]? = a0.tmps[t]?) → (∀ (i : Nat) (o : Oper), ops[i]? = some o → F i (valOf o a) w) → Q .normal a w) :
    (Code.region id ops true).wp P Q a0 w := by
  refine wp_region_any hm (wpAny_facts (R := R) hdis hb hac hstore hst hop hdone _ _ _ _ ?_ ⟨by simp, ?_, hJ, rfl, rfl, fun _ _ => rfl, ?_⟩)
  · unfold unl
    exact Nat.le_trans (List.length_filter_le _ _) (by simp)
  · intro i o ho hl
    have hlt := (Array.getElem?_eq_some_iff.1 ho).1
    simp [Array.getD, hlt] at hl
  · intro i o ho hl
    have hlt := (Array.getElem?_eq_some_iff.1 ho).1
    simp [Array.getD, hlt] at hl
end
end Go.Proofs.Ytjfmgpelkhgodaa
