/- What an operation of a region may do to the world, in words that stay true: rows of bytes are left alone, handshakes' blocks stay such. -/
import Derived.Test.YtjfmgpelkhgodaaLawC
import Derived.Test.YtjfmgpelkhgodaaRegRun
namespace Go.Proofs.Ytjfmgpelkhgodaa
open Go.RowKit

/-- Rows of bytes are left alone. -/
def BytesKept (w w' : World) : Prop := w.heap.size ≤ w'.heap.size ∧ ∀ (g : Nat) (cur : Array Value), w.heap[g]? = some (Obj.cells cur 5 (0, 0)) → w'.heap[g]? = w.heap[g]?
theorem BytesKept.refl (w : World) : BytesKept w w := ⟨Nat.le_refl _, fun _ _ _ => rfl⟩
/-- An own row of bytes. -/
def ByteRow (w : World) (v : Value) (l : List UInt8) : Prop := w.ownsRow 0 5 1 v l.length (u8s l)
theorem ByteRow.kept {w w' : World} {v : Value} {l : List UInt8} (h : ByteRow w v l) (k : BytesKept w w') : ByteRow w' v l := by
  refine ⟨h.1, ?_⟩
  rcases h.2 with h2 | ⟨g, cap, cur, rfl, hb, hh, r⟩
  · exact .inl h2
  · exact .inr ⟨g, cap, cur, rfl, hb, (k.2 g cur hh).trans hh, r⟩
theorem ByteRow.sl {w : World} {v : Value} {l : List UInt8} (h : ByteRow w v l) : SlAt w v (u8s l) := sl_of_own h
theorem ByteRow.of_own {w : World} {base : Nat} {v : Value} {l : List UInt8} (h : w.ownsRow base 5 1 v l.length (u8s l)) : ByteRow w v l := own_base h (Nat.zero_le _)
theorem SentAt.kept {w w' : World} {nb mb : Nat} {lv : Value} {L L' : List En} {bs : List UInt8} {v : Value} (h : SentAt w w' nb mb lv L' bs v) (hN : NotIn w nb mb lv L) : BytesKept w w' := by
  refine ⟨h.2.2.1.size, fun g cur hg => h.2.2.1.block g (Array.getElem?_eq_some_iff.1 hg).1 fun hm => ?_⟩
  simp only [NBlocks, List.mem_cons, Option.mem_toList] at hm
  rcases hm with rfl | rfl | hm
  · have := hN.cells
    unfold Cells at this
    rw [this] at hg
    cases hg
  · rw [hN.map] at hg
    cases hg
  · obtain ⟨cur', hc⟩ := own_type hN.list hm
    rw [hc] at hg
    cases hg
/-- A call of a Go function as an operation. -/
theorem call_step {P : Program} {o : Oper} {a : Act} {w : World} {K : Act → World → Prop} {Q : Exit → Act → World → Prop} (f : FuncId) (args : Array Operand) (ts : Array TypeId)
    (ho : o.op = .call { callee := .value (.func f), args := args, argTypes := ts }) (he : ∀ args w, (callFunc f args).run P w = .ok (.enter f args) w) (vs : Array Value) (hv : args.toList.map a.eval = vs.toList)
    {R : Ending → World → Prop} (hc : Calls P f vs w R) (h : ∀ e w', R e w' → ∃ u, e = .returned u ∧ K (a.put o.dst u) w') : o.wp P a w K Q := by
  obtain ⟨dst, op, type, pos, after, guard⟩ := o
  simp only at ho h
  subst ho
  have hv : args.map a.eval = vs := by
    apply Array.toList_inj.1
    simpa using hv
  subst hv
  unfold Oper.wp
  simp [go_sem, he]
  refine hc.mono ?_
  intro e w' hR
  obtain ⟨u, rfl, hK⟩ := h e w' hR
  exact hK
/-- cs: what is stored into a handshake's block, if something is. -/
structure Rel (cs : List Value) (w w' : World) : Prop where
  size : w.heap.size ≤ w'.heap.size
  bytes : ∀ (g : Nat) (cur : Array Value), w.heap[g]? = some (Obj.cells cur 5 (0, 0)) → w'.heap[g]? = w.heap[g]?
  shake : ∀ (g : Nat) (cur : Array Value), w.heap[g]? = some (Obj.cells cur 46 (0, 0)) → ∃ cur' : Array Value, w'.heap[g]? = some (Obj.cells cur' 46 (0, 0)) ∧ cur'.size = cur.size
  kept : ∀ g : Nat, w.heap[g]? = some (Obj.cells cs.toArray 46 (0, 0)) → w'.heap[g]? = w.heap[g]?
theorem Rel.refl (cs : List Value) (w : World) : Rel cs w w := ⟨Nat.le_refl _, fun _ _ _ => rfl, fun _ cur h => ⟨cur, h, rfl⟩, fun _ _ => rfl⟩
theorem Rel.of_fr {cs : List Value} {S : List Nat} {w w' : World} (hf : Fr S w w') (hS : ∀ (q : Nat) (cur : Array Value) (T : TypeId), q ∈ S → T = 5 ∨ T = 46 → w.heap[q]? ≠ some (Obj.cells cur T (0, 0))) : Rel cs w w' := by
  have h : ∀ (g : Nat) (cur : Array Value) (T : TypeId), T = 5 ∨ T = 46 → w.heap[g]? = some (Obj.cells cur T (0, 0)) → w'.heap[g]? = w.heap[g]? := fun g cur T hT hg =>
    hf.block g (Array.getElem?_eq_some_iff.1 hg).1 (fun hm => hS g cur T hm hT hg)
  exact ⟨hf.size, fun g cur hg => h g cur _ (.inl rfl) hg, fun g cur hg => ⟨cur, (h g cur _ (.inr rfl) hg).trans hg, rfl⟩, fun g hg => h g _ _ (.inr rfl) hg⟩
theorem Rel.of_new {cs : List Value} {w w' : World} (hf : Fr [] w w') : Rel cs w w' := Rel.of_fr hf (by simp)
theorem Rel.of_sent {cs : List Value} {w w' : World} {nb mb : Nat} {lv : Value} {L L' : List En} {bs : List UInt8} {v : Value} (h : SentAt w w' nb mb lv L' bs v) (hN : NotIn w nb mb lv L) : Rel cs w w' := by
  refine Rel.of_fr h.2.2.1 fun q cur T hm hT hg => ?_
  simp only [NBlocks, List.mem_cons, Option.mem_toList] at hm
  rcases hm with rfl | rfl | hm
  · have hc := hN.cells
    unfold Cells at hc
    rw [hc] at hg
    rcases hT with rfl | rfl <;> simp at hg
  · rw [hN.map] at hg
    cases hg
  · obtain ⟨cur', hc⟩ := own_type hN.list hm
    rw [hc] at hg
    rcases hT with rfl | rfl <;> simp at hg
/-- A store of cs into a handshake's block. -/
theorem Rel.of_store {cs : List Value} {w w' : World} {g : Nat} {old : Array Value} (hg : w.heap[g]? = some (Obj.cells old 46 (0, 0))) (hs : old.size = cs.length) (hf : Fr [g] w w') (hc : Cells w' g 46 cs) : Rel cs w w' := by
  have h : ∀ q : Nat, q ≠ g → q < w.heap.size → w'.heap[q]? = w.heap[q]? := fun q hq hlt => hf.block q hlt (by simpa using hq)
  refine ⟨hf.size, fun q cur hq => ?_, fun q cur hq => ?_, fun q hq => ?_⟩
  · refine h q ?_ (Array.getElem?_eq_some_iff.1 hq).1
    rintro rfl
    rw [hg] at hq
    simp at hq
  · by_cases hqg : q = g
    · subst hqg
      rw [hg] at hq
      cases hq
      exact ⟨cs.toArray, hc, by simp [hs]⟩
    · exact ⟨cur, (h q hqg (Array.getElem?_eq_some_iff.1 hq).1).trans hq, rfl⟩
  · by_cases hqg : q = g
    · subst hqg
      unfold Cells at hc
      rw [hc, hq]
    · exact h q hqg (Array.getElem?_eq_some_iff.1 hq).1
theorem ByteRow.rel {cs : List Value} {w w' : World} {v : Value} {l : List UInt8} (h : ByteRow w v l) (k : Rel cs w w') : ByteRow w' v l := h.kept ⟨k.size, k.bytes⟩
end Go.Proofs.Ytjfmgpelkhgodaa
