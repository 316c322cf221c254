/- Small words on memory, used by every walk: blocks of cells, the frame of a call, slices that read as lists. No condition. -/
import Derived.WalkKit
import Derived.WalkSpells
import Derived.WalkLawsBesides
import Derived.Handy
import Derived.Laws.AppendOwnNone
import Derived.Lib.Hide
import Derived.BigQuiet
import Derived.Deep.QuietTactic
namespace Go.Proofs.Ytjfmgpelkhgodaa
open Go.RowKit

/-- Block b holds just these cells, none frozen. -/
def Cells (w : World) (b : Nat) (T : TypeId) (cs : List Value) : Prop := w.heap[b]? = some (.cells cs.toArray T (0, 0))

/-- The call may have turned the blocks of S, and laid new ones; nothing else. -/
structure Fr (S : List Nat) (w w' : World) : Prop where
  os : w'.os = w.os
  tape : w'.tape = w.tape
  output : w'.output = w.output
  size : w.heap.size ≤ w'.heap.size
  block : ∀ k, k < w.heap.size → k ∉ S → w'.heap[k]? = w.heap[k]?

theorem Fr.refl (S : List Nat) (w : World) : Fr S w w := ⟨rfl, rfl, rfl, Nat.le_refl _, fun _ _ _ => rfl⟩

theorem Fr.trans {S : List Nat} {a b c : World} (h : Fr S a b) (k : Fr S b c) : Fr S a c :=
  ⟨k.os.trans h.os, k.tape.trans h.tape, k.output.trans h.output, Nat.le_trans h.size k.size,
    fun i hi hS => (k.block i (Nat.lt_of_lt_of_le hi h.size) hS).trans (h.block i hi hS)⟩

theorem Fr.mono {S S' : List Nat} {a b : World} (h : Fr S a b) (hS : ∀ k, k ∈ S → k ∈ S') : Fr S' a b :=
  ⟨h.os, h.tape, h.output, h.size, fun i hi hn => h.block i hi (fun hm => hn (hS i hm))⟩

/-- Blocks that were not there yet need not be named. -/
theorem Fr.forget {S S' : List Nat} {a b : World} (h : Fr S a b) (hS : ∀ k, k ∈ S → k ∈ S' ∨ a.heap.size ≤ k) : Fr S' a b :=
  ⟨h.os, h.tape, h.output, h.size, fun i hi hn => h.block i hi (fun hm => by
    rcases hS i hm with h1 | h1
    · exact hn h1
    · omega)⟩

theorem Fr.drew (w : World) (S : List Nat) : Fr S w w.drew := ⟨rfl, rfl, rfl, Nat.le_refl _, fun _ _ _ => rfl⟩
theorem Fr.drewN (w : World) (n : Nat) (S : List Nat) : Fr S w (w.drewN n) := ⟨rfl, rfl, rfl, Nat.le_refl _, fun _ _ _ => rfl⟩
theorem Fr.alloc (w : World) (o : Obj) (S : List Nat) : Fr S w (w.alloc o) :=
  ⟨rfl, rfl, rfl, by simp, fun k hk _ => Below.heap_alloc _ _ _ hk⟩
theorem Fr.setCell (w : World) (a : Addr) (u : Value) (S : List Nat) (h : a.block ∈ S ∨ w.heap.size ≤ a.block) : Fr S w (w.setCell a u) :=
  ⟨rfl, rfl, rfl, by simp [World.setCell], fun k hk hS => Below.heap_setCell _ _ _ _ (by
    rintro rfl
    rcases h with h | h
    · exact hS h
    · omega)⟩
theorem Fr.grown {w w' : World} {row : Option Nat} (hg : w.grownBy w' row) (S : List Nat) (h : ∀ k, row = some k → k ∈ S ∨ w.heap.size ≤ k) : Fr S w w' :=
  ⟨hg.os, hg.tape, hg.output, hg.size, fun k hk hS => hg.block k hk (fun e => by
    rcases h k e.symm with h | h
    · exact hS h
    · omega)⟩
/- the same, as steps behind what is known already -/
theorem Fr.cdrew {S : List Nat} {a w : World} (h : Fr S a w) : Fr S a w.drew := h.trans (Fr.drew w S)
theorem Fr.cdrewN {S : List Nat} {a w : World} (h : Fr S a w) (n : Nat) : Fr S a (w.drewN n) := h.trans (Fr.drewN w n S)
theorem Fr.calloc {S : List Nat} {a w : World} (h : Fr S a w) (o : Obj) : Fr S a (w.alloc o) := h.trans (Fr.alloc w o S)
theorem Fr.cset {S : List Nat} {a w : World} (h : Fr S a w) (p : Addr) (u : Value) (hp : p.block ∈ S ∨ a.heap.size ≤ p.block) : Fr S a (w.setCell p u) :=
  ⟨h.os, h.tape, h.output, by simpa [World.setCell] using h.size, fun k hk hS => (Below.heap_setCell _ _ _ _ (by
    rintro rfl
    rcases hp with hp | hp
    · exact hS hp
    · omega)).trans (h.block k hk hS)⟩
theorem Fr.crow {S : List Nat} {a w : World} (h : Fr S a w) (g : Nat) (cs : Array Value) (hp : g ∈ S ∨ a.heap.size ≤ g) : Fr S a (w.setRow g cs) :=
  ⟨h.os, h.tape, h.output, by simpa using h.size, fun k hk hS => (setRow_other _ _ _ _ (by
    rintro rfl
    rcases hp with hp | hp
    · exact hS hp
    · omega)).trans (h.block k hk hS)⟩
theorem Fr.cgrown {S : List Nat} {a w w' : World} {row : Option Nat} (h : Fr S a w) (hg : w.grownBy w' row) (hr : ∀ k, row = some k → k ∈ S ∨ a.heap.size ≤ k) : Fr S a w' :=
  ⟨hg.os.trans h.os, hg.tape.trans h.tape, hg.output.trans h.output, Nat.le_trans h.size hg.size, fun k hk hS => (hg.block k (Nat.lt_of_lt_of_le hk h.size) (fun e => by
    rcases hr k e.symm with h | h
    · exact hS h
    · omega)).trans (h.block k hk hS)⟩
theorem Fr.below {w w' : World} (h : Fr [] w w') : Below w.heap.size w w' :=
  ⟨h.os, h.tape, h.output, h.size, fun k hk => h.block k hk (by simp)⟩
theorem Fr.of_below {w w' : World} (h : Below w.heap.size w w') (S : List Nat) : Fr S w w' :=
  ⟨h.os, h.tape, h.output, h.size, fun k hk _ => h.block k hk⟩

section
variable {w w' : World} {b : Nat} {T : TypeId} {cs : List Value}

theorem Cells.lt (h : Cells w b T cs) : b < w.heap.size := (Array.getElem?_eq_some_iff.1 h).1
theorem Cells.cell (h : Cells w b T cs) (j : Nat) : w.cell? ⟨b, j, none⟩ = cs[j]? := by
  unfold Cells at h
  simp [World.cell?, h]
theorem Cells.frozen (h : Cells w b T cs) (j : Nat) : w.frozen? ⟨b, j, none⟩ = false := by
  unfold Cells at h
  simp [World.frozen?, h]
theorem Cells.fr {S : List Nat} (h : Cells w b T cs) (hf : Fr S w w') (hS : b ∉ S) : Cells w' b T cs :=
  (hf.block b h.lt hS).trans h
theorem Cells.as (h : Cells w b T cs) {cs' : List Value} (e : cs = cs') : Cells w b T cs' := e ▸ h
theorem Cells.set (h : Cells w b T cs) (j : Nat) (v : Value) : Cells (w.setCell ⟨b, j, none⟩ v) b T (cs.set j v) := by
  unfold Cells at h ⊢
  simp [World.setCell, Array.getElem?_modify, h]
theorem Cells.row (h : Cells w b T cs) (cs' : Array Value) : Cells (w.setRow b cs') b T cs'.toList := by
  unfold Cells at h ⊢
  have := setRow_heap w b _ cs' T (0, 0) h
  simpa using this
theorem Cells.other (h : Cells w b T cs) (a : Addr) (v : Value) (hne : a.block ≠ b) : Cells (w.setCell a v) b T cs := by
  unfold Cells at h ⊢
  rw [Below.heap_setCell _ _ _ _ (fun e => hne e.symm)]
  exact h
theorem Cells.alloc (h : Cells w b T cs) (o : Obj) : Cells (w.alloc o) b T cs :=
  (Below.heap_alloc _ _ _ h.lt).trans h
theorem Cells.drewN (h : Cells w b T cs) (n : Nat) : Cells (w.drewN n) b T cs := h
theorem Cells.drew (h : Cells w b T cs) : Cells w.drew b T cs := h
theorem Cells.new (w : World) (T : TypeId) (cs : List Value) : Cells (w.alloc (.cells cs.toArray T)) w.heap.size T cs := heap_alloc_new _ _
end

/-- A slice value that reads as the list xs. -/
def SlAt (w : World) (v : Value) (xs : List Value) : Prop :=
  (v = .slice none 0 0 ∧ xs = []) ∨
  ∃ g off cap, v = .slice (some ⟨g, off, none⟩) xs.length cap ∧ g < w.heap.size ∧ xs.length ≤ cap ∧ cap ≤ maxLen ∧ ∀ j, j < xs.length → w.cell? ⟨g, off + j, none⟩ = xs[j]?

theorem SlAt.nil (w : World) : SlAt w (.slice none 0 0) [] := .inl ⟨rfl, rfl⟩

theorem SlAt.fr {S : List Nat} {w w' : World} {v : Value} {xs : List Value} (h : SlAt w v xs) (hf : Fr S w w') (hS : ∀ g, v.ownBlock = some g → g ∉ S) : SlAt w' v xs := by
  rcases h with h | ⟨g, off, cap, rfl, hg, h1, h2, h3⟩
  · exact .inl h
  · refine .inr ⟨g, off, cap, rfl, Nat.lt_of_lt_of_le hg hf.size, h1, h2, fun j hj => ?_⟩
    rw [← h3 j hj]
    exact World.cell?_of_block (w := w) (hf.block g hg (hS g rfl))

/-- Such a slice, or one of no room whatever, wherever it points (an argument may be such). -/
def SlEx (w : World) (v : Value) (xs : List Value) : Prop := SlAt w v xs ∨ ∃ a, v = .slice (some a) 0 0 ∧ xs = []
theorem SlAt.ex {w : World} {v : Value} {xs : List Value} (h : SlAt w v xs) : SlEx w v xs := .inl h
theorem SlEx.fr {S : List Nat} {w w' : World} {v : Value} {xs : List Value} (h : SlEx w v xs) (hf : Fr S w w') (hS : ∀ g, v.ownBlock = some g → g ∉ S) : SlEx w' v xs := by
  rcases h with h | h
  · exact .inl (h.fr hf hS)
  · exact .inr h
theorem SlEx.shape {w : World} {v : Value} {xs : List Value} (h : SlEx w v xs) : ∃ ao cap, v = .slice ao xs.length cap := by
  rcases h with (⟨rfl, rfl⟩ | ⟨g, off, cap, rfl, _⟩) | ⟨a, rfl, rfl⟩
  · exact ⟨none, 0, rfl⟩
  · exact ⟨_, cap, rfl⟩
  · exact ⟨some a, 0, rfl⟩
theorem SlEx.full {w : World} {v : Value} {xs : List Value} (h : SlEx w v xs) (hne : xs ≠ []) : SlAt w v xs := by
  rcases h with h | ⟨_, _, h⟩
  · exact h
  · exact absurd h hne
theorem SlEx.some {w : World} {ao : Option Addr} {n c k : Nat} {xs : List Value} (h : SlEx w (.slice ao n c) xs) (hk : k < xs.length) :
    ∃ g off, ao = some ⟨g, off, none⟩ ∧ g < w.heap.size ∧ w.cell? ⟨g, off + k, none⟩ = xs[k]? := by
  rcases h with (⟨_, rfl⟩ | ⟨g, off, cap, hv, hg, _, _, h3⟩) | ⟨_, _, rfl⟩
  · simp at hk
  · cases hv
    exact ⟨g, off, rfl, hg, h3 k hk⟩
  · simp at hk

/-- The same, its capacity its length: whatever is appended goes to a new array. -/
def SlFull (w : World) (v : Value) (xs : List Value) : Prop :=
  (v = .slice none 0 0 ∧ xs = []) ∨
  ∃ g off, v = .slice (some ⟨g, off, none⟩) xs.length xs.length ∧ g < w.heap.size ∧ xs.length ≤ maxLen ∧ ∀ j, j < xs.length → w.cell? ⟨g, off + j, none⟩ = xs[j]?

theorem SlFull.nil (w : World) : SlFull w (.slice none 0 0) [] := .inl ⟨rfl, rfl⟩
theorem SlFull.at_ {w : World} {v : Value} {xs : List Value} (h : SlFull w v xs) : SlAt w v xs := by
  rcases h with h | ⟨g, off, rfl, hg, h1, h3⟩
  · exact .inl h
  · exact .inr ⟨g, off, xs.length, rfl, hg, Nat.le_refl _, h1, h3⟩
theorem SlFull.fr {S : List Nat} {w w' : World} {v : Value} {xs : List Value} (h : SlFull w v xs) (hf : Fr S w w') (hS : ∀ g, v.ownBlock = some g → g ∉ S) : SlFull w' v xs := by
  rcases h with h | ⟨g, off, rfl, hg, h2, h3⟩
  · exact .inl h
  · refine .inr ⟨g, off, rfl, Nat.lt_of_lt_of_le hg hf.size, h2, fun j hj => ?_⟩
    rw [← h3 j hj]
    exact World.cell?_of_block (w := w) (hf.block g hg (hS g rfl))
/-- As the law on append asks for it. -/
theorem SlFull.parts {w : World} {v : Value} {xs : List Value} (h : SlFull w v xs) :
    ∃ ao, v = .slice ao xs.length xs.length ∧ (ao = none → xs.length = 0 ∧ xs.length = 0) ∧ ∀ b, ao = some b → b.block < w.heap.size ∧ ∀ j u, xs[j]? = some u → w.cell? (b.add j) = some u := by
  rcases h with ⟨rfl, rfl⟩ | ⟨g, off, rfl, hg, h2, h3⟩
  · exact ⟨none, rfl, fun _ => ⟨rfl, rfl⟩, fun b hb => by cases hb⟩
  · refine ⟨_, rfl, fun h => by (cases h), ?_⟩
    rintro b hb
    cases hb
    refine ⟨hg, fun j u hu => ?_⟩
    have hj : j < xs.length := (List.getElem?_eq_some_iff.1 hu).1
    have e : (⟨g, off, none⟩ : Addr).add j = ⟨g, off + j, none⟩ := by
      unfold Addr.add
      split <;> simp_all
    rw [e, h3 j hj, hu]

/-- A slice literal's row is owned. -/
theorem own_lit (w : World) (base : Nat) (e : TypeId) (cs : List Value) (hb : base ≤ w.heap.size) (hm : cs.length ≤ maxLen) :
    (w.alloc (.cells cs.toArray e)).ownsRow base e 1 (.slice (some ⟨w.heap.size, 0, none⟩) cs.length cs.length) cs.length cs :=
  ⟨by simp, .inr ⟨w.heap.size, cs.length, cs.toArray, rfl, hb, heap_alloc_new w _, Nat.le_refl _, hm, by simp, by simp⟩⟩
theorem own_as {w : World} {base : Nat} {e : TypeId} {size : Nat} {v : Value} {n : Nat} {xs xs' : List Value} (h : w.ownsRow base e size v n xs) (hx : xs = xs') : w.ownsRow base e size v n xs' := hx ▸ h

/-- A whole array or struct stored into a block of its own: what the block then holds. -/
theorem wpList_store_whole {P : Program} {ops : Array Oper} {rest : List Oper} {o : Oper} {a : Act} {w : World} {Q : Exit → Act → World → Prop} (hgd : o.guard = none) (ty : TypeId) (x y : Operand) (ho : o.op = .store ty x y)
    (g : Nat) (cells : List Value) (hx : a.eval x = .pointer (some ⟨g, 0, none⟩)) (hy : a.eval y = .agg cells.toArray)
    (t : TypeId) (old : Array Value) (hg : w.heap[g]? = some (.cells old t (0, 0))) (hi : (P.info? ty).map (·.size) = some cells.toArray.size)
    (hold : old.size = cells.toArray.size) (h1 : cells.toArray.all (·.oneCell') = true)
    (h : ∀ w', Cells w' g t cells → Fr [g] w w' → w'.heap.size = w.heap.size → wpList P ops Q rest (a.put o.dst undef) w') : wpList P ops Q (o :: rest) a w := by
  refine wpList_store_row hgd ty x y ho g cells.toArray hx hy t old hg hi hold h1 (h _ ?_ ?_ ?_)
  · exact setRow_heap w g old cells.toArray t (0, 0) hg
  · exact (Fr.refl _ _).crow _ _ (by left; simp)
  · simp

/-- append(dst, src...), dst the call's own, src whatever reads as a list (nil too); elements of one cell. -/
theorem wpList_append_ex {P : Program} {w : World} {ops : Array Oper} {rest : List Oper} {o : Oper} {a : Act} {Q : Exit → Act → World → Prop} (hgd : o.guard = none) (s x : Operand) (t : TypeId)
    (ho : o.op = .call { callee := .builtin .append, args := #[s, x], argTypes := #[t, t] })
    (base : Nat) (e : TypeId) (i : TypeInfo) (z : Value) (bytes : Nat) (ht : P.underlying t = some (.slice e)) (hi : P.info? e = some i) (hz : i.zero = some z)
    (hsize : i.size = 1) (hby : i.bytes = bytes) (hzs : z.cells.size = 1)
    (v : Value) (n : Nat) (xs : List Value) (hs : a.eval s = v) (hown : w.ownsRow base e 1 v n xs)
    (sv : Value) (news : List Value) (hx : a.eval x = sv) (hsv : SlEx w sv news) (h1 : ∀ u ∈ news, u.oneCell' = true)
    (h63 : n + news.length ≤ maxLen) (hbytes : (n + news.length) * bytes ≤ 140737488355328) (hbase : base ≤ w.heap.size)
    (h : ∀ v' w', w'.ownsRow base e 1 v' (n + news.length) (xs ++ news) → w.grownBy w' v.ownBlock → (v' = .slice none 0 0 ↔ v = .slice none 0 0 ∧ news = []) → wpList P ops Q rest (a.put o.dst v') w') : wpList P ops Q (o :: rest) a w := by
  rcases hsv with (⟨rfl, rfl⟩ | ⟨g, off, cap, rfl, hg, hc1, hc2, hc3⟩) | ⟨ad, rfl, rfl⟩
  · refine wpList_append_own_none hgd s x t ho base e i 1 ht hi v n xs hs hown hx ?_
    refine h v w (by simpa using hown) ⟨rfl, rfl, rfl, Nat.le_refl _, fun _ _ _ => rfl⟩ (by simp)
  · refine wpList_append_own w hgd s x t ho base e i z 1 bytes ht hi hz hsize hby hzs (by decide) v n xs hs hown ⟨g, off, none⟩ news.length cap news hx (by simp) ?_ h1 h63 hbytes hbase ?_
    · intro j u hj
      have hlt := (List.getElem?_eq_some_iff.1 hj).1
      have e : (⟨g, off, none⟩ : Addr).add j = ⟨g, off + j, none⟩ := by
        unfold Addr.add
        split <;> simp_all
      rw [e, hc3 j hlt, hj]
    · intro v' w' k1 k2 k3
      refine h v' w' k1 k2 ?_
      rw [k3]
      constructor
      · rintro ⟨q1, q2⟩
        exact ⟨q1, List.eq_nil_of_length_eq_zero q2⟩
      · rintro ⟨q1, q2⟩
        exact ⟨q1, by simp [q2]⟩
  · refine wpList_append_own w hgd s x t ho base e i z 1 bytes ht hi hz hsize hby hzs (by decide) v n xs hs hown ad 0 0 [] hx (by simp) (by simp) (by simp) (by simpa using h63) (by simpa using hbytes) hbase ?_
    intro v' w' k1 k2 k3
    refine h v' w' k1 k2 ?_
    rw [k3]
    simp

theorem wpList_append_sl {P : Program} {w : World} {ops : Array Oper} {rest : List Oper} {o : Oper} {a : Act} {Q : Exit → Act → World → Prop} (hgd : o.guard = none) (s x : Operand) (t : TypeId)
    (ho : o.op = .call { callee := .builtin .append, args := #[s, x], argTypes := #[t, t] })
    (base : Nat) (e : TypeId) (i : TypeInfo) (z : Value) (bytes : Nat) (ht : P.underlying t = some (.slice e)) (hi : P.info? e = some i) (hz : i.zero = some z)
    (hsize : i.size = 1) (hby : i.bytes = bytes) (hzs : z.cells.size = 1)
    (v : Value) (n : Nat) (xs : List Value) (hs : a.eval s = v) (hown : w.ownsRow base e 1 v n xs)
    (sv : Value) (news : List Value) (hx : a.eval x = sv) (hsv : SlAt w sv news) (h1 : ∀ u ∈ news, u.oneCell' = true)
    (h63 : n + news.length ≤ maxLen) (hbytes : (n + news.length) * bytes ≤ 140737488355328) (hbase : base ≤ w.heap.size)
    (h : ∀ v' w', w'.ownsRow base e 1 v' (n + news.length) (xs ++ news) → w.grownBy w' v.ownBlock → (v' = .slice none 0 0 ↔ v = .slice none 0 0 ∧ news = []) → wpList P ops Q rest (a.put o.dst v') w') : wpList P ops Q (o :: rest) a w :=
  wpList_append_ex hgd s x t ho base e i z bytes ht hi hz hsize hby hzs v n xs hs hown sv news hx hsv.ex h1 h63 hbytes hbase h

/-! A region that draws its order, whose operations only read, and whose callees lay blocks of their own at most: walked once, in the text's order. -/
structure GrowTo (S : List Nat) (w : World) where
  world : World
  fr : Fr S w world
instance (S : List Nat) (w : World) : Inhabited (GrowTo S w) := ⟨⟨w, Fr.refl S w⟩⟩
theorem wp_region_grow {P : Program} {id : Nat} {Q : Exit → Act → World → Prop} {a : Act} {w : World} {l : List Oper} (S : List Nat) (hm : P.follows .mixedOrders = true) (hB : Region.lexB .any l.toArray = true)
    (h : wpQuiet P l.toArray (fun w' => ∃ p : GrowTo S w, w' = p.world) (fun a' => ∀ w', (∃ p : GrowTo S w, w' = p.world) → Q .normal a' w') l a) : (Code.region id l.toArray true).wp P Q a w :=
  wp_region_quiet (C := fun w' => ∃ p : GrowTo S w, w' = p.world) hm hB ⟨⟨w.drew, Fr.drew w S⟩, rfl⟩ (by simpa using h)
theorem grow_of {P : Program} {f : FuncId} {args : Array Value} {S : List Nat} {w : World} {p : GrowTo S w} {v : Value} (h : Calls P f args p.world fun e w' => e = .returned v ∧ Fr S p.world w') :
    Calls P f args p.world fun e w'' => e = .returned v ∧ ∃ q : GrowTo S w, w'' = q.world :=
  h.mono fun _ _ ⟨he, hf⟩ => ⟨he, ⟨_, p.fr.trans hf⟩, rfl⟩
theorem grow_cell {S : List Nat} {w : World} {b : Nat} {T : TypeId} {cs : List Value} (h : Cells w b T cs) (hS : b ∉ S) (j : Nat) (p : GrowTo S w) : p.world.cell? ⟨b, j, none⟩ = cs[j]? := (h.fr p.fr hS).cell j

/-- What follows turned only blocks that may be turned, or that were not there yet. -/
theorem Fr.step {S T : List Nat} {w w1 w2 : World} (h : Fr S w w1) (h2 : Fr T w1 w2) (hT : ∀ k, k ∈ T → k ∈ S ∨ w.heap.size ≤ k) : Fr S w w2 :=
  ⟨h2.os.trans h.os, h2.tape.trans h.tape, h2.output.trans h.output, Nat.le_trans h.size h2.size, fun k hk hS =>
    (h2.block k (Nat.lt_of_lt_of_le hk h.size) (fun hm => by
      rcases hT k hm with h | h
      · exact hS h
      · omega)).trans (h.block k hk hS)⟩

/-- What is owned reads as a list. -/
theorem sl_of_own {w : World} {base : Nat} {e : TypeId} {v : Value} {n : Nat} {xs : List Value} (h : w.ownsRow base e 1 v n xs) : SlAt w v xs := by
  have hlen := h.1
  rcases h.2 with ⟨rfl, rfl⟩ | ⟨g, cap, cur, rfl, hb, hh, h1, h2, h3, h4⟩
  · exact .inl ⟨rfl, List.eq_nil_of_length_eq_zero (by simpa using hlen)⟩
  · have hn : n = xs.length := by omega
    refine .inr ⟨g, 0, cap, by rw [hn], (Array.getElem?_eq_some_iff.1 hh).1, by omega, h2, fun j hj => ?_⟩
    have hc := cell_of_row w g j cur e (0, 0) hh
    rw [Nat.zero_add, hc, ← h4, List.getElem?_take]
    rw [if_pos (by omega)]
    simp

theorem own_fr {S : List Nat} {w w' : World} {base : Nat} {e : TypeId} {size : Nat} {v : Value} {n : Nat} {xs : List Value} (h : w.ownsRow base e size v n xs) (hf : Fr S w w') (hS : ∀ g, v.ownBlock = some g → g ∉ S) : w'.ownsRow base e size v n xs := by
  refine ⟨h.1, ?_⟩
  rcases h.2 with h2 | ⟨g, cap, cur, rfl, hb, hh, r⟩
  · exact .inl h2
  · exact .inr ⟨g, cap, cur, rfl, hb, (hf.block g (Array.getElem?_eq_some_iff.1 hh).1 (hS g rfl)).trans hh, r⟩
theorem own_base {w : World} {base base' : Nat} {e : TypeId} {size : Nat} {v : Value} {n : Nat} {xs : List Value} (h : w.ownsRow base e size v n xs) (hb : base' ≤ base) : w.ownsRow base' e size v n xs := by
  refine ⟨h.1, ?_⟩
  rcases h.2 with h2 | ⟨g, cap, cur, rfl, hb', r⟩
  · exact .inl h2
  · exact .inr ⟨g, cap, cur, rfl, Nat.le_trans hb hb', r⟩
theorem own_count {w : World} {base : Nat} {e : TypeId} {size : Nat} {v : Value} {n n' : Nat} {xs : List Value} (h : w.ownsRow base e size v n xs) (hn : n = n') : w.ownsRow base e size v n' xs := hn ▸ h

theorem one_int (k : IntKind) (x : Int) : ∀ u ∈ [Value.int k x], u.oneCell' = true := by
  intro u hu
  simp at hu
  subst hu
  rfl

/-- min and max of two, whole: the walk does not part on them ('attribute [local go_sem ↓ high] run_min_whole run_max_whole'). -/
theorem run_min_whole {P : Program} {w : World} (ts : Array TypeId) (t : TypeId) (k k' : IntKind) (x y : Int) : (Builtin.min_ ts t #[.int k x, .int k' y]).run P w = .ok (.int k (min x y)) w := by
  rw [run_min_int2]
  have : (if y < x then y else x) = min x y := by omega
  rw [this]
theorem run_max_whole {P : Program} {w : World} (ts : Array TypeId) (t : TypeId) (k k' : IntKind) (x y : Int) : (Builtin.max_ ts t #[.int k x, .int k' y]).run P w = .ok (.int k (max x y)) w := by
  have h := @run_max_int2 P w ts t k k' x y
  rw [h]
  have : (if x < y then y else x) = max x y := by omega
  rw [this]

end Go.Proofs.Ytjfmgpelkhgodaa
