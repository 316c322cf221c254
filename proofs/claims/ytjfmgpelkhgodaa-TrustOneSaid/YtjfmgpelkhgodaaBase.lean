/- Small words on memory, used by every walk: blocks of cells, the frame of a call, slices that read as lists. No condition. -/
import Derived.WalkKit
import Derived.WalkSpells
import Derived.WalkLawsBesides
import Derived.Handy
import Derived.Lib.Hide
import Derived.BigQuiet
import Derived.Deep.QuietTactic
namespace Go.Proofs.Ytjfmgpelkhgodaa
open Go.RowKit

/-- Block b holds just these cells, none frozen. -/
def Cells (w : World) (b : Nat) (T : TypeId) (cs : List Value) : Prop := w.heap[b]? = some (.cells cs.toArray T (0, 0))

/-- The call may have turned the blocks of S, and laid new ones; nothing else. -/
structure Fr (S : List Nat) (w w' : World) : Prop where
  os : w'.os = w.os
  tape : w'.tape = w.tape
  output : w'.output = w.output
  size : w.heap.size ≤ w'.heap.size
  block : ∀ k, k < w.heap.size → k ∉ S → w'.heap[k]? = w.heap[k]?

theorem Fr.refl (S : List Nat) (w : World) : Fr S w w := ⟨rfl, rfl, rfl, Nat.le_refl _, fun _ _ _ => rfl⟩

theorem Fr.trans {S : List Nat} {a b c : World} (h : Fr S a b) (k : Fr S b c) : Fr S a c :=
  ⟨k.os.trans h.os, k.tape.trans h.tape, k.output.trans h.output, Nat.le_trans h.size k.size,
    fun i hi hS => (k.block i (Nat.lt_of_lt_of_le hi h.size) hS).trans (h.block i hi hS)⟩

theorem Fr.mono {S S' : List Nat} {a b : World} (h : Fr S a b) (hS : ∀ k, k ∈ S → k ∈ S') : Fr S' a b :=
  ⟨h.os, h.tape, h.output, h.size, fun i hi hn => h.block i hi (fun hm => hn (hS i hm))⟩

/-- Blocks that were not there yet need not be named. -/
theorem Fr.forget {S S' : List Nat} {a b : World} (h : Fr S a b) (hS : ∀ k, k ∈ S → k ∈ S' ∨ a.heap.size ≤ k) : Fr S' a b :=
  ⟨h.os, h.tape, h.output, h.size, fun i hi hn => h.block i hi (fun hm => by
    rcases hS i hm with h1 | h1
    · exact hn h1
    · omega)⟩

theorem Fr.drew (w : World) (S : List Nat) : Fr S w w.drew := ⟨rfl, rfl, rfl, Nat.le_refl _, fun _ _ _ => rfl⟩
theorem Fr.drewN (w : World) (n : Nat) (S : List Nat) : Fr S w (w.drewN n) := ⟨rfl, rfl, rfl, Nat.le_refl _, fun _ _ _ => rfl⟩
theorem Fr.alloc (w : World) (o : Obj) (S : List Nat) : Fr S w (w.alloc o) :=
  ⟨rfl, rfl, rfl, by simp, fun k hk _ => Below.heap_alloc _ _ _ hk⟩
theorem Fr.setCell (w : World) (a : Addr) (u : Value) (S : List Nat) (h : a.block ∈ S ∨ w.heap.size ≤ a.block) : Fr S w (w.setCell a u) :=
  ⟨rfl, rfl, rfl, by simp [World.setCell], fun k hk hS => Below.heap_setCell _ _ _ _ (by
    rintro rfl
    rcases h with h | h
    · exact hS h
    · omega)⟩
theorem Fr.grown {w w' : World} {row : Option Nat} (hg : w.grownBy w' row) (S : List Nat) (h : ∀ k, row = some k → k ∈ S ∨ w.heap.size ≤ k) : Fr S w w' :=
  ⟨hg.os, hg.tape, hg.output, hg.size, fun k hk hS => hg.block k hk (fun e => by
    rcases h k e.symm with h | h
    · exact hS h
    · omega)⟩
/- the same, as steps behind what is known already -/
theorem Fr.cdrew {S : List Nat} {a w : World} (h : Fr S a w) : Fr S a w.drew := h.trans (Fr.drew w S)
theorem Fr.cdrewN {S : List Nat} {a w : World} (h : Fr S a w) (n : Nat) : Fr S a (w.drewN n) := h.trans (Fr.drewN w n S)
theorem Fr.calloc {S : List Nat} {a w : World} (h : Fr S a w) (o : Obj) : Fr S a (w.alloc o) := h.trans (Fr.alloc w o S)
theorem Fr.cset {S : List Nat} {a w : World} (h : Fr S a w) (p : Addr) (u : Value) (hp : p.block ∈ S ∨ a.heap.size ≤ p.block) : Fr S a (w.setCell p u) :=
  ⟨h.os, h.tape, h.output, by simpa [World.setCell] using h.size, fun k hk hS => (Below.heap_setCell _ _ _ _ (by
    rintro rfl
    rcases hp with hp | hp
    · exact hS hp
    · omega)).trans (h.block k hk hS)⟩
theorem Fr.cgrown {S : List Nat} {a w w' : World} {row : Option Nat} (h : Fr S a w) (hg : w.grownBy w' row) (hr : ∀ k, row = some k → k ∈ S ∨ a.heap.size ≤ k) : Fr S a w' :=
  ⟨hg.os.trans h.os, hg.tape.trans h.tape, hg.output.trans h.output, Nat.le_trans h.size hg.size, fun k hk hS => (hg.block k (Nat.lt_of_lt_of_le hk h.size) (fun e => by
    rcases hr k e.symm with h | h
    · exact hS h
    · omega)).trans (h.block k hk hS)⟩
theorem Fr.below {w w' : World} (h : Fr [] w w') : Below w.heap.size w w' :=
  ⟨h.os, h.tape, h.output, h.size, fun k hk => h.block k hk (by simp)⟩
theorem Fr.of_below {w w' : World} (h : Below w.heap.size w w') (S : List Nat) : Fr S w w' :=
  ⟨h.os, h.tape, h.output, h.size, fun k hk _ => h.block k hk⟩

section
variable {w w' : World} {b : Nat} {T : TypeId} {cs : List Value}

theorem Cells.lt (h : Cells w b T cs) : b < w.heap.size := (Array.getElem?_eq_some_iff.1 h).1
theorem Cells.cell (h : Cells w b T cs) (j : Nat) : w.cell? ⟨b, j, none⟩ = cs[j]? := by
  unfold Cells at h
  simp [World.cell?, h]
theorem Cells.frozen (h : Cells w b T cs) (j : Nat) : w.frozen? ⟨b, j, none⟩ = false := by
  unfold Cells at h
  simp [World.frozen?, h]
theorem Cells.fr {S : List Nat} (h : Cells w b T cs) (hf : Fr S w w') (hS : b ∉ S) : Cells w' b T cs :=
  (hf.block b h.lt hS).trans h
theorem Cells.as (h : Cells w b T cs) {cs' : List Value} (e : cs = cs') : Cells w b T cs' := e ▸ h
theorem Cells.set (h : Cells w b T cs) (j : Nat) (v : Value) : Cells (w.setCell ⟨b, j, none⟩ v) b T (cs.set j v) := by
  unfold Cells at h ⊢
  simp [World.setCell, Array.getElem?_modify, h]
theorem Cells.other (h : Cells w b T cs) (a : Addr) (v : Value) (hne : a.block ≠ b) : Cells (w.setCell a v) b T cs := by
  unfold Cells at h ⊢
  rw [Below.heap_setCell _ _ _ _ (fun e => hne e.symm)]
  exact h
theorem Cells.alloc (h : Cells w b T cs) (o : Obj) : Cells (w.alloc o) b T cs :=
  (Below.heap_alloc _ _ _ h.lt).trans h
theorem Cells.drewN (h : Cells w b T cs) (n : Nat) : Cells (w.drewN n) b T cs := h
theorem Cells.drew (h : Cells w b T cs) : Cells w.drew b T cs := h
theorem Cells.new (w : World) (T : TypeId) (cs : List Value) : Cells (w.alloc (.cells cs.toArray T)) w.heap.size T cs := heap_alloc_new _ _
end

/-- A slice value that reads as the list xs. -/
def SlAt (w : World) (v : Value) (xs : List Value) : Prop :=
  (v = .slice none 0 0 ∧ xs = []) ∨
  ∃ g off cap, v = .slice (some ⟨g, off, none⟩) xs.length cap ∧ g < w.heap.size ∧ xs.length ≤ cap ∧ cap ≤ maxLen ∧ ∀ j, j < xs.length → w.cell? ⟨g, off + j, none⟩ = xs[j]?

theorem SlAt.nil (w : World) : SlAt w (.slice none 0 0) [] := .inl ⟨rfl, rfl⟩

theorem SlAt.fr {S : List Nat} {w w' : World} {v : Value} {xs : List Value} (h : SlAt w v xs) (hf : Fr S w w') (hS : ∀ g, v.ownBlock = some g → g ∉ S) : SlAt w' v xs := by
  rcases h with h | ⟨g, off, cap, rfl, hg, h1, h2, h3⟩
  · exact .inl h
  · refine .inr ⟨g, off, cap, rfl, Nat.lt_of_lt_of_le hg hf.size, h1, h2, fun j hj => ?_⟩
    rw [← h3 j hj]
    exact World.cell?_of_block (w := w) (hf.block g hg (hS g rfl))

/-- The same, its capacity its length: whatever is appended goes to a new array. -/
def SlFull (w : World) (v : Value) (xs : List Value) : Prop :=
  (v = .slice none 0 0 ∧ xs = []) ∨
  ∃ g off, v = .slice (some ⟨g, off, none⟩) xs.length xs.length ∧ g < w.heap.size ∧ xs.length ≤ maxLen ∧ ∀ j, j < xs.length → w.cell? ⟨g, off + j, none⟩ = xs[j]?

theorem SlFull.nil (w : World) : SlFull w (.slice none 0 0) [] := .inl ⟨rfl, rfl⟩
theorem SlFull.at_ {w : World} {v : Value} {xs : List Value} (h : SlFull w v xs) : SlAt w v xs := by
  rcases h with h | ⟨g, off, rfl, hg, h1, h3⟩
  · exact .inl h
  · exact .inr ⟨g, off, xs.length, rfl, hg, Nat.le_refl _, h1, h3⟩
theorem SlFull.fr {S : List Nat} {w w' : World} {v : Value} {xs : List Value} (h : SlFull w v xs) (hf : Fr S w w') (hS : ∀ g, v.ownBlock = some g → g ∉ S) : SlFull w' v xs := by
  rcases h with h | ⟨g, off, rfl, hg, h2, h3⟩
  · exact .inl h
  · refine .inr ⟨g, off, rfl, Nat.lt_of_lt_of_le hg hf.size, h2, fun j hj => ?_⟩
    rw [← h3 j hj]
    exact World.cell?_of_block (w := w) (hf.block g hg (hS g rfl))
/-- As the law on append asks for it. -/
theorem SlFull.parts {w : World} {v : Value} {xs : List Value} (h : SlFull w v xs) :
    ∃ ao, v = .slice ao xs.length xs.length ∧ (ao = none → xs.length = 0 ∧ xs.length = 0) ∧ ∀ b, ao = some b → b.block < w.heap.size ∧ ∀ j u, xs[j]? = some u → w.cell? (b.add j) = some u := by
  rcases h with ⟨rfl, rfl⟩ | ⟨g, off, rfl, hg, h2, h3⟩
  · exact ⟨none, rfl, fun _ => ⟨rfl, rfl⟩, fun b hb => by cases hb⟩
  · refine ⟨_, rfl, fun h => by (cases h), ?_⟩
    rintro b hb
    cases hb
    refine ⟨hg, fun j u hu => ?_⟩
    have hj : j < xs.length := (List.getElem?_eq_some_iff.1 hu).1
    have e : (⟨g, off, none⟩ : Addr).add j = ⟨g, off + j, none⟩ := by
      unfold Addr.add
      split <;> simp_all
    rw [e, h3 j hj, hu]

/-- min and max of two, whole: the walk does not part on them ('attribute [local go_sem ↓ high] run_min_whole run_max_whole'). -/
theorem run_min_whole {P : Program} {w : World} (ts : Array TypeId) (t : TypeId) (k k' : IntKind) (x y : Int) : (Builtin.min_ ts t #[.int k x, .int k' y]).run P w = .ok (.int k (min x y)) w := by
  rw [run_min_int2]
  have : (if y < x then y else x) = min x y := by omega
  rw [this]
theorem run_max_whole {P : Program} {w : World} (ts : Array TypeId) (t : TypeId) (k k' : IntKind) (x y : Int) : (Builtin.max_ ts t #[.int k x, .int k' y]).run P w = .ok (.int k (max x y)) w := by
  have h := @run_max_int2 P w ts t k k' x y
  rw [h]
  have : (if x < y then y else x) = max x y := by omega
  rw [this]

end Go.Proofs.Ytjfmgpelkhgodaa
