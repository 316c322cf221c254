/- A range over a function, at the wide fence: the law that serves here. The iterator may write blocks of its own (T); a body that never leaves early. -/
import Derived.RangeFuncNested
import Derived.RangeFuncBound
import Derived.RangeFuncCalls
import Derived.RangeFuncLeaves
import Derived.OwnWalkIn
import Derived.TacticsInMore
import Derived.LoopNIn
import Derived.LoopIn
import Derived.Test.YtjfmgpelkhgodaaRdA
namespace Go.Proofs.Ytjfmgpelkhgodaa
open Go.RowKit

/-- Blocks that pass Ok were turned, and new ones laid; nothing else. -/
def Kp (Ok : Nat → Prop) (W W' : World) : Prop := ∃ S, Fr S W W' ∧ ∀ g, g ∈ S → Ok g
theorem Kp.refl (Ok : Nat → Prop) (W : World) : Kp Ok W W := ⟨[], Fr.refl _ _, by simp⟩
theorem Kp.trans {Ok : Nat → Prop} {A B C : World} (h : Kp Ok A B) (k : Kp Ok B C) : Kp Ok A C := by
  obtain ⟨S, h1, h2⟩ := h
  obtain ⟨T, k1, k2⟩ := k
  refine ⟨S ++ T, (h1.mono (by simp +contextual)).trans (k1.mono (by simp +contextual)), ?_⟩
  intro g hg
  rcases List.mem_append.1 hg with hg | hg
  · exact h2 g hg
  · exact k2 g hg
theorem Kp.mono {Ok Ok' : Nat → Prop} {A B : World} (h : Kp Ok A B) (ho : ∀ g, Ok g → Ok' g) : Kp Ok' A B := by
  obtain ⟨S, h1, h2⟩ := h
  exact ⟨S, h1, fun g hg => ho g (h2 g hg)⟩
theorem Kp.of {Ok : Nat → Prop} {S : List Nat} {A B : World} (h : Fr S A B) (ho : ∀ g, g ∈ S → Ok g) : Kp Ok A B := ⟨S, h, ho⟩
theorem Kp.heap {Ok : Nat → Prop} {A B : World} (h : Kp Ok A B) {k : Nat} {o : Obj} (hk : A.heap[k]? = some o) (ho : ¬ Ok k) : B.heap[k]? = some o := by
  obtain ⟨S, h1, h2⟩ := h
  exact (h1.block k (Array.getElem?_eq_some_iff.1 hk).1 (fun hm => ho (h2 k hm))).trans hk
theorem Fr.putObj (W : World) (l : Nat) (o : Obj) : Fr [l] W (W.putObj l o) :=
  ⟨rfl, rfl, rfl, by simp, fun k _ hS => World.putObj_heap_other (by simpa using hS)⟩

/-- The contract of an iterator value: what it hands out (S), what it leaves (Z); it turns blocks of T and new ones alone. C: what each that comes fulfils. -/
def Gives {α : Type} (P : Program) (gf : Nat) (lb : Array Value) (encs : α → Array Value) (T : List Nat) (Ok : Nat → Prop) (C : List α → α → Prop) (S : List α → Prop) (Z : List α → World → Prop) (w : World) : Prop :=
  ∀ (l : Nat) (J : List α → World → Prop) (W1 : World), Fr [] w W1 → (∀ s A B, J s A → Fr T A B → J s B) →
    (∀ pre x W, J pre W → C pre x → YieldAt Fence.wide 0 P l (encs x) W fun e W' => e = .returned (.bool true) ∧ J (pre ++ [x]) W' ∧ Kp Ok W W') →
    J [] W1 → CallsIn Fence.wide 1 P gf (#[.func (.yield l) #[] #[]] ++ lb) W1 fun e W' => (∃ v, e = .returned v) ∧ ∃ xs, S xs ∧ J xs W' ∧ Z xs W'

/-- What a body must come to: it never leaves early. -/
def roundEnd {α : Type} (Ok : Nat → Prop) (I : List α → World → Prop) (D : Nat) (pre : List α) (W : World) : Exit → Act → World → Prop
  | .normal, _, W3 => Kp (fun g => Ok g ∧ g ≠ D ∧ g ≠ D + 1) W W3 ∧ I pre W3
  | _, _, _ => False

theorem wp_rangeFunc {α : Type} {P : Program} {g : Operand} {ps : Array Tmp} {assign body : Code} {Q : Exit → Act → World → Prop} {a : Act} {w : World} {gf : Nat} {lb : Array Value}
    (hg : a.eval g = .func (.func gf) #[] lb) (eg : ∀ args w, (callFunc gf args).run P w = .ok (.enter gf args) w)
    {encs : α → Array Value} {T : List Nat} {Ok : Nat → Prop} {C : List α → α → Prop} {S : List α → Prop} {Z : List α → World → Prop}
    (hseq : Gives P gf lb encs T Ok C S Z w) (hps : ∀ x, (encs x).size = ps.size) (hT : ∀ g, g ∈ T → g < w.heap.size) (hOk : ∀ g, w.heap.size ≤ g → Ok g)
    (I : List α → World → Prop) (hI : ∀ s A B, I s A → Fr (w.heap.size :: (w.heap.size + 1) :: T) A B → I s B) (hZ : ∀ s A B, Z s A → Fr [w.heap.size + 1] A B → Z s B) (h0 : I [] w)
    (hround : ∀ (l : Nat) (pre : List α) (x : α) (W : World), w.heap.size + 2 ≤ W.heap.size → I pre W → C pre x →
      assign.wpIn (Fence.wide.inRound l) 0 P (Exit.then (fun a₁ W1 => Fr [] W W1 ∧ ∀ W2, Fr [w.heap.size + 1] W1 W2 → body.wpIn (Fence.wide.inRound l) 0 P (roundEnd Ok I w.heap.size (pre ++ [x]) W2) a₁ W2) (fun _ _ _ => False))
        { tmps := (ps.zip (encs x)).foldl (fun t (p, v) => t.setIfInBounds p v) a.tmps, defers := [] } W)
    (hdone : ∀ (xs : List α) (W : World), S xs → I xs W → Z xs W → W.heap[w.heap.size]? = some (.deferred (some [])) → Q .normal { a with defers := { target := .collected w.heap.size, args := #[] } :: a.defers } W) :
    (Code.rangeFunc g ps assign body).wp P Q a w := by
  refine (wpIn_wide (n := 2)).1 (wpIn_rangeFunc ?_)
  intro fn _
  obtain ⟨rec, hrec⟩ : ∃ rec : LoopState → Loop, rec = fun st => { state := st, pending := none, fn, tmps := a.tmps, params := ps, assign, body, defers := w.heap.size } := ⟨_, rfl⟩
  obtain ⟨W1, hW1⟩ : ∃ W1, (w.alloc (.deferred (some []))).alloc (.loop (rec .ready)) = W1 := ⟨_, rfl⟩
  have hL1 : W1.heap[w.heap.size + 1]? = some (.loop (rec .ready)) := by
    rw [← hW1]
    have := World.alloc_heap_new (w.alloc (.deferred (some []))) (.loop (rec .ready))
    rwa [World.size_alloc] at this
  have hF1 : Fr [] w W1 := by
    rw [← hW1]
    exact ((Fr.refl [] w).calloc _).calloc _
  have hK1 : W1.heap[w.heap.size]? = some (.deferred (some [])) := by
    rw [← hW1]
    exact (Below.heap_alloc _ _ _ (by simp)).trans (World.alloc_heap_new w _)
  have hout : (fun g => Ok g ∧ g ≠ w.heap.size ∧ g ≠ w.heap.size + 1) (w.heap.size + 1) → False := fun h => h.2.2 rfl
  refine ⟨w.heap.size + 1, [{ target := .collected w.heap.size, args := #[] }], W1, { target := .fn (.func gf) lb, args := #[.func (.yield (w.heap.size + 1)) #[] #[]] }, W1, gf,
    #[.func (.yield (w.heap.size + 1)) #[] #[]] ++ lb, W1, ?_, ?_, ?_, ?_, fun h => by simp [Fence.wide] at h, ?_⟩
  · rw [← hW1, hrec]
    exact run_enterLoop_outer _ _ _ _ _
  · simp only [resolve, hg]
    simp [go_sem]
  · intro f' _
    trivial
  · simp [invoke, go_sem, eg]
  · have hbase := (hseq (w.heap.size + 1) (fun pre W => I pre W ∧ W.heap[w.heap.size + 1]? = some (.loop (rec .ready)) ∧ W.heap[w.heap.size]? = some (.deferred (some []))) W1 hF1 ?_ ?_ ?_)
    · refine hbase.mono ?_
      rintro e W2 ⟨⟨v, rfl⟩, xs, hS, ⟨hi, hl, hk⟩, hz⟩
      have hend := run_endLoop (P := P) hl (by rw [hrec]; simp)
      rw [hrec] at hend
      refine ⟨none, _, hend, ?_⟩
      refine hdone xs _ hS (hI _ _ _ hi ((Fr.putObj _ _ _).mono (by simp))) (hZ _ _ _ hz (Fr.putObj _ _ _)) ((World.putObj_heap_other (by omega)).trans hk)
    · rintro s A B ⟨hi, hl, hk⟩ hf
      refine ⟨hI _ _ _ hi (hf.mono (by simp +contextual)), (hf.block _ (Array.getElem?_eq_some_iff.1 hl).1 ?_).trans hl, (hf.block _ (Array.getElem?_eq_some_iff.1 hk).1 ?_).trans hk⟩
      · intro hm
        have := hT _ hm
        omega
      · intro hm
        have := hT _ hm
        omega
    · rintro pre x W ⟨hi, hl, hk⟩ hc
      have hlt : w.heap.size + 1 < W.heap.size := (Array.getElem?_eq_some_iff.1 hl).1
      have hy := run_yield (P := P) (args := encs x) hl (by rw [hrec]; exact hps x)
      rw [hrec] at hy
      refine ⟨fn, _, assign, body, hy, roundIn_of_wpIn trivial (wpIn_mono (hround _ pre x W (by omega) hi hc) ?_)⟩
      rintro e a₁ Wa hea
      cases e with
      | normal =>
        obtain ⟨hfa, hbody⟩ := hea
        have hla := (hfa.block _ (by omega) (by simp)).trans hl
        have hka := (hfa.block _ (by omega) (by simp)).trans hk
        refine ⟨_, run_beginRound hla (by rw [hrec]), ?_⟩
        refine wpIn_mono (hbody _ (Fr.putObj _ _ _)) ?_
        have hl2 : (Wa.putObj (w.heap.size + 1) (.loop { rec .ready with state := .busy })).heap[w.heap.size + 1]? = some (.loop { rec .ready with state := .busy }) := World.putObj_heap_same (Array.getElem?_eq_some_iff.1 hla).1
        have hk2 : (Wa.putObj (w.heap.size + 1) (.loop { rec .ready with state := .busy })).heap[w.heap.size]? = some (.deferred (some [])) := (World.putObj_heap_other (by omega)).trans hka
        rintro e3 a3 W3 h3
        cases e3 with
        | normal =>
          obtain ⟨hkp, hi3⟩ := h3
          have hl3 := hkp.heap hl2 (fun h => h.2.2 rfl)
          have hk3 := hkp.heap hk2 (fun h => h.2.1 rfl)
          have hend := run_endRound (P := P) none hl3
          refine ⟨_, _, hend, rfl, ⟨hI _ _ _ hi3 ((Fr.putObj _ _ _).mono (by simp)), ?_, (World.putObj_heap_other (by omega)).trans hk3⟩, ?_⟩
          · rw [World.putObj_heap_same (Array.getElem?_eq_some_iff.1 hl3).1, hrec]
            simp
          · refine ((Kp.of (hfa.mono (by simp)) (S := []) (by simp)).trans (Kp.of (Fr.putObj _ _ _) ?_)).trans ((hkp.mono (fun g h => h.1)).trans (Kp.of (Fr.putObj _ _ _) ?_))
            · intro g hg
              simp at hg
              exact hOk _ (by omega)
            · intro g hg
              simp at hg
              exact hOk _ (by omega)
        | _ => exact h3.elim
      | _ => exact hea.elim
    · exact ⟨hI _ _ _ h0 (hF1.mono (by simp)), hL1, hK1⟩
end Go.Proofs.Ytjfmgpelkhgodaa
