/- Two handshakes compared; a guarded call as a step of a region. -/
import Derived.Test.YtjfmgpelkhgodaaLawB
import Derived.Test.YtjfmgpelkhgodaaLawQ
namespace Go.Proofs.Ytjfmgpelkhgodaa
open Go.RowKit

/-- A call under a guard that holds, as one step of a region that draws its order. -/
theorem step_callG {P : Program} {ops : Array Oper} {o : Oper} {a : Act} {w : World} {K : Act → World → Prop} {Q : Exit → Act → World → Prop} {E : Prop} (hw : Region.wanted o (yielded ops a.tmps) = true) (f : FuncId) (args : Array Operand) (ts : Array TypeId)
    (ho : o.op = .call { callee := .value (.func f), args := args, argTypes := ts }) (he : ∀ args w, (callFunc f args).run P w = .ok (.enter f args) w) (vs : Array Value) (hv : args.toList.map a.eval = vs.toList)
    {R : Ending → World → Prop} (hc : Calls P f vs w R) (h : ∀ e w', R e w' → ∃ u, e = .returned u ∧ K (a.put o.dst u) w') :
    if Region.wanted o (yielded ops a.tmps) = true then Oper.wp P o a w K Q else E := by
  rw [if_pos hw]
  obtain ⟨dst, op, type, pos, after, guard⟩ := o
  simp only at ho h
  subst ho
  have hv : args.map a.eval = vs := by
    apply Array.toList_inj.1
    simpa using hv
  subst hv
  unfold Oper.wp
  simp [go_sem, he]
  refine hc.mono ?_
  intro e w' hR
  obtain ⟨u, rfl, hK⟩ := h e w' hR
  exact hK

set_option maxRecDepth 100000 in
theorem run_eq_sk' (d : Nat) (s r : Sk) (W : World) : (Op.equalIn (d + 1 + 1) 46 (.agg #[.int .i64 s.state, .int .i64 s.own, .int .i64 s.other, .int .u64 s.nonce, .int .u64 s.echo]) (.agg #[.int .i64 r.state, .int .i64 r.own, .int .i64 r.other, .int .u64 r.nonce, .int .u64 r.echo])).run Try.prog W = .ok (decide (s = r)) W := by
  have hf : Try.prog.underlying 46 = some (.struct (Try.prog.fieldsOf 46)) := by kernel_rfl
  have hp : Try.prog.stoodInHeld 46 = false := by kernel_rfl
  rw [run_equalIn_agg W (d + 1) _ _ _ hf hp]
  have hfs := hf
  rw [Try.underlying46] at hfs
  injection hfs with hfs
  injection hfs with hfs
  rw [← hfs]
  obtain ⟨s0, s1, s2, s3, s4⟩ := s
  obtain ⟨r0, r1, r2, r3, r4⟩ := r
  simp [Op.eqFields, go_sem, Try.underlying3, Try.underlying40]
  by_cases h0 : s0 = r0
  · by_cases h1 : s1 = r1
    · by_cases h2 : s2 = r2
      · by_cases h3 : s3 = r3
        · by_cases h4 : s4 = r4
          · simp [h0, h1, h2, h3, h4]
          · have k : ¬ (s4 : Int) = r4 := by omega
            simp [h0, h1, h2, h3, h4, k]
        · have k : ¬ (s3 : Int) = r3 := by omega
          simp [h0, h1, h2, h3, k]
      · have k : ¬ (s2 : Int) = r2 := by omega
        simp [h0, h1, h2, k]
    · have k : ¬ (s1 : Int) = r1 := by omega
      simp [h0, h1, k]
  · simp [h0]

section
variable {w0 w w' : World} {N : List Nat} {O : List (Nat × TypeId × List Value)} {B : List (Value × List Value)}
/-- A block, a slice, that is needed no more. -/
theorem St.dropO {p : Nat × TypeId × List Value} (h : St w0 w N (p :: O) B) : St w0 w N O B := by
  refine ⟨h.fr, h.nlo, fun q hq => h.own q (List.mem_cons_of_mem _ hq), ?_, fun q hq => ⟨(h.sl q hq).1, fun g hg => ⟨((h.sl q hq).2 g hg).1, fun hm => ((h.sl q hq).2 g hg).2 ?_⟩⟩⟩
  · have := h.dis
    rw [List.map_cons, List.nodup_cons] at this
    exact this.2
  · rw [List.map_cons]
    exact List.mem_cons_of_mem _ hm
theorem St.dropB {p : Value × List Value} (h : St w0 w N O (p :: B)) : St w0 w N O B :=
  ⟨h.fr, h.nlo, h.own, h.dis, fun q hq => h.sl q (List.mem_cons_of_mem _ hq)⟩
theorem St.keepB {B' : List (Value × List Value)} (h : St w0 w N O B) (hB : ∀ p, p ∈ B' → p ∈ B) : St w0 w N O B' :=
  ⟨h.fr, h.nlo, h.own, h.dis, fun q hq => h.sl q (hB q hq)⟩
end
end Go.Proofs.Ytjfmgpelkhgodaa
