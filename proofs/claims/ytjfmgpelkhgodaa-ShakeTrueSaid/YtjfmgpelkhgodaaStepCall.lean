/- A call of a Go function in a region that draws its order, as one step. -/
import Derived.Deep.RegionHeld3
import Derived.Deep.RegionLaw
import Derived.Deep.AppendLies
import Derived.Test.YtjfmgpelkhgodaaWireE
namespace Go.Proofs.Ytjfmgpelkhgodaa
open Go.RowKit

theorem step_call1 {P : Program} {ops : Array Oper} {o : Oper} {a : Act} {w : World} {K : Act → World → Prop} {Q : Exit → Act → World → Prop} {E : Prop} (hgd : o.guard = none) (f : FuncId) (x : Tmp) (t : TypeId)
    (ho : o.op = .call { callee := .value (.func f), args := #[.tmp x], argTypes := #[t] }) (he : ∀ args w, (callFunc f args).run P w = .ok (.enter f args) w) (v : Value) (hx : a.tmps[x]?.getD undef = v)
    {R : Ending → World → Prop} (hc : Calls P f #[v] w R) (h : ∀ e w', R e w' → ∃ u, e = .returned u ∧ K (a.put o.dst u) w') :
    if Region.wanted o (yielded ops a.tmps) = true then Oper.wp P o a w K Q else E := by
  have hw : Region.wanted o (yielded ops a.tmps) = true := by simp [Region.wanted, hgd]
  rw [if_pos hw]
  obtain ⟨dst, op, type, pos, after, guard⟩ := o
  simp only at ho hgd h
  subst ho hgd
  unfold Oper.wp
  simp [go_sem, hx, he]
  refine hc.mono ?_
  intro e w' hR
  obtain ⟨u, rfl, hK⟩ := h e w' hR
  exact hK
end Go.Proofs.Ytjfmgpelkhgodaa
