/-
  A region by an invariant: what a step is, and that all is done at the end. No condition.
-/
import Derived.Test.YtbdpnmocbpplbaaRegX
namespace Go.Proofs.Ytbdpnmocbpplbaa
open Go.RowKit

theorem wpOp_new {P : Program} {ops : Array Oper} {Q : Exit → Act → World → Prop} {K : Act → World → Prop} {i : Nat} {o : Oper} {a : Act} {w w' : World} {v : Value} (ho : ops[i]? = some o) (hg : o.guard = none) (h : (execOp a.eval o).run P w = .ok (.value v) w') (hk : K (a.put o.dst v) w') : wpOp P ops Q i K a w := by
  unfold wpOp
  rw [ho]
  simp only [Region.wanted, hg, if_true]
  left
  unfold Oper.wp
  rw [h]
  exact hk
theorem wpOp_skip {P : Program} {ops : Array Oper} {Q : Exit → Act → World → Prop} {K : Act → World → Prop} {i : Nat} {o : Oper} {a : Act} {w w' : World} (ho : ops[i]? = some o) (hg : o.guard = none) (hd : o.dst = none) (h : (execOp a.eval o).run P w = .ok .skip w') (hk : K a w') : wpOp P ops Q i K a w := by
  unfold wpOp
  rw [ho]
  simp only [Region.wanted, hg, if_true]
  left
  unfold Oper.wp
  rw [h]
  simp only [Oper.upon, hd]
  exact hk
theorem wpOp_at {P : Program} {ops : Array Oper} {Q : Exit → Act → World → Prop} {K : Act → World → Prop} {i : Nat} {o : Oper} {a : Act} {w : World} (ho : ops[i]? = some o) (hg : o.guard = none) (h : o.wp P a w K Q) : wpOp P ops Q i K a w := by
  unfold wpOp
  rw [ho]
  simp only [Region.wanted, hg, if_true]
  exact .inl h
/-- Nothing is ready: all is done, where everything waits for what stands ahead of it alone. -/
theorem all_done {ops : Array Oper} {s : Array Bool} (sz : s.size = ops.size) (hc : ((List.range ops.size).all fun i => match ops[i]? with | some o => o.after.all fun e => !Region.binds .any e || decide (e.on < i) | none => true) = true) (hr : Region.ready .any ops s = []) : ∀ i, i < ops.size → s.getD i false = true := by
  intro i
  induction i using Nat.strongRecOn with
  | ind i ih =>
    intro hi
    cases h : s.getD i false with
    | true => rfl
    | false =>
      exfalso
      have hm : i ∈ Region.ready .any ops s := by
        refine mem_ready.2 ⟨by simpa [Array.getD, sz, hi] using h, ops[i], by simp [hi], fun e he hb => ?_⟩
        have h1 := List.all_eq_true.1 hc i (List.mem_range.2 hi)
        simp only [Array.getElem?_eq_getElem hi] at h1
        have h2 := Array.all_eq_true_iff_forall_mem.1 h1 e he
        rw [hb] at h2
        have hlt : e.on < i := by simpa using h2
        exact ih _ hlt (by omega)
      rw [hr] at hm
      cases hm
end Go.Proofs.Ytbdpnmocbpplbaa
