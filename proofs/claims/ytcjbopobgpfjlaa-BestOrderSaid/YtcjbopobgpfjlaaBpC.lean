/-
  The region of best.Port behind its loop: any order. No condition.
-/
import Derived.Test.YtcjbopobgpfjlaaBpB
import Derived.Test.YtcjbopobgpfjlaaRegX
namespace Go.Proofs.Ytcjbopobgpfjlaa
open Go.RowKit

/-- The frame while the region runs. -/
def fr5 (t0 t1 t3 t4 t5 t9 t10 t11 : Value) (v7 v8 v17 v18 v19 v20 v21 v22 v23 : Value) : Array Value :=
  #[t0, t1, undef, t3, t4, t5, undef, v7, v8, t9, t10, t11, undef, undef, undef, undef, undef, v17, v18, v19, v20, v21, v22, v23, undef, undef, undef]
structure Inv5 (W : World) (t0 t1 t3 t4 t5 t9 t10 t11 : Value) (D0 : List Deferred) (sl tup : Value) (n : Int) (x : Sett) (bb : Bool) (s : Array Bool) (a : Act) (w : World) : Prop where
  ex : ∃ v7 v8 v17 v18 v19 v20 v21 v22 v23, a = { tmps := fr5 t0 t1 t3 t4 t5 t9 t10 t11 v7 v8 v17 v18 v19 v20 v21 v22 v23, defers := D0 } ∧
    (s.getD 0 false = true → v18 = sl) ∧ (s.getD 1 false = true → v19 = sl) ∧ (s.getD 2 false = true → v20 = .int .i64 n) ∧ (s.getD 3 false = true → v21 = tup) ∧ (s.getD 4 false = true → v17 = tup) ∧ (s.getD 5 false = true → v22 = .agg (sa x)) ∧ (s.getD 6 false = true → v23 = .bool bb) ∧ (s.getD 9 false = true → v8 = .bool bb) ∧
    (s.getD 7 false = true → ∃ nb, v7 = .pointer (some ⟨nb, 0, none⟩) ∧ W.heap.size ≤ nb ∧ own? w nb = true ∧ row? w nb = if s.getD 8 false = true then sa x else sa zeroS)
  below : Below W.heap.size W w
  k8 : s.getD 8 false = true → s.getD 7 false = true
  sz : s.size = 10
theorem wpOp_new {P : Program} {ops : Array Oper} {Q : Exit → Act → World → Prop} {K : Act → World → Prop} {i : Nat} {o : Oper} {a : Act} {w w' : World} {v : Value} (ho : ops[i]? = some o) (hg : o.guard = none) (h : (execOp a.eval o).run P w = .ok (.value v) w') (hk : K (a.put o.dst v) w') : wpOp P ops Q i K a w := by
  unfold wpOp
  rw [ho]
  simp only [Region.wanted, hg, if_true]
  left
  unfold Oper.wp
  rw [h]
  exact hk
theorem wpOp_skip {P : Program} {ops : Array Oper} {Q : Exit → Act → World → Prop} {K : Act → World → Prop} {i : Nat} {o : Oper} {a : Act} {w w' : World} (ho : ops[i]? = some o) (hg : o.guard = none) (hd : o.dst = none) (h : (execOp a.eval o).run P w = .ok .skip w') (hk : K a w') : wpOp P ops Q i K a w := by
  unfold wpOp
  rw [ho]
  simp only [Region.wanted, hg, if_true]
  left
  unfold Oper.wp
  rw [h]
  simp only [Oper.upon, hd]
  exact hk
theorem wpOp_at {P : Program} {ops : Array Oper} {Q : Exit → Act → World → Prop} {K : Act → World → Prop} {i : Nat} {o : Oper} {a : Act} {w : World} (ho : ops[i]? = some o) (hg : o.guard = none) (h : o.wp P a w K Q) : wpOp P ops Q i K a w := by
  unfold wpOp
  rw [ho]
  simp only [Region.wanted, hg, if_true]
  exact .inl h
end Go.Proofs.Ytcjbopobgpfjlaa
