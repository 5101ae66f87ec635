/-
  The region of BestOrder in which two ports' bests are told: any order: what holds while it runs. No condition.
-/
import Derived.Test.YtcjbopobgpfjlaaBqO
namespace Go.Proofs.Ytcjbopobgpfjlaa
open Go.RowKit

def pblk (v : Value) : Nat := match v with | .pointer (some a) => a.block | _ => 0
/-- The frame while the region runs. -/
def fr17 (u : Nat → Value) (t0 t1 t3 t5 t6 : Value) (v9 v10 v66 v67 v68 v69 v70 v71 : Value) : Array Value :=
  #[t0, t1, undef, t3, u 4, t5, t6, u 7, u 8, v9, v10, undef, undef, undef, u 14, u 15, u 16, u 17, u 18, u 19, u 20, u 21, undef, u 23, u 24, u 25, u 26, u 27, u 28, u 29, u 30, u 31, u 32, u 33, u 34, u 35, u 36, u 37, u 38, u 39, u 40, u 41, u 42, u 43, u 44, u 45, u 46, u 47, u 48, u 49, u 50, u 51, u 52, u 53, u 54, u 55, u 56, u 57, u 58, u 59, u 60, u 61, u 62, u 63, u 64, u 65, v66, v67, v68, v69, v70, v71, undef, undef, undef, undef, undef, undef, undef, undef, undef, undef, undef, undef, undef, undef, undef, undef, undef, undef, undef, undef, undef, undef, undef, undef, undef, undef, undef, undef, undef, undef, undef, undef, undef, undef, undef, undef, undef, undef, undef, undef, undef, undef, undef, undef, undef, undef, undef, undef, undef, undef, undef, undef, undef]
structure Inv17 (V : World) (u : Nat → Value) (t0 t1 t3 t5 t6 : Value) (D0 : List Deferred) (B : Cho) (s : Array Bool) (a : Act) (w : World) : Prop where
  ex : ∃ v9 v10 v66 v67 v68 v69 v70 v71, a = { tmps := fr17 u t0 t1 t3 t5 t6 v9 v10 v66 v67 v68 v69 v70 v71, defers := D0 } ∧
    (s.getD 0 false = true → v66 = t0) ∧ (s.getD 1 false = true → v67 = t1) ∧ (s.getD 2 false = true → v68 = .agg (cha B)) ∧ (s.getD 3 false = true → v69 = t5) ∧ (s.getD 4 false = true → v70 = t1) ∧ (s.getD 5 false = true → v71 = .agg (cha B)) ∧
    (s.getD 6 false = true → ∃ nb, v9 = .pointer (some ⟨nb, 0, none⟩) ∧ V.heap.size ≤ nb ∧ own? w nb = true ∧ row? w nb = if s.getD 8 false = true then cha B else cha zeroCh) ∧
    (s.getD 7 false = true → ∃ nb, v10 = .pointer (some ⟨nb, 0, none⟩) ∧ V.heap.size ≤ nb ∧ own? w nb = true ∧ row? w nb = if s.getD 9 false = true then cha B else cha zeroCh) ∧
    (s.getD 6 false = true → s.getD 7 false = true → v9 ≠ v10)
  below : Below V.heap.size V w
  k8 : s.getD 8 false = true → s.getD 6 false = true
  k9 : s.getD 9 false = true → s.getD 7 false = true
  sz : s.size = 10
end Go.Proofs.Ytcjbopobgpfjlaa
