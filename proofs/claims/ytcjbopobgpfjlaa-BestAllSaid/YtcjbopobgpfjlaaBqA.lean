/-
  The law BestAll: it answers true. No condition.
-/
import Derived.Test.YtcjbopobgpfjlaaBpE
namespace Go.Proofs.Ytcjbopobgpfjlaa
open Go.RowKit

theorem upX {W0 W1 : World} (u : ∀ d, ∃ d', gr W1 d = gr W0 d') {a : Option Addr} {xs : List Cho} (h : ∀ d, RowsIn cha zeroCh 33 (gr W0 d) a xs) : ∀ d, RowsIn cha zeroCh 33 (gr W1 d) a xs := fun d => by
  obtain ⟨x, hx⟩ := u d
  rw [hx]
  exact h x
set_option maxRecDepth 100000 in
set_option maxHeartbeats 2000000 in
theorem lball_fn (xs : List Cho) (hl : xs.length ≤ 9223372036854775807) (hR : ∀ k, k < xs.length → inR (xs.getD k zeroCh).s.n) (a : Option Addr) (cap : Nat) (w : World) (hX : RowsIn cha zeroCh 33 w a xs) :
    Calls Try.prog 11 #[.slice a xs.length cap] w fun e w' => e = .returned (.bool true) ∧ Below w.heap.size w w' := by
  have hX' := fun d => hX.gr (by decide) d
  clear hX
  have HX'_ := hid hX'
  clear hX'
  have HR_ := hid hR
  clear hR
  go_enter Try.func11, Try.ntmps11
  rw [gr_self w]
  go_wp2_with fail
  refine alive09_fn.c fun m => ?_
  dsimp only
  by_cases q1 : 60 < xs.length
  · go_wp2
    go_ret
    refine ⟨rfl, ?_⟩
    rw [← gr_self w]
    exact gr_below w _
  go_wp2_with fail
  refine own_c xs (by omega) a cap HX'_.out ?_
  intro W1 a' cap' hX1 u1
  dsimp only
  have HX1_ := hid hX1
  clear hX1
  have U1_ := hid u1
  clear u1
  go_wp2_with fail
  refine (all_fn xs (by omega) HR_.out a' cap' HX1_.out).c fun m => ?_
  dsimp only
  go_wp2_with fail
  refine (rall_fn xs (by omega) HR_.out a cap (upX U1_.out HX'_.out)).c fun m => ?_
  dsimp only
  go_wp2
  go_ret
  refine ⟨rfl, ?_⟩
  obtain ⟨y, hy⟩ := U1_.out m
  rw [hy, ← gr_self w]
  exact gr_below w y
end Go.Proofs.Ytcjbopobgpfjlaa
