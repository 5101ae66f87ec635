/-
  The walks of decide.Port and of the reference's Port. No condition but the numbers' range, and that there are at most 1000.
-/
import Derived.Test.YtmibpmijcghpaaaBeH
namespace Go.Proofs.Ytmibpmijcghpaaa
open Go.RowKit

theorem alloc1 (W d : World) (A : Array Value) (S : TypeId) :
    ∃ W1 c, (gr W d).alloc (.cells A S) = gr W1 W1 ∧ (gr W d).heap.size = c ∧ (∀ d, row? (gr W1 d) c = A) ∧ (∀ d, ∃ d', gr W1 d = gr W d') :=
  ⟨(gr W d).alloc (.cells A S), _, gr_self _, rfl, gr_row (by simp [row_alloc, rowOf]) (by simp), fun e => gr_ex (((gr_below W d).alloc (gr_below W d).size _).trans ((gr_below _ e).mono (by have := (gr_below W d).size; simp; omega)))⟩
set_option maxRecDepth 100000 in
set_option maxHeartbeats 2000000 in
theorem port_fn (me : Sett) (xs : List Cho) (hl : xs.length ≤ 1000) (hR : ∀ k, k < xs.length → inR (xs.getD k zeroCh).s.n) (hM : inR me.n) {W : World} {a : Option Addr} {cap : Nat} (hX : ∀ d, RowsIn cha zeroCh 33 (gr W d) a xs) (k st : Int) :
    Fg Try.prog 16 #[.agg (sa me), .slice a xs.length cap, .int .i64 k, .int .i64 st] (.int .i64 (portC me xs k st)) W := by
  intro d
  have HX_ := hid hX
  clear hX
  have HR_ := hid hR
  clear hR
  have HM_ := hid hM
  clear hM
  go_enter Try.func16, Try.ntmps16
  go_upto_region 1 with (fail)
  obtain ⟨W0, c, hE, ec, r4, u0⟩ := alloc1 W d (sa me) 29
  rw [hE]
  simp only [ec]
  clear hE ec
  go_wp2_with fail
  refine decider_c me xs hl HR_.out a cap (upX u0 HX_.out) ?_
  intro W1 c3 c8 c5 c7 c6 hd hu
  dsimp only
  have hf := dec_fn me xs hl HR_.out HM_.out hd k st
  have hu := up2 hu u0
  clear hd HR_ HM_ HX_ u0
  have HF_ := hid hf
  clear hf
  have HU_ := hid hu
  clear hu
  go_wp2_with fail
  refine HF_.out.c fun m => ?_
  dsimp only
  go_wp2
  go_ret
  exact ⟨rfl, HU_.out _⟩
end Go.Proofs.Ytmibpmijcghpaaa
