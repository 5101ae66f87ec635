/-
  The law DecideAll: it answers true. No condition.
-/
import Derived.Test.YtmibpmijcghpaaaBeM
import Derived.Test.YtmibpmijcghpaaaRegV
namespace Go.Proofs.Ytmibpmijcghpaaa
open Go.RowKit

set_option maxRecDepth 100000 in
set_option maxHeartbeats 2000000 in
theorem lall_fn (me : Sett) (xs : List Cho) (hl : xs.length ≤ 9223372036854775807) (hR : ∀ k, k < xs.length → inR (xs.getD k zeroCh).s.n) (hM : inR me.n) (ss : List Int) (hs : ss.length ≤ 9223372036854775807) (a a2 : Option Addr) (cap cap2 : Nat) (w : World) (hX : RowsIn cha zeroCh 33 w a xs) (hS : RowsIn i1 0 1 w a2 ss) :
    Calls Try.prog 3 #[.agg (sa me), .slice a xs.length cap, .slice a2 ss.length cap2] w fun e w' => e = .returned (.bool true) ∧ Below w.heap.size w w' := by
  have hX' := fun d => hX.gr (by decide) d
  have hS' := fun d => hS.gr (by decide) d
  clear hX hS
  have HX'_ := hid hX'
  clear hX'
  have HS'_ := hid hS'
  clear hS'
  have HR_ := hid hR
  clear hR
  have HM_ := hid hM
  clear hM
  go_enter Try.func3, Try.ntmps3
  rw [gr_self w]
  go_upto_region 1 with (fail)
  obtain ⟨W0, c, hE, ec, r3, u0⟩ := alloc1 w w (sa me) 29
  rw [hE]
  simp only [ec]
  clear hE ec
  have fin : ∀ d, Below (gr w w).heap.size (gr w w) (gr W0 d) := fun d => by
    obtain ⟨y, hy⟩ := u0 d
    rw [hy, ← gr_self w]
    exact gr_below w y
  by_cases q1 : 60 < xs.length
  · clear u0
    have FIN_ := hid fin
    clear fin
    go_wp2_with fail
    refine alive10_fn.c fun m => ?_
    dsimp only
    go_wp2
    go_ret
    exact ⟨rfl, FIN_.out _⟩
  by_cases q2 : 100 < ss.length
  · clear u0
    have FIN_ := hid fin
    clear fin
    go_wp2_with fail
    refine alive10_fn.c fun m => ?_
    dsimp only
    go_wp2
    go_ret
    exact ⟨rfl, FIN_.out _⟩
  have FIN_ := hid fin
  clear fin
  have U0_ := hid u0
  clear u0
  go_upto_region 3 with (fail)
  go_cut [7] (fun v7 wr => ∃ V a' cap', v7 = .slice a' xs.length cap' ∧ (∀ d, RowsIn i1 0 1 (gr V d) a' (allP me xs ss xs.length)) ∧ (∀ d, ∃ d', gr V d = gr W0 d') ∧ wr = gr V V)
  case first =>
    refine wp_region_fork W0 [1, 3] 0 2 [4, 5] (by kernel_rfl) (by kernel_rfl) (fun c a b w hd h => And.intro (hd.symm.trans (And.left h)) (And.right h)) ⟨_, rfl⟩ rfl rfl rfl ?_
    simp only [selL, List.filterMap_cons, List.filterMap_nil, List.getElem?_cons_zero, List.getElem?_cons_succ]
    refine (show wpQuiet _ _ _ _ [_, _] _ from ?_)
    repeat (go_big_quiet_step (fail))
    refine wpQuiet_nil ?_
    rintro _ ⟨y, rfl⟩
    constructor
    · go_wp2_with fail
      refine own_c xs (by omega) a cap (upX U0_.out HX'_.out) ?_
      intro W1 a' cap' hX1 u1
      dsimp only
      have r3 := upr u1 r3
      have hS1 := upI u1 (upI U0_.out HS'_.out)
      have HX1_ := hid hX1
      clear hX1
      have U1_ := hid u1
      clear u1
      have HS1_ := hid hS1
      clear hS1
      go_wp2_with fail
      refine Ints.c (dall_c me xs (by omega) HR_.out HM_.out ss (by omega) HX1_.out HS1_.out) fun W2 a3 cap3 hI u2 => ?_
      dsimp only
      simp only [allP_len]
      have u := up2 u2 U1_.out
      clear r3 u2
      have HI_ := hid hI
      clear hI
      have U_ := hid u
      clear u
      go_wp2
      go_meet
      case rel => exact ⟨W2, a3, cap3, rfl, HI_.out, U_.out, rfl⟩
    · go_wp2_with fail
      refine own_c xs (by omega) a cap (upX U0_.out HX'_.out) ?_
      intro W1 a' cap' hX1 u1
      dsimp only
      have r3 := upr u1 r3
      have hS1 := upI u1 (upI U0_.out HS'_.out)
      have HX1_ := hid hX1
      clear hX1
      have U1_ := hid u1
      clear u1
      have HS1_ := hid hS1
      clear hS1
      go_wp2_with fail
      refine Ints.c (dall_c me xs (by omega) HR_.out HM_.out ss (by omega) HX1_.out HS1_.out) fun W2 a3 cap3 hI u2 => ?_
      dsimp only
      simp only [allP_len]
      have u := up2 u2 U1_.out
      clear r3 u2
      have HI_ := hid hI
      clear hI
      have U_ := hid u
      clear u
      go_wp2
      go_meet
      case rel => exact ⟨W2, a3, cap3, rfl, HI_.out, U_.out, rfl⟩
  case rest =>
    obtain ⟨V, a', cap', rfl, hI, u, rfl⟩ := hcut
    have r3 := upr u r3
    have u := up2 u U0_.out
    have hX1 := upX u HX'_.out
    have hS1 := upI u HS'_.out
    clear U0_
    have U_ := hid u
    clear u
    have HX1_ := hid hX1
    clear hX1
    have HS1_ := hid hS1
    clear hS1
    have HI_ := hid hI
    clear hI
    go_wp2_with fail
    refine Ints.c (rall10_c me xs (by omega) HR_.out HM_.out ss (by omega) HX1_.out HS1_.out) fun W2 a3 cap3 hJ u2 => ?_
    dsimp only
    simp only [allP_len]
    have hI := upI u2 HI_.out
    have hS2 := upI u2 HS1_.out
    have u := up2 u2 U_.out
    clear U_ HX1_ HS1_ HI_ u2
    have hle := allP_len me xs ss xs.length
    generalize allP me xs ss xs.length = cs at *
    have f1 := ints_fn cs (by omega) a' a3 cap' cap3 hI hJ
    have f2 := masters_fn cs (by omega) a' cap' hI
    have f3 := rmasters_fn cs (by omega) a3 cap3 hJ
    have f4 := masters_fn ss (by omega) a2 cap2 hS2
    have f5 := rmasters_fn ss (by omega) a2 cap2 hS2
    rw [hle] at f1 f2 f3
    generalize mst cs xs.length = m1 at *
    generalize mst ss ss.length = m2 at *
    clear hI hJ hS2 hle r3 HR_ HM_ HX'_ HS'_
    have F1_ := hid f1
    clear f1
    have F2_ := hid f2
    clear f2
    have F3_ := hid f3
    clear f3
    have F4_ := hid f4
    clear f4
    have F5_ := hid f5
    clear f5
    have U_ := hid u
    clear u
    go_wp2_with fail
    refine alive10_fn.c fun m => ?_
    dsimp only
    go_wp2_with fail
    refine F1_.out.c fun m => ?_
    dsimp only
    go_wp2_with fail
    refine F2_.out.c fun m => ?_
    dsimp only
    go_wp2_with fail
    refine F3_.out.c fun m => ?_
    dsimp only
    go_wp2_with fail
    refine F4_.out.c fun m => ?_
    dsimp only
    go_wp2_with fail
    refine F5_.out.c fun m => ?_
    dsimp only
    go_wp2
    go_ret
    refine ⟨rfl, ?_⟩
    obtain ⟨y, hy⟩ := U_.out m
    rw [hy, ← gr_self w]
    exact gr_below w y
end Go.Proofs.Ytmibpmijcghpaaa
