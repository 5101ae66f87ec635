/-
  The walk of the law IdentThree: it answers true. No condition.
-/
import Derived.Test.YtdamljmbnkdjfaaIdY
namespace Go.Proofs.Ytdamljmbnkdjfaa
open Go.RowKit

theorem three_plain (p q r : Prt) (h1 : cmpP p q ≤ 0) (h2 : cmpP q r ≤ 0) (h3 : cmpP p r = 0) : p = q ∧ q = r := by
  have e := (cmpP_zero p r).1 h3
  subst e
  have h4 := cmpP_neg p q
  have h5 := (cmpP_zero p q).1 (by omega)
  exact ⟨h5, h5.symm⟩
set_option maxRecDepth 100000 in
set_option maxHeartbeats 1600000 in
theorem three_fn (p q r : Prt) : Fn Try.prog 8 #[.agg (pa p), .agg (pa q), .agg (pa r)] (.bool true) := by
  intro w
  have ht := fun h1 h2 => @cmpP_trans p q r h1 h2
  have hz := three_plain p q r
  have f1 := cmpP_fn p q
  have f2 := cmpP_fn q r
  have f3 := cmpP_fn p r
  generalize cmpP p q = n1 at *
  generalize cmpP q r = n2 at *
  generalize cmpP p r = n3 at *
  go_enter Try.func8, Try.ntmps8
  by_cases h1 : 0 < n1
  · have F1_ := hid f1
    clear f1
    have F2_ := hid f2
    clear f2
    have F3_ := hid f3
    clear f3
    have HT_ := hid ht
    clear ht
    have HZ_ := hid hz
    clear hz
    go_wp2_with fail
    refine cutc_box3 fun W g1 _ g2 _ g3 _ _ hB => ?_
    refine F1_.out.c fun y => ?_
    dsimp only
    go_wp2_with (first | (go_at_call 13; refine alive_fn.c fun y => ?_))
    go_ret
    exact ⟨rfl, hB _⟩
  · by_cases h2 : 0 < n2
    · have F1_ := hid f1
      clear f1
      have F2_ := hid f2
      clear f2
      have F3_ := hid f3
      clear f3
      have HT_ := hid ht
      clear ht
      have HZ_ := hid hz
      clear hz
      go_wp2_with fail
      refine cutc_box3 fun W g1 _ g2 _ g3 _ _ hB => ?_
      refine F1_.out.c fun y => ?_
      dsimp only
      go_wp2_with fail
      refine F2_.out.c fun y => ?_
      dsimp only
      go_wp2_with (first | (go_at_call 13; refine alive_fn.c fun y => ?_))
      go_ret
      exact ⟨rfl, hB _⟩
    · have h3 := ht (by omega) (by omega)
      by_cases h4 : n3 < 0
      · have F1_ := hid f1
        clear f1
        have F2_ := hid f2
        clear f2
        have F3_ := hid f3
        clear f3
        have HT_ := hid ht
        clear ht
        have HZ_ := hid hz
        clear hz
        go_wp2_with fail
        refine cutc_box3 fun W g1 _ g2 _ g3 _ _ hB => ?_
        refine F1_.out.c fun y => ?_
        dsimp only
        go_wp2_with fail
        refine F2_.out.c fun y => ?_
        dsimp only
        go_wp2_with (first | (go_at_call 13; refine alive_fn.c fun y => ?_) | (go_at_call 18; refine F3_.out.c fun y => ?_))
        go_ret
        exact ⟨rfl, hB _⟩
      · obtain ⟨e1, e2⟩ := hz (by omega) (by omega) (by omega)
        subst e1
        subst e2
        have F1_ := hid f1
        clear f1
        have F2_ := hid f2
        clear f2
        have F3_ := hid f3
        clear f3
        have HT_ := hid ht
        clear ht
        have HZ_ := hid hz
        clear hz
        go_wp2_with fail
        refine cutc_box3 fun W g1 _ g2 _ g3 _ _ hB => ?_
        refine F1_.out.c fun y => ?_
        dsimp only
        go_wp2_with fail
        refine F2_.out.c fun y => ?_
        dsimp only
        go_wp2_with (first | (go_at_call 13; refine alive_fn.c fun y => ?_) | (go_at_call 18; refine F3_.out.c fun y => ?_))
        go_ret
        exact ⟨rfl, hB _⟩
end Go.Proofs.Ytdamljmbnkdjfaa
