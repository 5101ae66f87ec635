/-
  The law RankThree: it answers true. No condition.
-/
import Derived.Test.YtcjbopobgpfjlaaRaI
namespace Go.Proofs.Ytcjbopobgpfjlaa
open Go.RowKit

set_option maxHeartbeats 1600000 in
theorem rthree_fn (p q r : Sett) : Fn Try.prog 7 #[.agg (sa p), .agg (sa q), .agg (sa r)] (.bool true) := by
  intro w
  have ht := fun h1 h2 => And.intro (grand_three p q r h1 h2) (grandI_trans p q r h1 h2)
  have hz := grandI_neg p r
  have bd : -1 ≤ grandI p r := by rw [grandI_key]; exact (cmpL_bd _ _).1
  have f1 := grand_fn p q
  have f2 := grand_fn q r
  have f3 := grand_fn p r
  have f4 := (grand_fn r p).at_eq (congrArg (Value.int .i64) hz)
  clear hz
  generalize grandI p q = n1 at *
  generalize grandI q r = n2 at *
  generalize grandI p r = n3 at *
  go_enter Try.func7, Try.ntmps7
  by_cases h1 : 0 < n1
  · have F1_ := hid f1
    clear f1
    have F2_ := hid f2
    clear f2
    have F3_ := hid f3
    clear f3
    have F4_ := hid f4
    clear f4
    have HT_ := hid ht
    clear ht
    go_wp2_with fail
    refine cutc_box3 fun W g1 _ g2 _ g3 _ _ hB => ?_
    refine F1_.out.c fun y => ?_
    dsimp only
    go_wp2_with (first | (go_at_call 15; refine alive7_fn.c fun y => ?_))
    go_ret
    exact ⟨rfl, hB _⟩
  · by_cases h2 : 0 < n2
    · have F1_ := hid f1
      clear f1
      have F2_ := hid f2
      clear f2
      have F3_ := hid f3
      clear f3
      have F4_ := hid f4
      clear f4
      have HT_ := hid ht
      clear ht
      go_wp2_with fail
      refine cutc_box3 fun W g1 _ g2 _ g3 _ _ hB => ?_
      refine F1_.out.c fun y => ?_
      dsimp only
      go_wp2_with fail
      refine F2_.out.c fun y => ?_
      dsimp only
      go_wp2_with (first | (go_at_call 15; refine alive7_fn.c fun y => ?_))
      go_ret
      exact ⟨rfl, hB _⟩
    · have h3 := ht (by omega) (by omega)
      by_cases h4 : n3 < 0
      · obtain rfl : n3 = -1 := by omega
        have F1_ := hid f1
        clear f1
        have F2_ := hid f2
        clear f2
        have F3_ := hid f3
        clear f3
        have F4_ := hid f4
        clear f4
        have HT_ := hid ht
        clear ht
        have H3_ := hid h3
        clear h3
        go_wp2_with fail
        refine cutc_box3 fun W g1 _ g2 _ g3 _ _ hB => ?_
        replace g3 : ∀ d, row? (gr W d) (w.heap.size + 1 + 1) = sa r := g3
        refine F1_.out.c fun y => ?_
        dsimp only
        go_wp2_with fail
        refine F2_.out.c fun y => ?_
        dsimp only
        go_wp2_with fail
        refine wp_region_gr W (by kernel_rfl) (by kernel_rfl) ⟨_, rfl⟩ ?_
        repeat (go_big_quiet_step ((first | (go_at_call 15; exact alive7_fn.q) | (go_at_call 18; first | with_reducible exact F3_.out.q | with_reducible exact F4_.out.q | with_reducible exact F1_.out.q | with_reducible exact F2_.out.q))))
        refine wpQuiet_nil ?_
        rintro _ ⟨z, rfl⟩
        go_wp2
        go_ret
        exact ⟨rfl, hB _⟩
      · obtain rfl : n1 = 0 := by omega
        obtain rfl : n2 = 0 := by omega
        obtain rfl : n3 = 0 := by omega
        · have F1_ := hid f1
          clear f1
          have F2_ := hid f2
          clear f2
          have F3_ := hid f3
          clear f3
          have F4_ := hid f4
          clear f4
          have HT_ := hid ht
          clear ht
          have H3_ := hid h3
          clear h3
          go_wp2_with fail
          refine cutc_box3 fun W g1 _ g2 _ g3 _ _ hB => ?_
          replace g3 : ∀ d, row? (gr W d) (w.heap.size + 1 + 1) = sa r := g3
          refine F1_.out.c fun y => ?_
          dsimp only
          go_wp2_with fail
          refine F2_.out.c fun y => ?_
          dsimp only
          go_wp2_with fail
          refine wp_region_gr W (by kernel_rfl) (by kernel_rfl) ⟨_, rfl⟩ ?_
          repeat (go_big_quiet_step ((first | (go_at_call 15; exact alive7_fn.q) | (go_at_call 18; first | with_reducible exact F3_.out.q | with_reducible exact F4_.out.q | with_reducible exact F1_.out.q | with_reducible exact F2_.out.q))))
          refine wpQuiet_nil ?_
          rintro _ ⟨z, rfl⟩
          go_wp2
          go_ret
          exact ⟨rfl, hB _⟩
end Go.Proofs.Ytcjbopobgpfjlaa
