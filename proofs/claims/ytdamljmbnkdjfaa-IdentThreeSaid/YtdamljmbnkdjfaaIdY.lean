/-
  The walks of the laws IdentNames, IdentOrders, IdentThree: they answer true. No condition.
-/
import Derived.Test.YtdamljmbnkdjfaaIdL
import Derived.Test.YtdamljmbnkdjfaaIdC
namespace Go.Proofs.Ytdamljmbnkdjfaa
open Go.RowKit

theorem names_plain (c d : Clk) : ((strOfNums (hexL c.l)).toList == (strOfNums (hexL d.l)).toList) = decide (c = d) := by
  rw [str_beq, decide_eq_decide]
  constructor
  · intro h
    rw [← readR_text c, h, readR_text]
  · intro h; rw [h]
set_option maxRecDepth 100000 in
set_option maxHeartbeats 800000 in
theorem names_fn (c d : Clk) : Fn Try.prog 5 #[.agg (ca c), .agg (ca d)] (.bool true) := by
  intro w
  have hn := names_plain c d
  have hz := text_size c
  go_enter Try.func5, Try.ntmps5
  go_wp2
  refine cut_box2 fun W g1 _ g2 _ _ hB => ?_
  refine wp_region_gr W (by kernel_rfl) (by kernel_rfl) ⟨_, rfl⟩ ?_
  repeat (go_big_quiet_step ((go_at_call 12; exact (text_fn _).q)))
  refine wpQuiet_nil ?_
  rintro _ ⟨y, rfl⟩
  go_wp2_with (first | (go_at_call 13; refine alive_fn.c fun y => ?_))
  go_ret
  exact ⟨rfl, hB _⟩

set_option maxRecDepth 100000 in
set_option maxHeartbeats 1600000 in
theorem orders_fn (p q : Prt) : Fn Try.prog 6 #[.agg (pa p), .agg (pa q)] (.bool true) := by
  intro w
  obtain ⟨n, hn⟩ : ∃ n, n = cmpC p.c q.c := ⟨_, rfl⟩
  obtain ⟨m, hm⟩ : ∃ m, m = cmpP p q := ⟨_, rfl⟩
  have b1 := cmpC_bd p.c q.c
  have b2 := cmpP_bd p q
  have z1 : (n == 0) = decide (p.c = q.c) := by rw [hn, Bool.eq_iff_iff]; simp [cmpC_zero]
  have z2 : (m == 0) = decide (p = q) := by rw [hm, Bool.eq_iff_iff]; simp [cmpP_zero]
  rw [← hn] at b1
  rw [← hm] at b2
  obtain ⟨b1a, b1b⟩ := b1
  obtain ⟨b2a, b2b⟩ := b2
  have f1 := (cmpC_fn p.c q.c).at_eq (congrArg (Value.int .i64) hn.symm)
  have f2 := (rcmpC_fn p.c q.c).at_eq (congrArg (Value.int .i64) hn.symm)
  have f3 := (cmpP_fn p q).at_eq (congrArg (Value.int .i64) hm.symm)
  have f4 := (rcmpP_fn p q).at_eq (congrArg (Value.int .i64) hm.symm)
  have f5 := (cmpC_fn q.c p.c).at_eq (congrArg (Value.int .i64) (show _ = -n by rw [cmpC_neg, hn]))
  have f6 := (cmpP_fn q p).at_eq (congrArg (Value.int .i64) (show _ = -m by rw [cmpP_neg, hm]))
  have F1_ := hid f1
  clear f1
  have F2_ := hid f2
  clear f2
  have F3_ := hid f3
  clear f3
  have F4_ := hid f4
  clear f4
  have F5_ := hid f5
  clear f5
  have F6_ := hid f6
  clear f6
  clear hn hm
  go_enter Try.func6, Try.ntmps6
  go_wp2
  refine cut_box2 fun W g1 _ g2 _ _ hB => ?_
  refine wp_region_gr W (by kernel_rfl) (by kernel_rfl) ⟨_, rfl⟩ ?_
  repeat (go_big_quiet_step ((first | (go_at_call 17; exact F1_.out.q) | (go_at_call 18; exact F3_.out.q))))
  refine wpQuiet_nil ?_
  rintro _ ⟨y, rfl⟩
  go_wp2_with fail
  refine F2_.out.c fun y => ?_
  dsimp only
  go_wp2_with fail
  refine F4_.out.c fun y => ?_
  dsimp only
  go_wp2_with fail
  refine F6_.out.c fun y => ?_
  dsimp only
  go_wp2_with fail
  refine F5_.out.c fun y => ?_
  dsimp only
  go_wp2_with fail
  refine wp_region_gr W (by kernel_rfl) (by kernel_rfl) ⟨_, rfl⟩ ?_
  repeat (go_big_quiet_step ((first | (go_at_call 13; exact alive_fn.q) | (go_at_call 16; exact (zero_fn _).q))))
  refine wpQuiet_nil ?_
  rintro _ ⟨z, rfl⟩
  go_wp2
  go_ret
  exact ⟨rfl, hB _⟩
end Go.Proofs.Ytdamljmbnkdjfaa
