/-
  The walks of the laws RankCompares, RankTurns, RankNever: each answers true. No condition.
-/
import Derived.Test.YtcjbopobgpfjlaaRaG
namespace Go.Proofs.Ytcjbopobgpfjlaa
open Go.RowKit

theorem turn_turn (n : Int) : turnI (turnI n) = n := by
  unfold turnI
  repeat' split
  all_goals omega
theorem cmpS_self (p : Sett) : cmpS p p = 6 := by
  unfold cmpS wayI
  rw [if_pos rfl, if_neg (by omega), if_neg (by omega), first2]
  have h1 : cmpP p.s p.s = 0 := (cmpP_zero _ _).2 rfl
  have h2 : cmpI p.r.n p.r.n = 0 := (cmpI_zero _ _).2 rfl
  simp [h1, h2]
set_option maxHeartbeats 800000 in
theorem compares_fn (p q : Sett) (hp : inR p.n) (hq : inR q.n) : Fn Try.prog 3 #[.agg (sa p), .agg (sa q)] (.bool true) := by
  intro w
  have f1 := cmpS_fn p q hp hq
  have f2 := rcmp_fn p q hp hq
  have f3 := grand_fn p q
  have f4 := rgrand_fn p q
  have f5 := lessS_fn p q hp hq
  have f6 := rlessS_fn p q hp hq
  have F1_ := hid f1
  clear f1
  have F2_ := hid f2
  clear f2
  have F3_ := hid f3
  clear f3
  have F4_ := hid f4
  clear f4
  have F5_ := hid f5
  clear f5
  have F6_ := hid f6
  clear f6
  clear hp hq
  go_enter Try.func3, Try.ntmps3
  go_wp2
  refine cut_box2 fun W g1 _ g2 _ _ hB => ?_
  refine wp_region_gr W (by kernel_rfl) (by kernel_rfl) ⟨_, rfl⟩ ?_
  repeat (go_big_quiet_step ((first | (go_at_call 15; exact alive7_fn.q) | (go_at_call 16; exact F1_.out.q) | (go_at_call 17; exact F2_.out.q) | (go_at_call 18; exact F3_.out.q) | (go_at_call 19; exact F4_.out.q) | (go_at_call 20; exact F5_.out.q) | (go_at_call 21; exact F6_.out.q))))
  refine wpQuiet_nil ?_
  rintro _ ⟨y, rfl⟩
  go_wp2
  go_ret
  exact ⟨rfl, hB _⟩
end Go.Proofs.Ytcjbopobgpfjlaa
