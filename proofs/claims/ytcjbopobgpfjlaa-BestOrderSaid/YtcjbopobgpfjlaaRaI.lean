/-
  The laws RankTurns, RankNever, RankThree: each answers true. No condition.
-/
import Derived.Test.YtcjbopobgpfjlaaRaH
namespace Go.Proofs.Ytcjbopobgpfjlaa
open Go.RowKit

theorem cmpL_app : ∀ (l m a b : List Int), l.length = m.length → cmpL (l ++ a) (m ++ b) = if cmpL l m = 0 then cmpL a b else cmpL l m
  | [], [], _, _, _ => by simp [cmpL]
  | x :: l, y :: m, a, b, h => by
    have ih := cmpL_app l m a b (by simpa using h)
    simp only [List.cons_append, cmpL, ih]
    by_cases e : x = y
    · simp [e]
    · have : cmpI x y ≠ 0 := fun h => e ((cmpI_zero x y).1 h)
      simp [e, this]
def keyS (p : Sett) : List Int := numsS p ++ p.g.l
theorem keyS_length (p : Sett) : (keyS p).length = 13 := by simp [keyS, numsS, p.g.h]
theorem grandI_key (p q : Sett) : grandI p q = cmpL (keyS p) (keyS q) := by
  rw [grandI_eq]
  unfold keyS
  rw [cmpL_app (numsS p) (numsS q) _ _ rfl]
  rfl
theorem grandI_neg (p q : Sett) : grandI q p = -grandI p q := by
  rw [grandI_key, grandI_key]
  exact cmpL_neg _ _ (by rw [keyS_length, keyS_length])
theorem grandI_zero (p q : Sett) : grandI p q = 0 ↔ keyS p = keyS q := by
  rw [grandI_key]
  exact cmpL_zero _ _ (by rw [keyS_length, keyS_length])
theorem keyS_grand {p q : Sett} (h : keyS p = keyS q) : p.g = q.g := by
  have := congrArg (List.drop 5) h
  exact Clk.ext' this
theorem grandI_trans (p q r : Sett) (h1 : grandI p q ≤ 0) (h2 : grandI q r ≤ 0) : grandI p r ≤ 0 := by
  rw [grandI_key] at *
  exact cmpL_trans _ _ _ (by rw [keyS_length, keyS_length]) (by rw [keyS_length, keyS_length]) h1 h2
theorem grand_three (p q r : Sett) (h1 : grandI p q ≤ 0) (h2 : grandI q r ≤ 0) : grandI p r < 0 ∨ (grandI p q = 0 ∧ grandI q r = 0) := by
  by_cases h : grandI p r < 0
  · exact .inl h
  have h3 := grandI_trans p q r h1 h2
  have h4 : grandI p r = 0 := by omega
  have e := (grandI_zero p r).1 h4
  have h5 : grandI q r = grandI q p := by rw [grandI_key, grandI_key, e]
  have h6 := grandI_neg p q
  right
  constructor <;> omega
theorem first2_neg (a b : Int) : firstNZ [-a, -b] = -firstNZ [a, b] := by
  rw [first2, first2]
  split <;> split <;> omega
theorem cmpS_turn (p q : Sett) : cmpS q p = turnI (cmpS p q) := by
  unfold cmpS
  by_cases h : p.g = q.g
  · rw [if_pos h, if_pos h.symm]
    unfold wayI
    by_cases h1 : q.n < p.n
    · rw [if_neg (by omega), if_pos h1, if_pos h1]
      split <;> rfl
    by_cases h2 : p.n < q.n
    · rw [if_pos h2, if_neg h1, if_pos h2]
      split
      · rfl
      · rw [turn_turn]
    rw [if_neg h2, if_neg h1, if_neg h1, if_neg h2, cmpP_neg, cmpI_neg p.r.n q.r.n, first2_neg]
    generalize firstNZ [cmpP p.s q.s, cmpI p.r.n q.r.n] = f
    by_cases f1 : f = -1
    · subst f1; rfl
    by_cases f2 : f = 1
    · subst f2; rfl
    rw [if_neg (by omega), if_neg (by omega), if_neg f1, if_neg f2]
    rfl
  · rw [if_neg h, if_neg (Ne.symm h)]
    have h0 : grandI p q ≠ 0 := fun e => h (keyS_grand ((grandI_zero p q).1 e))
    rw [grandI_neg p q]
    by_cases h1 : grandI p q < 0
    · rw [if_neg (by omega), if_pos h1]; rfl
    · rw [if_pos (by omega), if_neg h1]; rfl

set_option maxHeartbeats 800000 in
theorem turns_fn (p q : Sett) (n : Int) (hp : inR p.n) (hq : inR q.n) : Fn Try.prog 4 #[.agg (sa p), .agg (sa q), .int .i64 n] (.bool true) := by
  intro w
  have f1 := cmpS_fn p q hp hq
  have f2 := (cmpS_fn q p hq hp).at_eq (congrArg (Value.int .i64) (cmpS_turn p q))
  have f3 := (cmpS_fn p p hp hp).at_eq (congrArg (Value.int .i64) (cmpS_self p))
  have tt := turn_turn n
  generalize cmpS p q = c at *
  clear hp hq
  have F1_ := hid f1
  clear f1
  have F2_ := hid f2
  clear f2
  have F3_ := hid f3
  clear f3
  go_enter Try.func4, Try.ntmps4
  go_wp2
  refine cut_box2 fun W g1 _ g2 _ _ hB => ?_
  refine wp_region_gr W (by kernel_rfl) (by kernel_rfl) ⟨_, rfl⟩ ?_
  repeat (go_big_quiet_step ((first | (go_at_call 15; exact alive7_fn.q) | (go_at_call 22; exact (turn_fn _).q) | (go_at_call 23; exact (rturn_fn _).q) | (go_at_call 16; first | with_reducible exact F1_.out.q | with_reducible exact F2_.out.q | with_reducible exact F3_.out.q))))
  refine wpQuiet_nil ?_
  rintro _ ⟨y, rfl⟩
  go_wp2
  go_ret
  exact ⟨rfl, hB _⟩
set_option maxHeartbeats 800000 in
theorem never_fn (p q : Sett) (hp : inR p.n) (hq : inR q.n) : Fn Try.prog 9 #[.agg (sa p), .agg (sa q)] (.bool true) := by
  intro w
  have f1 := cmpS_fn p q hp hq
  have f2 := lessS_fn p q hp hq
  have f3 := lessS_fn q p hq hp
  have f4 := (lessS_fn p p hp hp).at_eq (u := .bool false) (by unfold lessS; rw [cmpS_self]; rfl)
  have e1 : lessS p q = (decide (cmpS p q = 1) || decide (cmpS p q = 2)) := rfl
  have e2 : lessS q p = (decide (turnI (cmpS p q) = 1) || decide (turnI (cmpS p q) = 2)) := by unfold lessS; rw [cmpS_turn]
  generalize cmpS p q = c at *
  generalize lessS p q = l at *
  generalize lessS q p = m at *
  clear hp hq
  by_cases h1 : c = 1 ∨ c = 2
  · have hl : l = true := by rw [e1]; rcases h1 with rfl | rfl <;> rfl
    have hm : m = false := by rw [e2]; rcases h1 with rfl | rfl <;> rfl
    subst hl hm
    clear e1 e2
    rcases h1 with rfl | rfl
    all_goals
      have F1_ := hid f1
      clear f1
      have F2_ := hid f2
      clear f2
      have F3_ := hid f3
      clear f3
      have F4_ := hid f4
      clear f4
      go_enter Try.func9, Try.ntmps9
      go_wp2
      refine cut_box2 fun W g1 _ g2 _ _ hB => ?_
      refine wp_region_gr W (by kernel_rfl) (by kernel_rfl) ⟨_, rfl⟩ ?_
      repeat (go_big_quiet_step ((first | (go_at_call 15; exact alive7_fn.q) | (go_at_call 20; first | with_reducible exact F2_.out.q | with_reducible exact F3_.out.q | with_reducible exact F4_.out.q) | (go_at_call 16; exact F1_.out.q))))
      refine wpQuiet_nil ?_
      rintro _ ⟨y, rfl⟩
      go_wp2
      go_ret
      exact ⟨rfl, hB _⟩
  · have hl : l = false := by rw [e1, decide_eq_false (fun h => h1 (.inl h)), decide_eq_false (fun h => h1 (.inr h))]; rfl
    have b1 : (c == 1) = false := by simpa using fun h => h1 (.inl h)
    have b2 : (c == 2) = false := by simpa using fun h => h1 (.inr h)
    subst hl
    clear e1 e2 h1
    have F1_ := hid f1
    clear f1
    have F2_ := hid f2
    clear f2
    have F3_ := hid f3
    clear f3
    have F4_ := hid f4
    clear f4
    go_enter Try.func9, Try.ntmps9
    go_wp2
    refine cut_box2 fun W g1 _ g2 _ _ hB => ?_
    refine wp_region_gr W (by kernel_rfl) (by kernel_rfl) ⟨_, rfl⟩ ?_
    repeat (go_big_quiet_step ((first | (go_at_call 15; exact alive7_fn.q) | (go_at_call 20; first | with_reducible exact F2_.out.q | with_reducible exact F3_.out.q | with_reducible exact F4_.out.q) | (go_at_call 16; exact F1_.out.q))))
    refine wpQuiet_nil ?_
    rintro _ ⟨y, rfl⟩
    go_wp2
    go_ret
    exact ⟨rfl, hB _⟩
end Go.Proofs.Ytcjbopobgpfjlaa
