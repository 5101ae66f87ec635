/-
  The order of clocks and ports as plain laws: the other way round, who is alike, of three. No program, no condition.
-/
import Derived.Test.YtcjbopobgpfjlaaIdA
namespace Go.Proofs.Ytcjbopobgpfjlaa
open Go.RowKit

theorem cmpI_neg (a b : Int) : cmpI b a = -cmpI a b := by unfold cmpI; split <;> split <;> (try split) <;> omega
theorem cmpI_zero (a b : Int) : cmpI a b = 0 ↔ a = b := by unfold cmpI; split <;> (try split) <;> omega
theorem cmpI_bd (a b : Int) : -1 ≤ cmpI a b ∧ cmpI a b ≤ 1 := by unfold cmpI; split <;> (try split) <;> omega
theorem cmpL_neg : ∀ (l m : List Int), l.length = m.length → cmpL m l = -cmpL l m
  | [], [], _ => rfl
  | a :: l, b :: m, h => by
    have ih := cmpL_neg l m (by simpa using h)
    simp only [cmpL]
    by_cases e : a = b
    · subst e; simp [ih]
    · rw [if_neg e, if_neg (Ne.symm e), cmpI_neg]
theorem cmpL_zero : ∀ (l m : List Int), l.length = m.length → (cmpL l m = 0 ↔ l = m)
  | [], [], _ => by simp [cmpL]
  | a :: l, b :: m, h => by
    have ih := cmpL_zero l m (by simpa using h)
    simp only [cmpL]
    by_cases e : a = b
    · subst e; simp [ih]
    · rw [if_neg e, cmpI_zero]; simp [e]
theorem cmpL_bd : ∀ (l m : List Int), -1 ≤ cmpL l m ∧ cmpL l m ≤ 1
  | [], [] | [], _ :: _ | _ :: _, [] => by simp [cmpL]
  | a :: l, b :: m => by
    simp only [cmpL]
    split
    · exact cmpL_bd l m
    · exact cmpI_bd a b
theorem cmpI_le (a b : Int) : cmpI a b ≤ 0 ↔ a ≤ b := by unfold cmpI; split <;> (try split) <;> omega
theorem cmpI_lt (a b : Int) : cmpI a b < 0 ↔ a < b := by unfold cmpI; split <;> (try split) <;> omega
theorem cmpL_trans : ∀ (l m n : List Int), l.length = m.length → m.length = n.length → cmpL l m ≤ 0 → cmpL m n ≤ 0 → cmpL l n ≤ 0
  | [], [], [], _, _, _, _ => by simp [cmpL]
  | a :: l, b :: m, c :: n, h1, h2, h3, h4 => by
    simp only [cmpL] at *
    by_cases e : a = b
    · subst e
      by_cases f : a = c
      · subst f
        simp only [if_true] at *
        exact cmpL_trans l m n (by simpa using h1) (by simpa using h2) h3 h4
      · rw [if_neg f] at h4 ⊢
        exact h4
    · rw [if_neg e, cmpI_le] at h3
      by_cases f : b = c
      · subst f
        rw [if_neg e, cmpI_le]
        exact h3
      · rw [if_neg f, cmpI_le] at h4
        rw [if_neg (by omega), cmpI_le]
        omega
theorem cmpC_neg (c d : Clk) : cmpC d c = -cmpC c d := cmpL_neg _ _ (by rw [c.h, d.h])
theorem cmpC_zero (c d : Clk) : cmpC c d = 0 ↔ c = d := by
  unfold cmpC
  rw [cmpL_zero _ _ (by rw [c.h, d.h])]
  exact ⟨Clk.ext', fun e => by rw [e]⟩
theorem cmpC_bd (c d : Clk) : -1 ≤ cmpC c d ∧ cmpC c d ≤ 1 := cmpL_bd _ _
theorem cmpC_trans {c d e : Clk} (h : cmpC c d ≤ 0) (g : cmpC d e ≤ 0) : cmpC c e ≤ 0 := cmpL_trans _ _ _ (by rw [c.h, d.h]) (by rw [d.h, e.h]) h g
theorem cmpP_neg (p q : Prt) : cmpP q p = -cmpP p q := by
  unfold cmpP
  rw [cmpC_neg p.c q.c, cmpI_neg p.n q.n]
  by_cases h : cmpC p.c q.c = 0
  · simp [h]
  · rw [if_pos (by omega), if_pos h]
theorem cmpP_zero (p q : Prt) : cmpP p q = 0 ↔ p = q := by
  unfold cmpP
  have h1 := cmpC_zero p.c q.c
  have h2 := cmpI_zero p.n q.n
  constructor
  · intro h
    by_cases e : cmpC p.c q.c = 0
    · rw [if_neg (by omega)] at h
      exact Prt.ext' (h1.1 e) (h2.1 h)
    · rw [if_pos e] at h
      exact absurd h e
  · intro h
    subst h
    rw [if_neg (by have := h1.2 rfl; omega)]
    exact h2.2 rfl
theorem cmpP_bd (p q : Prt) : -1 ≤ cmpP p q ∧ cmpP p q ≤ 1 := by
  unfold cmpP
  split
  · exact cmpC_bd _ _
  · exact cmpI_bd _ _
theorem cmpP_trans {p q r : Prt} (h : cmpP p q ≤ 0) (g : cmpP q r ≤ 0) : cmpP p r ≤ 0 := by
  unfold cmpP at *
  have a1 := cmpC_zero p.c q.c
  have a2 := cmpC_zero q.c r.c
  by_cases e : cmpC p.c q.c = 0
  · rw [if_neg (by omega), cmpI_le] at h
    rw [a1.1 e]
    by_cases f : cmpC q.c r.c = 0
    · rw [if_neg (by omega), cmpI_le] at g ⊢
      omega
    · rw [if_pos f] at g ⊢
      exact g
  · rw [if_pos e] at h
    by_cases f : cmpC q.c r.c = 0
    · rw [← a2.1 f, if_pos e]
      exact h
    · rw [if_pos f] at g
      have t := cmpC_trans h g
      by_cases k : cmpC p.c r.c = 0
      · have hpr := (cmpC_zero _ _).1 k
        rw [← hpr, cmpC_neg] at g
        exact absurd (show cmpC p.c q.c = 0 by omega) e
      · rw [if_pos k]
        exact t
end Go.Proofs.Ytcjbopobgpfjlaa
