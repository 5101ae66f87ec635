/-
  The first of sets of unlike grandmasters, in whatever order they stand: plain laws. No condition.
-/
import Derived.Test.YtcjbopobgpfjlaaRaN
namespace Go.Proofs.Ytcjbopobgpfjlaa
open Go.RowKit

theorem less_unlike {p q : Sett} (h : p.g ≠ q.g) : lessS p q = decide (grandI p q < 0) := by
  unfold lessS cmpS
  rw [if_neg h]
  by_cases h1 : grandI p q < 0
  · rw [if_pos h1]; simp [h1]
  · rw [if_neg h1]; simp [h1]
theorem grand_unlike {p q : Sett} (h : p.g ≠ q.g) : grandI p q ≠ 0 := fun e => h (keyS_grand ((grandI_zero p q).1 e))
theorem less_self (p : Sett) : lessS p p = false := by unfold lessS; rw [cmpS_self]; rfl
/-- None stands below this one. -/
def leastAt (xs : List Sett) (k : Nat) : Prop := k < xs.length ∧ ∀ m, m < xs.length → m ≠ k → grandI (xs.getD k zeroS) (xs.getD m zeroS) < 0
def unlike (xs : List Sett) : Prop := ∀ i, i < xs.length → ∀ k, k < xs.length → i ≠ k → (xs.getD i zeroS).g ≠ (xs.getD k zeroS).g
theorem least_le : ∀ n (xs : List Sett), n < xs.length → ∃ k, k ≤ n ∧ ∀ m, m ≤ n → grandI (xs.getD k zeroS) (xs.getD m zeroS) ≤ 0 := by
  intro n
  induction n with
  | zero =>
    intro xs h
    refine ⟨0, Nat.le_refl _, fun m hm => ?_⟩
    obtain rfl : m = 0 := by omega
    exact Int.le_of_eq ((grandI_zero _ _).2 rfl)
  | succ n ih =>
    intro xs h
    obtain ⟨k, hk, hl⟩ := ih xs (by omega)
    by_cases hc : grandI (xs.getD k zeroS) (xs.getD (n + 1) zeroS) ≤ 0
    · refine ⟨k, by omega, fun m hm => ?_⟩
      by_cases e : m = n + 1
      · rw [e]; exact hc
      · exact hl m (by omega)
    · refine ⟨n + 1, Nat.le_refl _, fun m hm => ?_⟩
      by_cases e : m = n + 1
      · rw [e]; exact Int.le_of_eq ((grandI_zero _ _).2 rfl)
      · refine grandI_trans _ _ _ ?_ (hl m (by omega))
        have := grandI_neg (xs.getD k zeroS) (xs.getD (n + 1) zeroS)
        omega
theorem least_ex (xs : List Sett) (h : 0 < xs.length) (hu : unlike xs) : ∃ k, leastAt xs k := by
  obtain ⟨k, hk, hl⟩ := least_le (xs.length - 1) xs (by omega)
  refine ⟨k, by omega, fun m hm hne => ?_⟩
  have h1 := hl m (by omega)
  have h2 := grand_unlike (hu k (by omega) m hm (Ne.symm hne))
  omega
theorem first_least (xs : List Sett) (k : Nat) (hu : unlike xs) (h : leastAt xs k) : firstI xs = k := by
  obtain ⟨hk, hl⟩ := h
  refine firstI_hit xs k hk (fun j hj => ?_) (not_bad xs k fun m hm => ?_)
  · refine bad_of xs j k hk ?_
    rw [less_unlike (hu k hk j (by omega) (by omega))]
    exact decide_eq_true (hl j (by omega) (by omega))
  · by_cases e : m = k
    · rw [e]; exact less_self _
    · rw [less_unlike (hu m hm k hk e)]
      have h1 := hl m hm e
      have h2 := grandI_neg (xs.getD k zeroS) (xs.getD m zeroS)
      exact decide_eq_false (by omega)
theorem rev_getD (xs : List Sett) (m : Nat) (h : m < xs.length) : xs.reverse.getD m zeroS = xs.getD (xs.length - 1 - m) zeroS := by
  rw [List.getD_eq_getElem?_getD, List.getD_eq_getElem?_getD, List.getElem?_reverse h]
theorem unlike_rev {xs : List Sett} (hu : unlike xs) : unlike xs.reverse := by
  intro i hi k hk hne
  rw [List.length_reverse] at hi hk
  rw [rev_getD _ _ hi, rev_getD _ _ hk]
  exact hu _ (by omega) _ (by omega) (by omega)
theorem least_rev {xs : List Sett} {k : Nat} (h : leastAt xs k) : leastAt xs.reverse (xs.length - 1 - k) := by
  obtain ⟨hk, hl⟩ := h
  refine ⟨by rw [List.length_reverse]; omega, fun m hm hne => ?_⟩
  rw [List.length_reverse] at hm
  rw [rev_getD _ _ hm, rev_getD _ _ (by omega), show xs.length - 1 - (xs.length - 1 - k) = k by omega]
  exact hl _ (by omega) (by omega)
theorem infoS : (Try.prog.info? 29).map (fun i => (i.zero, i.size, i.bytes)) = some (some (.agg (sa zeroS)), 32, 88) := by kernel_rfl
/-- The cells of a row of sets. -/
def cellsL (ys : List Sett) : List Value := ys.flatMap fun s => (sa s).toList
theorem cellsL_length (ys : List Sett) : (cellsL ys).length = ys.length * 32 := by
  induction ys with
  | nil => rfl
  | cons y ys ih => simp [cellsL] at ih ⊢; omega
theorem cellsL_at : ∀ (ys : List Sett) (k j : Nat), k < ys.length → j < 32 → (cellsL ys)[k * 32 + j]? = (sa (ys.getD k zeroS))[j]?
  | y :: ys, 0, j, _, hj => by
    unfold cellsL
    rw [List.flatMap_cons, List.getElem?_append_left (by simp; omega)]
    simp
  | y :: ys, k + 1, j, hk, hj => by
    have ih := cellsL_at ys k j (by simpa using hk) hj
    unfold cellsL at ih ⊢
    rw [List.flatMap_cons, List.getElem?_append_right (by simp; omega)]
    simp only [Array.length_toList, sa_size, List.getD_cons_succ]
    rw [show (k + 1) * 32 + j - 32 = k * 32 + j by omega, ih]
theorem own_sets {w : World} {base : Nat} {v : Value} {n : Nat} {ys : List Sett} (h : w.ownsRow base 29 32 v n (cellsL ys)) : n = ys.length ∧ ∃ a cap, v = .slice a n cap ∧ SetsIn w a ys := by
  obtain ⟨h1, h2⟩ := h
  rw [cellsL_length] at h1
  have hn : n = ys.length := by omega
  refine ⟨hn, ?_⟩
  rcases h2 with ⟨rfl, h0⟩ | ⟨g, cap, cur, rfl, _, hh, hc, _, hsz, htk⟩
  · subst h0
    exact ⟨none, 0, rfl, .inl (List.length_eq_zero_iff.1 hn.symm)⟩
  · refine ⟨_, cap, rfl, .inr ⟨g, 0, rfl, fun k hk => ?_⟩⟩
    have hrow : row? w g = cur := by unfold row?; rw [hh]; rfl
    have hsz' : n * 32 ≤ cur.size := by rw [hsz]; exact Nat.mul_le_mul_right _ hc
    rw [hrow]
    refine ⟨by omega, ?_⟩
    unfold sub
    apply Array.ext_getElem?
    intro j
    rw [Array.getElem?_extract]
    by_cases hj : j < 32
    · rw [if_pos (by omega), ← cellsL_at ys k j hk hj, ← htk, List.getElem?_take, if_pos (by omega), Array.getElem?_toList]
      congr 1
      omega
    · rw [if_neg (by omega), Array.getElem?_eq_none (by simp; omega)]
end Go.Proofs.Ytcjbopobgpfjlaa
