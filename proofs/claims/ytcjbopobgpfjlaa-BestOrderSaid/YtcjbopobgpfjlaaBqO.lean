/-
  Sets of unlike grandmasters, in whatever order they were heard: plain laws. No condition.
-/
import Derived.Test.YtcjbopobgpfjlaaBqC
namespace Go.Proofs.Ytcjbopobgpfjlaa
open Go.RowKit

theorem less_unlike {p q : Sett} (h : p.g ≠ q.g) : lessS p q = decide (grandI p q < 0) := by
  unfold lessS cmpS
  rw [if_neg h]
  by_cases h1 : grandI p q < 0
  · rw [if_pos h1]; simp [h1]
  · rw [if_neg h1]; simp [h1]
theorem grand_unlike {p q : Sett} (h : p.g ≠ q.g) : grandI p q ≠ 0 := fun e => h (keyS_grand ((grandI_zero p q).1 e))
/-- None stands below this one. -/
def leastAt (xs : List Sett) (k : Nat) : Prop := k < xs.length ∧ ∀ m, m < xs.length → m ≠ k → grandI (xs.getD k zeroS) (xs.getD m zeroS) < 0
def unlike (xs : List Sett) : Prop := ∀ i, i < xs.length → ∀ k, k < xs.length → i ≠ k → (xs.getD i zeroS).g ≠ (xs.getD k zeroS).g
theorem least_le : ∀ n (xs : List Sett), n < xs.length → ∃ k, k ≤ n ∧ ∀ m, m ≤ n → grandI (xs.getD k zeroS) (xs.getD m zeroS) ≤ 0 := by
  intro n
  induction n with
  | zero =>
    intro xs h
    refine ⟨0, Nat.le_refl _, fun m hm => ?_⟩
    obtain rfl : m = 0 := by omega
    exact Int.le_of_eq ((grandI_zero _ _).2 rfl)
  | succ n ih =>
    intro xs h
    obtain ⟨k, hk, hl⟩ := ih xs (by omega)
    by_cases hc : grandI (xs.getD k zeroS) (xs.getD (n + 1) zeroS) ≤ 0
    · refine ⟨k, by omega, fun m hm => ?_⟩
      by_cases e : m = n + 1
      · rw [e]; exact hc
      · exact hl m (by omega)
    · refine ⟨n + 1, Nat.le_refl _, fun m hm => ?_⟩
      by_cases e : m = n + 1
      · rw [e]; exact Int.le_of_eq ((grandI_zero _ _).2 rfl)
      · refine grandI_trans _ _ _ ?_ (hl m (by omega))
        have := grandI_neg (xs.getD k zeroS) (xs.getD (n + 1) zeroS)
        omega
theorem least_ex (xs : List Sett) (h : 0 < xs.length) (hu : unlike xs) : ∃ k, leastAt xs k := by
  obtain ⟨k, hk, hl⟩ := least_le (xs.length - 1) xs (by omega)
  refine ⟨k, by omega, fun m hm hne => ?_⟩
  have h1 := hl m (by omega)
  have h2 := grand_unlike (hu k (by omega) m hm (Ne.symm hne))
  omega
theorem first_least (xs : List Sett) (k : Nat) (hu : unlike xs) (h : leastAt xs k) : firstI xs = k := by
  obtain ⟨hk, hl⟩ := h
  refine firstI_hit xs k hk (fun j hj => ?_) (not_bad xs k fun m hm => ?_)
  · refine bad_of xs j k hk ?_
    rw [less_unlike (hu k hk j (by omega) (by omega))]
    exact decide_eq_true (hl j (by omega) (by omega))
  · by_cases e : m = k
    · rw [e]; exact less_irr _
    · rw [less_unlike (hu m hm k hk e)]
      have h1 := hl m hm e
      have h2 := grandI_neg (xs.getD k zeroS) (xs.getD m zeroS)
      exact decide_eq_false (by omega)
theorem rev_getD (xs : List Sett) (m : Nat) (h : m < xs.length) : xs.reverse.getD m zeroS = xs.getD (xs.length - 1 - m) zeroS := by
  rw [List.getD_eq_getElem?_getD, List.getD_eq_getElem?_getD, List.getElem?_reverse h]
theorem unlike_rev {xs : List Sett} (hu : unlike xs) : unlike xs.reverse := by
  intro i hi k hk hne
  rw [List.length_reverse] at hi hk
  rw [rev_getD _ _ hi, rev_getD _ _ hk]
  exact hu _ (by omega) _ (by omega) (by omega)
theorem least_rev {xs : List Sett} {k : Nat} (h : leastAt xs k) : leastAt xs.reverse (xs.length - 1 - k) := by
  obtain ⟨hk, hl⟩ := h
  refine ⟨by rw [List.length_reverse]; omega, fun m hm hne => ?_⟩
  rw [List.length_reverse] at hm
  rw [rev_getD _ _ hm, rev_getD _ _ (by omega), show xs.length - 1 - (xs.length - 1 - k) = k by omega]
  exact hl _ (by omega) (by omega)
theorem sub_sub (A : Array Value) (o n k m : Nat) (h : k + m ≤ n) : sub (sub A o n) k m = sub A (o + k) m := by
  unfold sub
  rw [Array.extract_extract, Nat.min_eq_left (by omega), Nat.add_assoc]
def Lower (xs : List Sett) (i : Nat) : Prop := ∀ j, j < i → ∀ k, k < j → (xs.getD j zeroS).g ≠ (xs.getD k zeroS).g
theorem unlike_of {xs : List Sett} (h : Lower xs xs.length) : unlike xs := by
  intro i hi k hk hne
  rcases Nat.lt_or_gt_of_ne hne with h1 | h1
  · exact fun e => h k hk i h1 e.symm
  · exact h i hi k h1
/-- What the law lays beside each other: none, and each of them. -/
def alls (xs : List Sett) : List Cho := xs.flatMap fun x => [zeroCh, ⟨x, true⟩]
theorem alls_length (xs : List Sett) : (alls xs).length = 2 * xs.length := by
  induction xs with
  | nil => rfl
  | cons x xs ih => unfold alls at *; rw [List.flatMap_cons, List.length_append, ih]; simp; omega
theorem alls_snoc (xs : List Sett) (x : Sett) : alls (xs ++ [x]) = alls xs ++ [zeroCh, ⟨x, true⟩] := by simp [alls]
theorem alls_even : ∀ (xs : List Sett) (m : Nat), (alls xs).getD (2 * m) zeroCh = zeroCh
  | [], m => by simp [alls]
  | x :: xs, 0 => rfl
  | x :: xs, m + 1 => by
    have h := alls_even xs m
    unfold alls at *
    rw [List.flatMap_cons, show 2 * (m + 1) = 2 * m + 1 + 1 by omega]
    simpa using h
theorem alls_odd : ∀ (xs : List Sett) (m : Nat), m < xs.length → (alls xs).getD (2 * m + 1) zeroCh = ⟨xs.getD m zeroS, true⟩
  | x :: xs, 0, _ => rfl
  | x :: xs, m + 1, hm => by
    have h := alls_odd xs m (by simpa using hm)
    unfold alls at *
    rw [List.flatMap_cons, show 2 * (m + 1) + 1 = 2 * m + 1 + 1 + 1 by omega]
    simpa using h
theorem alls_bad (xs : List Sett) (m : Nat) (hm : m < xs.length) : badC (alls xs) (2 * m + 1) = badS xs m := by
  unfold badC badS
  rw [alls_odd xs m hm]
  simp [alls, List.any_flatMap, zeroCh]
theorem alls_least (xs : List Sett) (k : Nat) (hu : unlike xs) (h : leastAt xs k) : allC (alls xs) = (2 * k + 1 : Nat) := by
  have hf := first_least xs k hu h
  obtain ⟨hk, _⟩ := h
  rcases firstI_spec' xs with ⟨e1, _⟩ | ⟨k', hk', e1, hb, hbs⟩
  · omega
  · obtain rfl : k' = k := by omega
    refine allC_hit _ _ (by rw [alls_length]; omega) (fun j hj => ?_) ?_
    · rcases Nat.mod_two_eq_zero_or_one j with h2 | h2
      · obtain ⟨m, rfl⟩ : ∃ m, j = 2 * m := ⟨j / 2, by omega⟩
        unfold okC
        rw [alls_even]
        rfl
      · obtain ⟨m, rfl⟩ : ∃ m, j = 2 * m + 1 := ⟨j / 2, by omega⟩
        unfold okC
        rw [alls_bad xs m (by omega), hbs m (by omega)]
        simp
    · unfold okC
      rw [alls_bad xs _ hk, hb, alls_odd xs _ hk]
      rfl
theorem grand_rcv (r : Prt) (p q : Sett) : grandI (rcv r p) (rcv r q) = grandI p q := rfl
theorem map_rcv_getD (r : Prt) (xs : List Sett) (k : Nat) (h : k < xs.length) : (xs.map (rcv r)).getD k zeroS = rcv r (xs.getD k zeroS) := by simp [h]
theorem port_least (r : Prt) (xs : List Sett) (k : Nat) (hu : unlike xs) (h : leastAt xs k) : portB r xs = ⟨rcv r (xs.getD k zeroS), true⟩ := by
  have hu' : unlike (xs.map (rcv r)) := by
    intro i hi m hm hne
    rw [List.length_map] at hi hm
    rw [map_rcv_getD r xs i hi, map_rcv_getD r xs m hm]
    exact hu i hi m hm hne
  have hl' : leastAt (xs.map (rcv r)) k := by
    refine ⟨by rw [List.length_map]; exact h.1, fun m hm hne => ?_⟩
    rw [List.length_map] at hm
    rw [map_rcv_getD r xs k h.1, map_rcv_getD r xs m hm, grand_rcv]
    exact h.2 m hm hne
  have hf := first_least _ k hu' hl'
  unfold portB
  rw [hf, if_neg (by omega), Int.toNat_natCast, map_rcv_getD r xs k h.1]
theorem port_rev (r : Prt) (xs : List Sett) (k : Nat) (hu : unlike xs) (h : leastAt xs k) : portB r xs.reverse = ⟨rcv r (xs.getD k zeroS), true⟩ := by
  rw [port_least r xs.reverse _ (unlike_rev hu) (least_rev h), rev_getD _ _ (by have := h.1; omega), show xs.length - 1 - (xs.length - 1 - k) = k by have := h.1; omega]
theorem eqCho_self (d : Nat) (p : Cho) (w : World) : (Op.equalIn (d + 5) 49 (.agg (cha p)) (.agg (cha p))).run Try.prog w = .ok true w := by
  rw [show d + 5 = (d + 4) + 1 from rfl, run_equalIn_agg w (d + 4) 49 _ _ (by kernel_rfl) (by kernel_rfl)]
  simp only [Program.fieldsOf, Try.underlying49]
  have e1 : (cha p).extract 0 32 = sa p.s := cha_set p
  simp [go_sem, e1]
theorem fillC2 (a b : Cho) (cells : Array Value) (h : cells.size = 66) : Instr.fill (fun i => some (i * 33, 33)) cells [(0, .agg (cha a)), (1, .agg (cha b))] = some (cha a ++ cha b) := by
  have hc : ∀ c : Cho, (Value.agg (cha c)).cells = cha c := fun _ => rfl
  have := Great.fill_whole (s := 33) (by decide) [.agg (cha a), .agg (cha b)] cells (by intro v hv; simp at hv; rcases hv with rfl | rfl <;> rw [hc] <;> simp) (by simp [h])
  refine this.trans ?_
  congr 1
  apply Array.ext'
  simp [hc]
theorem run_bsC2 (w : World) (a b : Cho) : (Instr.buildSlice 44 2 #[(0, .agg (cha a)), (1, .agg (cha b))]).run Try.prog w = .ok (.slice (some ⟨w.heap.size, 0, none⟩) 2 2) (w.alloc (.cells (cha a ++ cha b) 49)) := by
  obtain ⟨i0, hi0, hz0, hz1, hz2⟩ := info_parts infoC
  refine run_buildSlice w 44 49 2 _ _ i0 (.agg (cha zeroCh)) (by kernel_rfl) hi0 hz0 (by rw [hz1]; decide) (by rw [hz1]; decide) ?_
  rw [hz1]
  exact fillC2 a b _ (Array.size_map.trans Array.size_range)
end Go.Proofs.Ytcjbopobgpfjlaa
