/-
  A region that draws its order, by an invariant over what is done: one goal for each operation. No condition.
-/
import Derived.Test.YtoblgdjjpbnemaaRegQ
namespace Go.Proofs.Ytoblgdjjpbnemaa
open Go.RowKit

theorem countP_less {p q : Nat → Bool} {i : Nat} (hi : q i = true) (hp : p i = false) : ∀ l : List Nat, i ∈ l → (∀ j, p j = true → q j = true) → l.countP p < l.countP q
  | [], h, _ => by cases h
  | x :: l, h, hpq => by
    have hm : l.countP p ≤ l.countP q := List.countP_mono_left fun j _ hj => hpq j hj
    rw [List.countP_cons, List.countP_cons]
    rcases List.mem_cons.1 h with e | h'
    · subst e
      rw [hi, hp]
      simp
      omega
    · have := countP_less hi hp l h' hpq
      cases hx : p x with
      | true => rw [hpq x hx]; simp; omega
      | false => cases q x <;> simp <;> omega
def undone (n : Nat) (s : Array Bool) : Nat := (List.range n).countP fun i => !s.getD i true
theorem undone_set (n : Nat) (s : Array Bool) (i : Nat) (hi : i < n) (h : s.getD i true = false) : undone n (s.setIfInBounds i true) < undone n s := by
  unfold undone
  have hin : i < s.size := by
    rcases Nat.lt_or_ge i s.size with h' | h'
    · exact h'
    · simp [Array.getD, Nat.not_lt.2 h'] at h
  refine countP_less (i := i) (by rw [h]; rfl) (by simp [Array.getD, hin]) _ (List.mem_range.2 hi) fun j hp => ?_
  by_cases e : i = j
  · subst e; simp [Array.getD, hin] at hp
  · rwa [getD_set_ne true e] at hp
theorem any_inv {P : Program} {ops : Array Oper} {Q : Exit → Act → World → Prop} (I : Array Bool → Act → World → Prop)
    (hstep : ∀ s a w i, i ∈ Region.ready .any ops s → I s a w → wpOp P ops Q i (fun a' w' => I (s.setIfInBounds i true) a' w') a w)
    (hend : ∀ s a w, Region.ready .any ops s = [] → I s a w → Q .normal a w) : ∀ (f : Nat) (s : Array Bool) (a : Act) (w : World), undone ops.size s ≤ f → I s a w → wpAny P .any ops Q f s a w := by
  intro f
  induction f with
  | zero =>
    intro s a w hu hI
    have hr : Region.ready .any ops s = [] := by
      cases hc : Region.ready .any ops s with
      | nil => rfl
      | cons i t =>
        obtain ⟨h1, o, h0, _⟩ := mem_ready.1 (show i ∈ Region.ready .any ops s by rw [hc]; simp)
        have hi : i < ops.size := (Array.getElem?_eq_some_iff.1 h0).1
        have := undone_set ops.size s i hi h1
        omega
    exact ⟨hr, hend s a w hr hI⟩
  | succ f ih =>
    intro s a w hu hI
    refine ⟨fun hr => hend s a w hr hI, fun i hi => ?_⟩
    obtain ⟨h1, o, h0, _⟩ := mem_ready.1 hi
    have hlt : i < ops.size := (Array.getElem?_eq_some_iff.1 h0).1
    have := undone_set ops.size s i hlt h1
    exact wpOp_mono (fun a' w' h' => ih _ a' w' (by omega) h') (hstep s a w i hi hI)
theorem undone_le (n : Nat) (s : Array Bool) : undone n s ≤ n := Nat.le_trans List.countP_le_length (by simp)
/-- The region: the invariant at its begin, behind each operation, and what follows of it at the end. -/
theorem wp_region_inv {P : Program} {id : Nat} {Q : Exit → Act → World → Prop} {a : Act} {w0 : World} {l : List Oper} (hm : P.follows .mixedOrders = true) (I : Array Bool → Act → World → Prop)
    (h0 : I (Array.replicate l.toArray.size false) a { w0 with drawn := w0.drawn + 1 })
    (hstep : ∀ s a w i, i ∈ Region.ready .any l.toArray s → I s a w → wpOp P l.toArray Q i (fun a' w' => I (s.setIfInBounds i true) a' w') a w)
    (hend : ∀ s a w, Region.ready .any l.toArray s = [] → I s a w → Q .normal a w) : (Code.region id l.toArray true).wp P Q a w0 :=
  wp_region_any hm (any_inv I hstep hend _ _ _ _ (undone_le _ _) h0)
end Go.Proofs.Ytoblgdjjpbnemaa
