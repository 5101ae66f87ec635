/-
  Slices of structs that a call makes itself: their cells, one behind the other. No condition.
-/
import Derived.Test.YtoblgdjjpbnemaaRdG
import Derived.Maps.AppendAt
namespace Go.Proofs.Ytoblgdjjpbnemaa
open Go.RowKit

def rowsL {α : Type} (f : α → Array Value) (ys : List α) : List Value := ys.flatMap fun s => (f s).toList
theorem rowsL_length {α : Type} {f : α → Array Value} {n : Nat} (hf : ∀ s, (f s).size = n) (ys : List α) : (rowsL f ys).length = ys.length * n := by
  induction ys with
  | nil => simp [rowsL]
  | cons y ys ih =>
    have e : rowsL f (y :: ys) = (f y).toList ++ rowsL f ys := by simp [rowsL]
    rw [e, List.length_append, ih, List.length_cons, Nat.succ_mul]
    simp [hf]
    omega
theorem rowsL_snoc {α : Type} (f : α → Array Value) (ys : List α) (y : α) : rowsL f (ys ++ [y]) = rowsL f ys ++ (f y).toList := by simp [rowsL]
theorem rowsL_at {α : Type} {f : α → Array Value} {n : Nat} (hf : ∀ s, (f s).size = n) (z : α) : ∀ (ys : List α) (k j : Nat), k < ys.length → j < n → (rowsL f ys)[k * n + j]? = (f (ys.getD k z))[j]?
  | y :: ys, 0, j, _, hj => by
    have e : rowsL f (y :: ys) = (f y).toList ++ rowsL f ys := by simp [rowsL]
    rw [e, List.getElem?_append_left (by simp [hf]; omega)]
    simp
  | y :: ys, k + 1, j, hk, hj => by
    have ih := rowsL_at hf z ys k j (by simpa using hk) hj
    have e : rowsL f (y :: ys) = (f y).toList ++ rowsL f ys := by simp [rowsL]
    have e2 : (k + 1) * n + j = n + (k * n + j) := by rw [Nat.add_mul]; omega
    rw [e, List.getElem?_append_right (by simp [hf, e2]), e2]
    simp only [Array.length_toList, hf, List.getD_cons_succ]
    rw [Nat.add_sub_cancel_left, ih]
theorem rowsAt_of_cur {α : Type} {f : α → Array Value} {n : Nat} (hf : ∀ s, (f s).size = n) (z : α) {w : World} {g : Nat} {ys : List α} {cur : Array Value} (hr : row? w g = cur) (htk : cur.toList.take (ys.length * n) = rowsL f ys) : RowsAt f z n w g 0 ys := by
  have hsz : ys.length * n ≤ cur.size := by
    have := congrArg List.length htk
    have e2 : cur.toList.length = cur.size := Array.length_toList
    rw [rowsL_length hf, List.length_take, e2] at this
    omega
  intro k hk
  have hkn : (k + 1) * n ≤ ys.length * n := Nat.mul_le_mul_right _ hk
  rw [Nat.add_mul, Nat.one_mul] at hkn
  rw [hr]
  refine ⟨by omega, ?_⟩
  unfold sub
  apply Array.ext_getElem?
  intro j
  rw [Array.getElem?_extract]
  by_cases hj : j < n
  · rw [if_pos (by omega), ← rowsL_at hf z ys k j hk hj, ← htk, List.getElem?_take, if_pos (by omega), Array.getElem?_toList]
    congr 1
    omega
  · rw [if_neg (by omega), Array.getElem?_eq_none (by rw [hf]; omega)]
theorem own_rows {α : Type} {f : α → Array Value} {m : Nat} (hf : ∀ s, (f s).size = m) (hm : 0 < m) (z : α) {w : World} {base : Nat} {e : TypeId} {v : Value} {n : Nat} {ys : List α} (h : w.ownsRow base e m v n (rowsL f ys)) :
    n = ys.length ∧ ∃ a cap, v = .slice a n cap ∧ RowsIn f z m w a ys := by
  obtain ⟨h1, h2⟩ := h
  rw [rowsL_length hf] at h1
  have hn : n = ys.length := by
    rcases Nat.lt_trichotomy n ys.length with h | h | h
    · have := Nat.mul_lt_mul_of_pos_right h hm
      omega
    · exact h
    · have := Nat.mul_lt_mul_of_pos_right h hm
      omega
  refine ⟨hn, ?_⟩
  rcases h2 with ⟨rfl, h0⟩ | ⟨g, cap, cur, rfl, _, hh, hc, _, hsz, htk⟩
  · subst h0
    exact ⟨none, 0, rfl, .inl (List.length_eq_zero_iff.1 hn.symm)⟩
  · refine ⟨_, cap, rfl, .inr ⟨g, 0, rfl, rowsAt_of_cur hf z (cur := cur) (by unfold row?; rw [hh]; rfl) (by rw [← hn]; exact htk)⟩⟩
theorem wrK_get : ∀ (l : List Value) (k : Nat) (z : Array Value), k + l.length ≤ z.size → ((l.zipIdx k).foldl (fun c x => c.setIfInBounds x.2 x.1) z).size = z.size ∧
    ∀ j, ((l.zipIdx k).foldl (fun c x => c.setIfInBounds x.2 x.1) z)[j]? = if k ≤ j ∧ j < k + l.length then l[j - k]? else z[j]?
  | [], k, z, _ => ⟨rfl, fun j => by rw [if_neg (by simp <;> omega)]; rfl⟩
  | v :: l, k, z, h => by
    simp only [List.length_cons] at h
    obtain ⟨ih1, ih2⟩ := wrK_get l (k + 1) (z.setIfInBounds k v) (by simp; omega)
    rw [List.zipIdx_cons, List.foldl_cons]
    refine ⟨by rw [ih1]; simp, fun j => ?_⟩
    rw [ih2 j]
    by_cases h1 : k + 1 ≤ j ∧ j < k + 1 + l.length
    · rw [if_pos h1, if_pos (by simp; omega), show j - k = (j - (k + 1)) + 1 by omega, List.getElem?_cons_succ]
    · rw [if_neg h1, Array.getElem?_setIfInBounds]
      by_cases e : k = j
      · subst e
        rw [if_pos rfl, if_pos (by omega), if_pos (by simp)]
        simp
      · rw [if_neg e, if_neg (by simp; omega)]
theorem fold_rows (z cs : Array Value) (n : Nat) (hn : cs.size = n) (h : z.size = n) : Array.foldl (fun c x => c.setIfInBounds x.2 x.1) z (cs.zipIdx) 0 n = cs := by
  have e : cs.zipIdx.size = n := by simp [hn]
  rw [← e, ← Array.foldl_toList, Array.toList_zipIdx]
  apply Array.ext_getElem?
  intro j
  rw [(wrK_get cs.toList 0 z (by simp; omega)).2 j]
  by_cases hj : j < cs.size
  · rw [if_pos (by simp; omega)]; simp
  · rw [if_neg (by simp; omega), Array.getElem?_eq_none (by omega), Array.getElem?_eq_none (by omega)]
/-- The cells of a block that was just laid. -/
theorem new_cells (w : World) (A : Array Value) (t : TypeId) : ∀ j u, A.toList[j]? = some u → (w.alloc (.cells A t)).cell? ((⟨w.heap.size, 0, none⟩ : Addr).add j) = some u := by
  intro j u hu
  rw [add_pl, cell_row, row_alloc, if_pos rfl]
  simp only [rowOf, Nat.zero_add]
  rw [← hu, Array.getElem?_toList]
end Go.Proofs.Ytoblgdjjpbnemaa
