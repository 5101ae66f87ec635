/-
  The best one of choices, as plain data; at, First over any slice. No condition but the numbers' range, and that there are at most 1000.
-/
import Derived.Test.YtcjbopobgpfjlaaBeA
import Derived.Test.YtcjbopobgpfjlaaRowL
namespace Go.Proofs.Ytcjbopobgpfjlaa
open Go.RowKit

/-- Is a heard one better than this one? -/
def badC (xs : List Cho) (j : Nat) : Bool := xs.any fun b => b.is && lessS b.s (xs.getD j zeroCh).s
def okC (xs : List Cho) (j : Nat) : Bool := (xs.getD j zeroCh).is && !badC xs j
def allC (xs : List Cho) : Int := match (List.range xs.length).find? (okC xs) with | some j => (j : Int) | none => -1
theorem allC_hit (xs : List Cho) (k : Nat) (hk : k < xs.length) (h : ∀ j, j < k → okC xs j = false) (hb : okC xs k = true) : allC xs = k := by
  unfold allC
  have : (List.range xs.length).find? (okC xs) = some k := by
    rw [List.find?_range_eq_some]
    exact ⟨hb, by simp [hk], fun j hj => by simp [h j hj]⟩
  rw [this]
theorem allC_none (xs : List Cho) (h : ∀ j, j < xs.length → okC xs j = false) : allC xs = -1 := by
  unfold allC
  have : (List.range xs.length).find? (okC xs) = none := by
    rw [List.find?_eq_none]
    intro j hj
    simp [h j (List.mem_range.1 hj)]
  rw [this]
theorem allC_spec (xs : List Cho) : (allC xs = -1 ∧ ∀ j, j < xs.length → okC xs j = false) ∨ ∃ k, k < xs.length ∧ allC xs = (k : Int) ∧ okC xs k = true ∧ ∀ j, j < k → okC xs j = false := by
  unfold allC
  cases h : (List.range xs.length).find? (okC xs) with
  | none => exact .inl ⟨rfl, fun j hj => by have := (List.find?_eq_none.1 h) j (List.mem_range.2 hj); simpa using this⟩
  | some j =>
    rw [List.find?_range_eq_some] at h
    exact .inr ⟨j, List.mem_range.1 h.2.1, rfl, h.1, fun i hi => by simpa using h.2.2 i hi⟩
theorem firstI_spec' (xs : List Sett) : (firstI xs = -1 ∧ ∀ j, j < xs.length → badS xs j = true) ∨ ∃ k, k < xs.length ∧ firstI xs = (k : Int) ∧ badS xs k = false ∧ ∀ j, j < k → badS xs j = true := by
  unfold firstI
  cases h : (List.range xs.length).find? (fun j => !badS xs j) with
  | none => exact .inl ⟨rfl, fun j hj => by have := (List.find?_eq_none.1 h) j (List.mem_range.2 hj); simpa using this⟩
  | some j =>
    rw [List.find?_range_eq_some] at h
    exact .inr ⟨j, List.mem_range.1 h.2.1, rfl, by simpa using h.1, fun i hi => by simpa using h.2.2 i hi⟩
/-- Those of the first n that are heard, with their places. -/
def herd (xs : List Cho) (n : Nat) : List (Cho × Nat) := (xs.take n).zipIdx.filter fun p => p.1.is
theorem herd_succ (xs : List Cho) (n : Nat) (h : n < xs.length) : herd xs (n + 1) = herd xs n ++ if (xs.getD n zeroCh).is then [(xs.getD n zeroCh, n)] else [] := by
  unfold herd
  rw [List.take_succ_eq_append_getElem h, List.zipIdx_append, List.filter_append]
  have e : xs.getD n zeroCh = xs[n] := by simp [h]
  have e2 : (xs.take n).length = n := by simp; omega
  rw [e]
  congr 1
  simp only [List.zipIdx_cons, List.zipIdx_nil, Nat.zero_add, e2, List.filter_cons, List.filter_nil]
theorem herd_mem (xs : List Cho) (p : Cho × Nat) : p ∈ herd xs xs.length ↔ p.2 < xs.length ∧ p.1 = xs.getD p.2 zeroCh ∧ p.1.is = true := by
  unfold herd
  rw [List.take_length, List.mem_filter, List.mem_zipIdx_iff_getElem?]
  constructor
  · rintro ⟨h1, h2⟩
    obtain ⟨h3, h4⟩ := List.getElem?_eq_some_iff.1 h1
    exact ⟨h3, by rw [← h4]; simp [h3], h2⟩
  · rintro ⟨h1, h2, h3⟩
    exact ⟨by rw [h2]; simp [h1], h3⟩
theorem herd_sorted (xs : List Cho) (n : Nat) : (herd xs n).Pairwise fun p q => p.2 < q.2 := by
  unfold herd
  refine List.Pairwise.filter _ ?_
  have : ∀ (l : List Cho) k, (l.zipIdx k).Pairwise fun p q => p.2 < q.2 := by
    intro l
    induction l with
    | nil => intro k; exact .nil
    | cons a l ih =>
      intro k
      rw [List.zipIdx_cons]
      refine List.Pairwise.cons (fun q hq => ?_) (ih (k + 1))
      have := (List.mem_zipIdx hq).1
      dsimp only
      omega
  exact this _ 0
def hset (xs : List Cho) (n : Nat) : List Sett := (herd xs n).map fun p => p.1.s
def hnum (xs : List Cho) (n : Nat) : List Int := (herd xs n).map fun p => (p.2 : Int)
theorem hset_succ (xs : List Cho) (n : Nat) (h : n < xs.length) : hset xs (n + 1) = hset xs n ++ if (xs.getD n zeroCh).is then [(xs.getD n zeroCh).s] else [] := by
  unfold hset
  rw [herd_succ xs n h, List.map_append]
  split <;> rfl
theorem hnum_succ (xs : List Cho) (n : Nat) (h : n < xs.length) : hnum xs (n + 1) = hnum xs n ++ if (xs.getD n zeroCh).is then [(n : Int)] else [] := by
  unfold hnum
  rw [herd_succ xs n h, List.map_append]
  split <;> rfl
theorem herd_len (xs : List Cho) (n : Nat) : (herd xs n).length ≤ n := by
  unfold herd
  exact Nat.le_trans (List.length_filter_le _ _) (by simp; omega)
theorem bad_herd (xs : List Cho) (j : Nat) (h : j < (herd xs xs.length).length) : badS (hset xs xs.length) j = badC xs ((herd xs xs.length)[j]).2 := by
  have hm := (herd_mem xs _).1 (List.getElem_mem h)
  have e : (hset xs xs.length).getD j zeroS = (xs.getD ((herd xs xs.length)[j]).2 zeroCh).s := by
    unfold hset
    simp only [List.getD_eq_getElem?_getD, List.getElem?_map, List.getElem?_eq_getElem h, Option.map_some, Option.getD_some]
    rw [hm.2.1, List.getD_eq_getElem?_getD]
  unfold badS badC
  rw [e, Bool.eq_iff_iff, List.any_eq_true, List.any_eq_true]
  constructor
  · rintro ⟨b, hb, hl⟩
    unfold hset at hb
    obtain ⟨p, hp, rfl⟩ := List.mem_map.1 hb
    obtain ⟨h1, h2, h3⟩ := (herd_mem xs p).1 hp
    refine ⟨p.1, ?_, by rw [h3]; simpa using hl⟩
    rw [h2, List.getD_eq_getElem?_getD, List.getElem?_eq_getElem h1]
    exact List.getElem_mem h1
  · rintro ⟨b, hb, hl⟩
    rw [Bool.and_eq_true] at hl
    obtain ⟨m, hm', rfl⟩ := List.getElem_of_mem hb
    refine ⟨(xs[m]).s, ?_, hl.2⟩
    unfold hset
    exact List.mem_map.2 ⟨(xs[m], m), (herd_mem xs _).2 ⟨hm', by simp [hm'], hl.1⟩, rfl⟩
theorem hset_len (xs : List Cho) (n : Nat) : (hset xs n).length = (herd xs n).length := by simp [hset]
theorem hnum_len (xs : List Cho) (n : Nat) : (hnum xs n).length = (herd xs n).length := by simp [hnum]
/-- Where the first one of those that are heard stands. -/
theorem all_first (xs : List Cho) : (firstI (hset xs xs.length) = -1 ∧ allC xs = -1) ∨ ∃ k, k < (hnum xs xs.length).length ∧ firstI (hset xs xs.length) = (k : Int) ∧ (hnum xs xs.length).getD k 0 = allC xs := by
  rcases firstI_spec' (hset xs xs.length) with ⟨h1, h2⟩ | ⟨k, hk, h1, h2, h3⟩
  · refine .inl ⟨h1, allC_none xs fun j hj => ?_⟩
    unfold okC
    cases hi : (xs.getD j zeroCh).is with
    | false => rfl
    | true =>
      obtain ⟨i, hi1, hi2⟩ := List.getElem_of_mem ((herd_mem xs (xs.getD j zeroCh, j)).2 ⟨hj, rfl, hi⟩)
      have hb := bad_herd xs i hi1
      rw [hi2, h2 i (by rw [hset_len]; exact hi1)] at hb
      rw [← hb]
      rfl
  · right
    rw [hset_len] at hk
    refine ⟨k, by rw [hnum_len]; exact hk, h1, ?_⟩
    have hm := (herd_mem xs _).1 (List.getElem_mem hk)
    have hb := bad_herd xs k hk
    rw [h2] at hb
    have e : (hnum xs xs.length).getD k 0 = (((herd xs xs.length)[k]).2 : Int) := by
      unfold hnum
      simp [hk]
    rw [e]
    refine (allC_hit xs _ hm.1 (fun j hj => ?_) ?_).symm
    · unfold okC
      cases hi : (xs.getD j zeroCh).is with
      | false => rfl
      | true =>
        have hjl : j < xs.length := by omega
        obtain ⟨i, hi1, hi2⟩ := List.getElem_of_mem ((herd_mem xs (xs.getD j zeroCh, j)).2 ⟨hjl, rfl, hi⟩)
        have hik : i < k := by
          rcases Nat.lt_or_ge i k with h | h
          · exact h
          · have : ((herd xs xs.length)[k]).2 ≤ ((herd xs xs.length)[i]).2 := by
              rcases Nat.eq_or_lt_of_le h with h | h
              · subst h; exact Nat.le_refl _
              · exact Nat.le_of_lt (List.pairwise_iff_getElem.1 (herd_sorted xs xs.length) k i hk hi1 h)
            rw [hi2] at this
            dsimp only at this
            omega
        have hb' := bad_herd xs i hi1
        rw [hi2, h3 i hik] at hb'
        rw [← hb']
        rfl
    · unfold okC
      rw [← hm.2.1, hm.2.2, ← hb]
      rfl
end Go.Proofs.Ytcjbopobgpfjlaa
