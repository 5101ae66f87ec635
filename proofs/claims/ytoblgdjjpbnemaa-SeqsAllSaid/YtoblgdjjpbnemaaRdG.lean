/-
  How slices of structs read, over any element that reads as an array of n cells. No condition.
-/
import Derived.Test.YtoblgdjjpbnemaaRd
import Derived.ChangeSlices
namespace Go.Proofs.Ytoblgdjjpbnemaa
open Go.RowKit Go.ChangeShapes Go.WideShapes Go.ChangeAt

theorem add_pl (b off k : Nat) : (⟨b, off, none⟩ : Addr).add k = ⟨b, off + k, none⟩ := by unfold Addr.add; split <;> simp_all
/-- Elements of n cells, one behind the other. -/
def RowsAt {α : Type} (f : α → Array Value) (z : α) (n : Nat) (w : World) (b off : Nat) (xs : List α) : Prop :=
  ∀ k, k < xs.length → off + k * n + n ≤ (row? w b).size ∧ sub (row? w b) (off + k * n) n = f (xs.getD k z)
def RowsIn {α : Type} (f : α → Array Value) (z : α) (n : Nat) (w : World) (a : Option Addr) (xs : List α) : Prop :=
  xs = [] ∨ ∃ b off, a = some ⟨b, off, none⟩ ∧ RowsAt f z n w b off xs
theorem RowsAt.lt {α : Type} {f : α → Array Value} {z : α} {n : Nat} {w : World} {b off : Nat} {xs : List α} (h : RowsAt f z n w b off xs) (hn : 0 < n) (h0 : xs ≠ []) : b < w.heap.size := row_lt (by
  intro e
  have := (h 0 (List.length_pos_iff.2 h0)).1
  rw [e] at this
  simp at this
  omega)
theorem RowsAt.same {α : Type} {f : α → Array Value} {z : α} {n : Nat} {w w' : World} {b off : Nat} {xs : List α} (h : RowsAt f z n w b off xs) (e : row? w' b = row? w b) : RowsAt f z n w' b off xs := by
  intro k hk
  rw [e]
  exact h k hk
theorem RowsIn.gr {α : Type} {f : α → Array Value} {z : α} {n : Nat} {w : World} {a : Option Addr} {xs : List α} (h : RowsIn f z n w a xs) (hn : 0 < n) (d : World) : RowsIn f z n (gr w d) a xs := by
  rcases h with h | ⟨b, off, e, h⟩
  · exact .inl h
  · by_cases h0 : xs = []
    · exact .inl h0
    · exact .inr ⟨b, off, e, h.same (Below_row (gr_below w d) (h.lt hn h0))⟩
theorem RowsIn.below {α : Type} {f : α → Array Value} {z : α} {n : Nat} {w w' : World} {a : Option Addr} {xs : List α} (h : RowsIn f z n w a xs) (hn : 0 < n) (hb : Below w.heap.size w w') : RowsIn f z n w' a xs := by
  rcases h with h | ⟨b, off, e, h⟩
  · exact .inl h
  · by_cases h0 : xs = []
    · exact .inl h0
    · exact .inr ⟨b, off, e, h.same (Below_row hb (h.lt hn h0))⟩
/-- The k-th one, wherever the slice lies. -/
theorem RowsIn.at {α : Type} {f : α → Array Value} {z : α} {n : Nat} {w : World} {a : Option Addr} {xs : List α} (h : RowsIn f z n w a xs) (h0 : xs ≠ []) : ∃ b off, a = some ⟨b, off, none⟩ ∧ RowsAt f z n w b off xs := h.resolve_left h0
section
variable {H : Type} {enc : TypeId × Value → H} {P : Program} {w : World} {base : Nat} {spare : Nat → Bool} {held : Bool}
theorem rd_rows {α : Type} (f : α → Array Value) (z : α) (Pd : α → Prop) (n : Nat) (hn : 0 < n) (hfs : ∀ s, (f s).size = n) {t e : TypeId} (ht : P.underlying t = some (.slice e)) (hce : P.cellsOf e = n)
    (hread : ∀ {fuel : Nat} {cs : List Value} {x : DataW H × List MemPlace}, DataW.trod enc P w base spare held fuel e cs = some x → ∃ s : α, cs = (f s).toList ∧ Pd s)
    {x : Option Addr} {len cap : Nat} {d : DataW H} {p : List MemPlace} (h : DataW.Trod enc P w base spare held t (.slice x len cap) d p) :
    len ≤ cap ∧ cap ≤ maxLen ∧ ∃ xs : List α, xs.length = len ∧ RowsIn f z n w x xs ∧ ∀ k, k < xs.length → Pd (xs.getD k z) := by
  obtain ⟨fuel, hf⟩ := h
  rcases DataW.trod_slice ht hf with ⟨h1, _⟩ | ⟨a, len', cap', elems, rest, q, _, h1, _, hb, hlc, hmx, hel, hE, _⟩
  · simp [Value.cells] at h1
    obtain ⟨_, rfl, rfl⟩ := h1
    exact ⟨Nat.le_refl _, Nat.zero_le _, [], rfl, .inl rfl, fun k hk => absurd hk (by simp)⟩
  · simp [Value.cells] at h1
    obtain ⟨rfl, rfl, rfl⟩ := h1
    refine ⟨hlc, hmx, ?_⟩
    rw [hce] at hE
    have H1 : ∀ i, i < len → ∃ s : α, Pd s ∧ ∀ j, j < n → w.cell? ((a.add (i * n)).add j) = (f s)[j]? := by
      intro i hi
      have h1 := hE i hi
      rw [List.getElem?_eq_getElem (by omega : i < elems.length)] at h1
      obtain ⟨cs, hc, ht⟩ := Option.bind_eq_some_iff.1 h1
      obtain ⟨s, e, hn⟩ := hread ht
      obtain ⟨_, hl, hall⟩ := World.cells?_some hc
      refine ⟨s, hn, fun j hj => ?_⟩
      have := hall j (by omega)
      rw [this, e]
      simp
    by_cases h0 : len = 0
    · subst h0
      exact ⟨[], rfl, .inl rfl, fun k hk => absurd hk (by simp)⟩
    have hsp : a.spot = none := by
      obtain ⟨s, _, hj⟩ := H1 0 (by omega)
      have h0 := hj 0 (by omega)
      rw [Nat.zero_mul] at h0
      have e0 : (a.add 0).add 0 = a := by simp [Addr.add]
      rw [e0, Array.getElem?_eq_getElem (by rw [hfs]; exact hn)] at h0
      unfold World.cell? at h0
      split at h0
      · split at h0
        · cases h0
        · rename_i hs
          simpa using hs
      · cases h0
    obtain ⟨b, off, sp⟩ := a
    dsimp only at hsp
    subst hsp
    have H2 : ∀ i, i < len → ∃ s : α, Pd s ∧ ∀ j, j < n → (row? w b)[off + i * n + j]? = (f s)[j]? := by
      intro i hi
      obtain ⟨s, hn, hj⟩ := H1 i hi
      refine ⟨s, hn, fun j hj' => ?_⟩
      have := hj j hj'
      rw [add_pl, add_pl, cell_row] at this
      exact this
    let g : Nat → α := fun i => if h : i < len then Classical.choose (H2 i h) else z
    have hg : ∀ i, (h : i < len) → Pd (g i) ∧ ∀ j, j < n → (row? w b)[off + i * n + j]? = (f (g i))[j]? := by
      intro i h
      have := Classical.choose_spec (H2 i h)
      show Pd (if h : i < len then Classical.choose (H2 i h) else z) ∧ ∀ j, j < n → (row? w b)[off + i * n + j]? = (f (if h : i < len then Classical.choose (H2 i h) else z))[j]?
      rw [dif_pos h]
      exact this
    have hget : ∀ k, k < len → ((List.range len).map g).getD k z = g k := fun k hk => by simp [hk]
    refine ⟨(List.range len).map g, by simp, .inr ⟨b, off, rfl, fun k hk => ?_⟩, fun k hk => ?_⟩
    · have hk' : k < len := by simpa using hk
      obtain ⟨_, hj⟩ := hg k hk'
      rw [hget k hk']
      have hl := (hj (n - 1) (by omega)).trans (Array.getElem?_eq_getElem (by rw [hfs]; omega))
      have hlt := (Array.getElem?_eq_some_iff.1 hl).1
      refine ⟨by omega, ?_⟩
      unfold sub
      apply Array.ext_getElem?
      intro j
      rw [Array.getElem?_extract]
      by_cases hj' : j < n
      · rw [if_pos (by omega), hj j hj']
      · rw [if_neg (by omega), Array.getElem?_eq_none (by rw [hfs]; omega)]
    · have hk' : k < len := by simpa using hk
      rw [hget k hk']
      exact (hg k hk').1
end
end Go.Proofs.Ytoblgdjjpbnemaa
