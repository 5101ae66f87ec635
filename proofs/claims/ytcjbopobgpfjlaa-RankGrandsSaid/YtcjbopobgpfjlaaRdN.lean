/-
  How slices of sets read. No condition.
-/
import Derived.Test.YtcjbopobgpfjlaaRaM
import Derived.Test.YtcjbopobgpfjlaaRdS
namespace Go.Proofs.Ytcjbopobgpfjlaa
open Go.RowKit Go.ChangeShapes Go.WideShapes Go.ChangeAt

section
variable {H : Type} {enc : TypeId × Value → H} {w : World} {base : Nat} {spare : Nat → Bool} {held : Bool}
theorem rd_sets {x : Option Addr} {n m : Nat} {d : DataW H} {p : List MemPlace} (h : DataW.Trod enc Try.prog w base spare held 35 (.slice x n m) d p) :
    n ≤ m ∧ m ≤ maxLen ∧ ∃ xs : List Sett, xs.length = n ∧ SetsIn w x xs ∧ ∀ k, k < xs.length → inR (xs.getD k zeroS).n := by
  obtain ⟨fuel, hf⟩ := h
  rcases DataW.trod_slice Try.underlying35 hf with ⟨h1, _⟩ | ⟨a, len, cap, elems, rest, q, _, h1, _, hb, hlc, hmx, hel, hE, _⟩
  · simp [Value.cells] at h1
    obtain ⟨_, rfl, rfl⟩ := h1
    exact ⟨Nat.le_refl _, Nat.zero_le _, [], rfl, .inl rfl, fun k hk => absurd hk (by simp)⟩
  · simp [Value.cells] at h1
    obtain ⟨rfl, rfl, rfl⟩ := h1
    refine ⟨hlc, hmx, ?_⟩
    rw [show Try.prog.cellsOf 29 = 32 by kernel_rfl] at hE
    have H1 : ∀ i, i < n → ∃ s : Sett, inR s.n ∧ ∀ j, j < 32 → w.cell? ((a.add (i * 32)).add j) = (sa s)[j]? := by
      intro i hi
      have h1 := hE i hi
      rw [List.getElem?_eq_getElem (by omega : i < elems.length)] at h1
      obtain ⟨cs, hc, ht⟩ := Option.bind_eq_some_iff.1 h1
      obtain ⟨s, e, hn⟩ := rd_setc ht
      obtain ⟨_, hl, hall⟩ := World.cells?_some hc
      refine ⟨s, hn, fun j hj => ?_⟩
      have := hall j (by omega)
      rw [this, e]
      simp
    by_cases h0 : n = 0
    · subst h0
      exact ⟨[], rfl, .inl rfl, fun k hk => absurd hk (by simp)⟩
    have hsp : a.spot = none := by
      obtain ⟨s, _, hj⟩ := H1 0 (by omega)
      have h0 := hj 0 (by omega)
      rw [Nat.zero_mul] at h0
      have e0 : (a.add 0).add 0 = a := by simp [Addr.add]
      rw [e0, sa_0] at h0
      unfold World.cell? at h0
      split at h0
      · split at h0
        · cases h0
        · rename_i hs
          simpa using hs
      · cases h0
    obtain ⟨b, off, sp⟩ := a
    dsimp only at hsp
    subst hsp
    have H2 : ∀ i, i < n → ∃ s : Sett, inR s.n ∧ ∀ j, j < 32 → (row? w b)[off + i * 32 + j]? = (sa s)[j]? := by
      intro i hi
      obtain ⟨s, hn, hj⟩ := H1 i hi
      refine ⟨s, hn, fun j hj' => ?_⟩
      have := hj j hj'
      rw [add_plain, add_plain, cell_row] at this
      exact this
    let f : Nat → Sett := fun i => if h : i < n then Classical.choose (H2 i h) else zeroS
    have hf : ∀ i, (h : i < n) → inR (f i).n ∧ ∀ j, j < 32 → (row? w b)[off + i * 32 + j]? = (sa (f i))[j]? := by
      intro i h
      have := Classical.choose_spec (H2 i h)
      show inR (if h : i < n then Classical.choose (H2 i h) else zeroS).n ∧ ∀ j, j < 32 → (row? w b)[off + i * 32 + j]? = (sa (if h : i < n then Classical.choose (H2 i h) else zeroS))[j]?
      rw [dif_pos h]
      exact this
    have hget : ∀ k, k < n → ((List.range n).map f).getD k zeroS = f k := fun k hk => by simp [hk]
    refine ⟨(List.range n).map f, by simp, .inr ⟨b, off, rfl, fun k hk => ?_⟩, fun k hk => ?_⟩
    · have hk' : k < n := by simpa using hk
      obtain ⟨_, hj⟩ := hf k hk'
      rw [hget k hk']
      have h31 := hj 31 (by omega)
      rw [sa_31] at h31
      have hlt := (Array.getElem?_eq_some_iff.1 h31).1
      refine ⟨by omega, ?_⟩
      unfold sub
      apply Array.ext_getElem?
      intro j
      rw [Array.getElem?_extract]
      by_cases hj' : j < 32
      · rw [if_pos (by omega), hj j hj']
      · rw [if_neg (by omega), Array.getElem?_eq_none (by simp; omega)]
    · have hk' : k < n := by simpa using hk
      rw [hget k hk']
      exact (hf k hk').1
end
end Go.Proofs.Ytcjbopobgpfjlaa
