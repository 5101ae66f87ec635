/-
  How a slice of bytes reads that came in. Over any program. No condition.
-/
import Derived.Test.YtdamljmbnkdjfaaIdM
import Derived.Test.YtdamljmbnkdjfaaRd
import Derived.ChangeSlices
namespace Go.Proofs.Ytdamljmbnkdjfaa
open Go.RowKit Go.ChangeShapes Go.WideShapes Go.ChangeAt

section
variable {H : Type} {enc : TypeId × Value → H} {P : Program} {w : World} {base : Nat} {spare : Nat → Bool} {held : Bool}
theorem rd_slice {t e : TypeId} {x : Option Addr} {n m : Nat} {d : DataW H} {p : List MemPlace} (ht : P.underlying t = some (.slice e)) (he : P.underlying e = some (.int .u8)) (hc : P.cellsOf e = 1)
    (h : DataW.Trod enc P w base spare held t (.slice x n m) d p) : n ≤ m ∧ SlArg w x n := by
  obtain ⟨fuel, hf⟩ := h
  rcases open_ints ht he hc hf with ⟨h1, _⟩ | ⟨a, len, cap, zs, h1, _, hle, _, hz, _, hcell, hwf⟩
  · simp [Value.cells] at h1
    obtain ⟨_, rfl, rfl⟩ := h1
    exact ⟨Nat.le_refl _, fun h => absurd h (by decide)⟩
  · simp [Value.cells] at h1
    obtain ⟨rfl, rfl, rfl⟩ := h1
    refine ⟨hle, fun hl => ?_⟩
    · subst hl
      have hzl : 10 ≤ zs.length := by rw [hz]; split <;> omega
      have hsp : a.spot = none := by
        have h0 := hcell 0 (by omega)
        rw [Addr.add, if_pos rfl] at h0
        unfold World.cell? at h0
        split at h0
        · split at h0
          · cases h0
          · rename_i hs
            simpa using hs
        · cases h0
      obtain ⟨b, off, sp⟩ := a
      dsimp only at hsp
      subst hsp
      have hrow : ∀ k, k < zs.length → (row? w b)[off + k]? = some (.int .u8 (zs.getD k 0)) := fun k hk => by
        have := hcell k hk
        rw [add_plain, cell_row] at this
        exact this
      have hr : ∀ x ∈ zs.take 10, 0 ≤ x ∧ x < 256 := fun x hx => by have := bounds_u8 (hwf x (List.mem_of_mem_take hx)); omega
      refine ⟨b, off, zs.take 10, ⟨(zs.take 10).take 8, by simp; omega, fun x hx => hr x (List.mem_of_mem_take hx)⟩, rfl, by simp; omega, hr, rfl, ?_, fun k hk => ?_⟩
      · have h9 := hrow 9 (by omega)
        have := Array.getElem?_eq_some_iff.1 h9
        obtain ⟨h9, _⟩ := this
        omega
      · rw [hrow k (by omega)]
        simp [List.getD, hk]
end
end Go.Proofs.Ytdamljmbnkdjfaa
