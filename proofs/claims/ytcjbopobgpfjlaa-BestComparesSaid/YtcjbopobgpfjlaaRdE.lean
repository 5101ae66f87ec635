/-
  How a choice reads. No condition.
-/
import Derived.Test.YtcjbopobgpfjlaaRdC
namespace Go.Proofs.Ytcjbopobgpfjlaa
open Go.RowKit Go.ChangeShapes Go.WideShapes Go.ChangeAt

section
variable {H : Type} {enc : TypeId × Value → H} {w : World} {base : Nat} {spare : Nat → Bool} {held : Bool}
theorem rd_cho {v : Value} {d : DataW H} {p : List MemPlace} (h : DataW.Trod enc Try.prog w base spare held 54 v d p) : ∃ s : Cho, v = .agg (cha s) ∧ inR s.s.n := by
  obtain ⟨fuel, hf⟩ := h
  obtain ⟨s, e, hn⟩ := rd_choc hf
  exact ⟨s, by rw [agg_of e (by simp)], hn⟩
end
end Go.Proofs.Ytcjbopobgpfjlaa
