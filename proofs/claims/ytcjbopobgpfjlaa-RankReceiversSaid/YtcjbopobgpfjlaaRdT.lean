/-
  How pairs of ports read. No condition.
-/
import Derived.Test.YtcjbopobgpfjlaaRaL
import Derived.Test.YtcjbopobgpfjlaaRdS
namespace Go.Proofs.Ytcjbopobgpfjlaa
open Go.RowKit Go.ChangeShapes Go.WideShapes Go.ChangeAt

section
variable {H : Type} {enc : TypeId × Value → H} {w : World} {base : Nat} {spare : Nat → Bool} {held : Bool}
theorem rd_two {v : Value} {d : DataW H} {p : List MemPlace} (h : DataW.Trod enc Try.prog w base spare held 40 v d p) : ∃ x y : Prt, v = .agg (xa x y) := by
  obtain ⟨fuel, hf⟩ := h
  obtain ⟨xs, m, _, _, hl, hlen, hf⟩ := DataW.trod_array Try.underlying40 hf
  rw [show Try.prog.cellsOf 40 = 18 by kernel_rfl] at hl
  have e9 : Try.prog.cellsOf 27 = 9 := by kernel_rfl
  match xs, hlen with
  | [y0, y1], _ =>
    obtain ⟨a, h0, _⟩ := rd_prtc (by simpa using hf 0 (by omega))
    obtain ⟨b, h1, _⟩ := rd_prtc (by simpa using hf 1 (by omega))
    rw [e9] at h0 h1
    refine ⟨a, b, agg_of (cs := (xa a b).toList) ?_ (by simp)⟩
    have e : v.cells.toList.take 18 = _ := take_join (a := 9) (b := 9) h0 h1
    rw [List.take_of_length_le (by omega)] at e
    rw [e]
    simp [xa]
end
end Go.Proofs.Ytcjbopobgpfjlaa
