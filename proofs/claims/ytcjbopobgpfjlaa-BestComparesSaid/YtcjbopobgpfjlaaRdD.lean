/-
  How pairs of numbers read. No condition.
-/
import Derived.Test.YtcjbopobgpfjlaaRdC
namespace Go.Proofs.Ytcjbopobgpfjlaa
open Go.RowKit Go.ChangeShapes Go.WideShapes Go.ChangeAt

section
variable {H : Type} {enc : TypeId × Value → H} {w : World} {base : Nat} {spare : Nat → Bool} {held : Bool}
theorem rd_x2 {v : Value} {d : DataW H} {p : List MemPlace} (h : DataW.Trod enc Try.prog w base spare held 55 v d p) : ∃ x y : Int, v = .agg #[.int .i64 x, .int .i64 y] := by
  obtain ⟨fuel, hf⟩ := h
  obtain ⟨xs, m, _, _, hl, hlen, hf⟩ := DataW.trod_array Try.underlying55 hf
  rw [show Try.prog.cellsOf 55 = 2 by kernel_rfl] at hl
  have e1 : Try.prog.cellsOf 3 = 1 := by kernel_rfl
  match xs, hlen with
  | [y0, y1], _ =>
    obtain ⟨a, h0, _⟩ := rd_num (by simpa using hf 0 (by omega))
    obtain ⟨b, h1, _⟩ := rd_num (by simpa using hf 1 (by omega))
    rw [e1] at h0 h1
    refine ⟨a, b, agg_of (cs := [.int .i64 a, .int .i64 b]) ?_ (by simp)⟩
    have e : v.cells.toList.take 2 = _ := take_join (a := 1) (b := 1) h0 h1
    rw [List.take_of_length_le (by omega)] at e
    rw [e]
    simp
end
end Go.Proofs.Ytcjbopobgpfjlaa
