/-
  How pairs of numbers read. No condition.
-/
import Derived.Test.YtbdpnmocbpplbaaRd
import Derived.Test.YtbdpnmocbpplbaaProg
namespace Go.Proofs.Ytbdpnmocbpplbaa
open Go.RowKit Go.ChangeShapes Go.WideShapes Go.ChangeAt

section
variable {H : Type} {enc : TypeId × Value → H} {w : World} {base : Nat} {spare : Nat → Bool} {held : Bool}
theorem rd_x2 {v : Value} {d : DataW H} {p : List MemPlace} (h : DataW.Trod enc Try.prog w base spare held 56 v d p) : ∃ x y : Int, v = .agg #[.int .i64 x, .int .i64 y] := by
  obtain ⟨fuel, hf⟩ := h
  obtain ⟨xs, m, _, _, hl, hlen, hf⟩ := DataW.trod_array Try.underlying56 hf
  rw [show Try.prog.cellsOf 56 = 2 by kernel_rfl] at hl
  have e1 : Try.prog.cellsOf 3 = 1 := by kernel_rfl
  match xs, hlen with
  | [y0, y1], _ =>
    obtain ⟨a, h0, _⟩ := DataW.trod_int Try.underlying3 (by simpa using hf 0 (by omega))
    obtain ⟨b, h1, _⟩ := DataW.trod_int Try.underlying3 (by simpa using hf 1 (by omega))
    rw [e1] at h0 h1
    refine ⟨a, b, agg_of (cs := [.int .i64 a, .int .i64 b]) ?_ (by simp)⟩
    have e : v.cells.toList.take (1 + 1) = [.int .i64 a] ++ [.int .i64 b] := by rw [List.take_add, h0, h1]
    rw [List.take_of_length_le (by omega)] at e
    rw [e]
    simp
end
end Go.Proofs.Ytbdpnmocbpplbaa
