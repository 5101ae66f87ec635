/-
  How slices of numbers read. No condition.
-/
import Derived.Test.YtbdpnmocbpplbaaRdG
import Derived.Test.YtbdpnmocbpplbaaProg
namespace Go.Proofs.Ytbdpnmocbpplbaa
open Go.RowKit Go.ChangeShapes Go.WideShapes Go.ChangeAt

abbrev i1 (n : Int) : Array Value := #[.int .i64 n]
theorem ints_at {w : World} {b off : Nat} {xs : List Int} (h : RowsAt i1 0 1 w b off xs) (k : Nat) (hk : k < xs.length) : (row? w b)[off + k]? = some (.int .i64 (xs.getD k 0)) := by
  obtain ⟨h1, h2⟩ := h k hk
  have e : (sub (row? w b) (off + k * 1) 1)[0]? = some (.int .i64 (xs.getD k 0)) := by rw [h2]; rfl
  unfold sub at e
  rw [Array.getElem?_extract, if_pos (by omega)] at e
  simpa using e
section
variable {H : Type} {enc : TypeId × Value → H} {w : World} {base : Nat} {spare : Nat → Bool} {held : Bool}
theorem rd_ints {x : Option Addr} {len cap : Nat} {d : DataW H} {p : List MemPlace} (h : DataW.Trod enc Try.prog w base spare held 38 (.slice x len cap) d p) :
    len ≤ cap ∧ cap ≤ maxLen ∧ ∃ xs : List Int, xs.length = len ∧ RowsIn i1 0 1 w x xs ∧ ∀ k, k < xs.length → True :=
  rd_rows i1 0 (fun _ => True) 1 (by decide) (fun _ => rfl) Try.underlying38 (by kernel_rfl) (fun h => by
    obtain ⟨z, e, _, _⟩ := DataW.trod_int Try.underlying3 h
    exact ⟨z, by rw [e], trivial⟩) h
end
end Go.Proofs.Ytbdpnmocbpplbaa
