/-
  How slices of bytes read, and how many there are at most. No condition.
-/
import Derived.Test.YtbdpnmocbpplbaaRdH
import Derived.Test.YtbdpnmocbpplbaaQuO
namespace Go.Proofs.Ytbdpnmocbpplbaa
open Go.RowKit Go.ChangeShapes Go.WideShapes Go.ChangeAt

section
variable {H : Type} {enc : TypeId × Value → H} {w : World} {base : Nat} {spare : Nat → Bool} {held : Bool}
theorem rd_own {x : Option Addr} {len cap : Nat} {d : DataW H} {p : List MemPlace} (hw : ∀ m ∈ d.weights Try.prog 28, m ≤ reachBytes) (h : DataW.Trod enc Try.prog w base spare held 28 (.slice x len cap) d p) :
    ∃ xs : List Int, xs.length = len ∧ RowsIn b1 0 1 w x xs ∧ len ≤ 140737488351232 ∧ ∀ k, k < xs.length → 0 ≤ xs.getD k 0 ∧ xs.getD k 0 < 256 := by
  obtain ⟨fuel, hf⟩ := h
  have hf' : DataW.trod enc Try.prog w base spare held fuel 28 [.slice x len cap] = some (d, p) := by simpa [Value.cells] using hf
  obtain ⟨_, _, hb, bs, hbl, hr, hk⟩ := rd_rowsW b1 0 (fun z => 0 ≤ z ∧ z < 256) reachBytes 1 (by decide) (fun _ => rfl) Try.underlying28 (by kernel_rfl) (fun _ h => by
    obtain ⟨z, e, _, hz⟩ := DataW.trod_int Try.underlying5 h
    have hb := bounds_u8 hz
    exact ⟨z, by rw [e], by omega, by omega⟩) (d := (d, p)) hw hf'
  rw [show Try.prog.bytesOf 5 = 1 by kernel_rfl, Nat.mul_one] at hb
  exact ⟨bs, hbl, hr, hb, hk⟩
end
end Go.Proofs.Ytbdpnmocbpplbaa
