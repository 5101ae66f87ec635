/-
  How slices of sets, and ports, read. No condition.
-/
import Derived.Test.YtcjbopobgpfjlaaRdC
namespace Go.Proofs.Ytcjbopobgpfjlaa
open Go.RowKit Go.ChangeShapes Go.WideShapes Go.ChangeAt

section
variable {H : Type} {enc : TypeId × Value → H} {w : World} {base : Nat} {spare : Nat → Bool} {held : Bool}
theorem rd_setsc {x : Option Addr} {len cap : Nat} {d : DataW H} {p : List MemPlace} (h : DataW.Trod enc Try.prog w base spare held 35 (.slice x len cap) d p) :
    len ≤ cap ∧ cap ≤ maxLen ∧ ∃ xs : List Sett, xs.length = len ∧ RowsIn sa zeroS 32 w x xs ∧ ∀ k, k < xs.length → inR (xs.getD k zeroS).n :=
  rd_rows sa zeroS (fun s => inR s.n) 32 (by decide) sa_size Try.underlying35 (by kernel_rfl) rd_setc h
end
end Go.Proofs.Ytcjbopobgpfjlaa
