/-
  No cell of these rows narrows 'for every input' (looked for: loops, veiled, ifaces, maps, wideKeys, modest, calm, conditions, laid).
  DERIVED. THE GIVEN ROWS OF THIS SEAT. 7 by the template 'for every input the law returns true; each argument reads behind the call as it read before'; 0 by the template 'total and deterministic' (their statements: YtdamljmbnkdjfaaTotals.lean).
  GIVEN WITH THE SEED: the statements are not yours to turn. If you find one false, say at which input.
  Laid BY PROGRAM, IN A SANDBOX (cutbox-rows.mjs): the forced cells as the released guide's own fill.sh prints them over the translation f78b50cb000cd0e8… (all of the seat's roots in one cut). By AI agents, Wed Nov 11 2026. No macro, syntax, notation, axiom, sorry.
-/
import Derived.Test.YtdamljmbnkdjfaaChecked
import GoSem.Claim
import GoSem.ClaimJoined
import GoSem.ClaimMapViews
import Derived.JoinedTies
import Derived.KernelRfl
namespace Go.Proofs.Ytdamljmbnkdjfaa
/- THE CELL 'sum', in the pinned program and in every row, IS THE sha256 OF THE DUMP (.gsa) THAT YtdamljmbnkdjfaaProg.lean LOADS. Nothing in Lean hashes anything: it is a label: what it is worth is what the hold of that sum in a sandbox is worth. -/
noncomputable def Try.pinned : Pinned := { name := "ytdamljmbnkdjfaa", sum := "f78b50cb000cd0e8a4144911857be14dd47f32584bf4d3d42173cbff24f382fa", checked := Try.checked }
namespace Rows
def none {H : Type} : Left H := { results := [], args := [] }

/-- 'horologelaw04.IdentTexts': WHATEVER THE INPUT: true; the input reads as it did. -/
def identTextsSpec : ChangeSpec := { name := "identTexts", fn := fun _ => fun
  | [d1, d2] => { results := [.lit (.bool true)], args := [d1, d2] }
  | _ => none }
def identTextsRow : OpenClaim := { program := "ytdamljmbnkdjfaa", sum := "f78b50cb000cd0e8a4144911857be14dd47f32584bf4d3d42173cbff24f382fa", func := "horologe/horologelaw04.IdentTexts", spec := "identTexts", apart := false }
def IdentTextsSaid : Prop := identTextsRow.holds Try.pinned (OpenSpec.ofChange identTextsSpec)

/-- ITS FALSE NEIGHBOUR: 'it returns false'. Refute it at one input. -/
def identTextsWrong : ChangeSpec := { name := "identTexts", fn := fun _ => fun
  | [d1, d2] => { results := [.lit (.bool false)], args := [d1, d2] }
  | _ => none }
def IdentTextsWrongFalsely : Prop := identTextsRow.holds Try.pinned (OpenSpec.ofChange identTextsWrong)

/-- 'horologelaw04.IdentCards': WHATEVER THE INPUT: true; the input reads as it did. -/
def identCardsSpec : ChangeSpec := { name := "identCards", fn := fun _ => fun
  | [d1, d2] => { results := [.lit (.bool true)], args := [d1, d2] }
  | _ => none }
def identCardsRow : OpenClaim := { program := "ytdamljmbnkdjfaa", sum := "f78b50cb000cd0e8a4144911857be14dd47f32584bf4d3d42173cbff24f382fa", func := "horologe/horologelaw04.IdentCards", spec := "identCards", apart := false }
def IdentCardsSaid : Prop := identCardsRow.holds Try.pinned (OpenSpec.ofChange identCardsSpec)

/-- ITS FALSE NEIGHBOUR: 'it returns false'. Refute it at one input. -/
def identCardsWrong : ChangeSpec := { name := "identCards", fn := fun _ => fun
  | [d1, d2] => { results := [.lit (.bool false)], args := [d1, d2] }
  | _ => none }
def IdentCardsWrongFalsely : Prop := identCardsRow.holds Try.pinned (OpenSpec.ofChange identCardsWrong)

/-- 'horologelaw04.IdentNames': WHATEVER THE INPUT: true; the input reads as it did. -/
def identNamesSpec : ChangeSpec := { name := "identNames", fn := fun _ => fun
  | [d1, d2] => { results := [.lit (.bool true)], args := [d1, d2] }
  | _ => none }
def identNamesRow : OpenClaim := { program := "ytdamljmbnkdjfaa", sum := "f78b50cb000cd0e8a4144911857be14dd47f32584bf4d3d42173cbff24f382fa", func := "horologe/horologelaw04.IdentNames", spec := "identNames", apart := false }
def IdentNamesSaid : Prop := identNamesRow.holds Try.pinned (OpenSpec.ofChange identNamesSpec)

/-- ITS FALSE NEIGHBOUR: 'it returns false'. Refute it at one input. -/
def identNamesWrong : ChangeSpec := { name := "identNames", fn := fun _ => fun
  | [d1, d2] => { results := [.lit (.bool false)], args := [d1, d2] }
  | _ => none }
def IdentNamesWrongFalsely : Prop := identNamesRow.holds Try.pinned (OpenSpec.ofChange identNamesWrong)

/-- 'horologelaw04.IdentOrders': WHATEVER THE INPUT: true; the input reads as it did. -/
def identOrdersSpec : ChangeSpec := { name := "identOrders", fn := fun _ => fun
  | [d1, d2] => { results := [.lit (.bool true)], args := [d1, d2] }
  | _ => none }
def identOrdersRow : OpenClaim := { program := "ytdamljmbnkdjfaa", sum := "f78b50cb000cd0e8a4144911857be14dd47f32584bf4d3d42173cbff24f382fa", func := "horologe/horologelaw04.IdentOrders", spec := "identOrders", apart := false }
def IdentOrdersSaid : Prop := identOrdersRow.holds Try.pinned (OpenSpec.ofChange identOrdersSpec)

/-- ITS FALSE NEIGHBOUR: 'it returns false'. Refute it at one input. -/
def identOrdersWrong : ChangeSpec := { name := "identOrders", fn := fun _ => fun
  | [d1, d2] => { results := [.lit (.bool false)], args := [d1, d2] }
  | _ => none }
def IdentOrdersWrongFalsely : Prop := identOrdersRow.holds Try.pinned (OpenSpec.ofChange identOrdersWrong)

/-- 'horologelaw04.IdentBytes': WHATEVER THE INPUT: true; the input reads as it did. -/
def identBytesSpec : ChangeSpec := { name := "identBytes", fn := fun _ => fun
  | [d1, d2] => { results := [.lit (.bool true)], args := [d1, d2] }
  | _ => none }
def identBytesRow : OpenClaim := { program := "ytdamljmbnkdjfaa", sum := "f78b50cb000cd0e8a4144911857be14dd47f32584bf4d3d42173cbff24f382fa", func := "horologe/horologelaw04.IdentBytes", spec := "identBytes", apart := false }
def IdentBytesSaid : Prop := identBytesRow.holds Try.pinned (OpenSpec.ofChange identBytesSpec)

/-- ITS FALSE NEIGHBOUR: 'it returns false'. Refute it at one input. -/
def identBytesWrong : ChangeSpec := { name := "identBytes", fn := fun _ => fun
  | [d1, d2] => { results := [.lit (.bool false)], args := [d1, d2] }
  | _ => none }
def IdentBytesWrongFalsely : Prop := identBytesRow.holds Try.pinned (OpenSpec.ofChange identBytesWrong)

/-- 'horologelaw04.IdentThree': WHATEVER THE INPUT: true; the input reads as it did. -/
def identThreeSpec : ChangeSpec := { name := "identThree", fn := fun _ => fun
  | [d1, d2, d3] => { results := [.lit (.bool true)], args := [d1, d2, d3] }
  | _ => none }
def identThreeRow : OpenClaim := { program := "ytdamljmbnkdjfaa", sum := "f78b50cb000cd0e8a4144911857be14dd47f32584bf4d3d42173cbff24f382fa", func := "horologe/horologelaw04.IdentThree", spec := "identThree", apart := false }
def IdentThreeSaid : Prop := identThreeRow.holds Try.pinned (OpenSpec.ofChange identThreeSpec)

/-- ITS FALSE NEIGHBOUR: 'it returns false'. Refute it at one input. -/
def identThreeWrong : ChangeSpec := { name := "identThree", fn := fun _ => fun
  | [d1, d2, d3] => { results := [.lit (.bool false)], args := [d1, d2, d3] }
  | _ => none }
def IdentThreeWrongFalsely : Prop := identThreeRow.holds Try.pinned (OpenSpec.ofChange identThreeWrong)

/-- 'horologelaw04.IdentSame': WHATEVER THE INPUT: true; the input reads as it did. -/
def identSameSpec : ChangeSpec := { name := "identSame", fn := fun _ => fun
  | [d1, d2, d3] => { results := [.lit (.bool true)], args := [d1, d2, d3] }
  | _ => none }
def identSameRow : OpenClaim := { program := "ytdamljmbnkdjfaa", sum := "f78b50cb000cd0e8a4144911857be14dd47f32584bf4d3d42173cbff24f382fa", func := "horologe/horologelaw04.IdentSame", spec := "identSame", apart := false }
def IdentSameSaid : Prop := identSameRow.holds Try.pinned (OpenSpec.ofChange identSameSpec)

/-- ITS FALSE NEIGHBOUR: 'it returns false'. Refute it at one input. -/
def identSameWrong : ChangeSpec := { name := "identSame", fn := fun _ => fun
  | [d1, d2, d3] => { results := [.lit (.bool false)], args := [d1, d2, d3] }
  | _ => none }
def IdentSameWrongFalsely : Prop := identSameRow.holds Try.pinned (OpenSpec.ofChange identSameWrong)

/- THE SECOND FORM. 'bulk': how many values and letters a reading holds, each counted each time it is reached (what is shared counts as often as it is met; a slice's spare places count too). A statement '..UptoSaid' is the law's where the arguments, and the package variables that the reading takes, are together of bulk at most 1048576: NARROWER than '..Said'. Prove '..Said' where nothing that the law and all that it calls make is longer than what came in: it says more and counts as full. Else prove '..UptoSaid'. A law counts once. -/
mutual
def uptoBulk {H : Type} : DataW H → Nat
  | .lit (.string bytes) => bytes.length + 1
  | .lit _ => 1
  | .nil => 1
  | .ptr d => uptoBulk d + 1
  | .slice elems spare => uptoBulkAll elems + uptoBulkAll spare + 1
  | .agg parts => uptoBulkAll parts + 1
  | .iface _ d => uptoBulk d + 1
  | .map entries => uptoBulkEntries entries + 1
  | .held _ => 1
def uptoBulkAll {H : Type} : List (DataW H) → Nat
  | [] => 0
  | d :: r => uptoBulk d + uptoBulkAll r
def uptoBulkEntries {H : Type} : List (Lit × DataW H) → Nat
  | [] => 0
  | x :: r => uptoBulkEntry x + uptoBulkEntries r
def uptoBulkEntry {H : Type} : Lit × DataW H → Nat
  | (.string bytes, d) => bytes.length + uptoBulk d + 1
  | (_, d) => uptoBulk d + 1
 end
def uptoSmall : (H : Type) → List (DataW H) → Bool := fun _ ds => decide (uptoBulkAll ds ≤ 1048576)
def OpenSpec.upto (s : _root_.Go.ChangeSpec) : _root_.Go.OpenSpec := { _root_.Go.OpenSpec.ofChange s with cond := some uptoSmall }

/-- 'horologelaw04.IdentTexts', WHERE WHAT IT READS IS OF BULK AT MOST 1048576: true; the input reads as it did. -/
def identTextsUptoRow : OpenClaim := { program := "ytdamljmbnkdjfaa", sum := "f78b50cb000cd0e8a4144911857be14dd47f32584bf4d3d42173cbff24f382fa", func := "horologe/horologelaw04.IdentTexts", spec := "identTexts", apart := false, narrowed := true }
def IdentTextsUptoSaid : Prop := identTextsUptoRow.holds Try.pinned (OpenSpec.upto identTextsSpec)

/-- 'horologelaw04.IdentCards', WHERE WHAT IT READS IS OF BULK AT MOST 1048576: true; the input reads as it did. -/
def identCardsUptoRow : OpenClaim := { program := "ytdamljmbnkdjfaa", sum := "f78b50cb000cd0e8a4144911857be14dd47f32584bf4d3d42173cbff24f382fa", func := "horologe/horologelaw04.IdentCards", spec := "identCards", apart := false, narrowed := true }
def IdentCardsUptoSaid : Prop := identCardsUptoRow.holds Try.pinned (OpenSpec.upto identCardsSpec)

/-- 'horologelaw04.IdentNames', WHERE WHAT IT READS IS OF BULK AT MOST 1048576: true; the input reads as it did. -/
def identNamesUptoRow : OpenClaim := { program := "ytdamljmbnkdjfaa", sum := "f78b50cb000cd0e8a4144911857be14dd47f32584bf4d3d42173cbff24f382fa", func := "horologe/horologelaw04.IdentNames", spec := "identNames", apart := false, narrowed := true }
def IdentNamesUptoSaid : Prop := identNamesUptoRow.holds Try.pinned (OpenSpec.upto identNamesSpec)

/-- 'horologelaw04.IdentOrders', WHERE WHAT IT READS IS OF BULK AT MOST 1048576: true; the input reads as it did. -/
def identOrdersUptoRow : OpenClaim := { program := "ytdamljmbnkdjfaa", sum := "f78b50cb000cd0e8a4144911857be14dd47f32584bf4d3d42173cbff24f382fa", func := "horologe/horologelaw04.IdentOrders", spec := "identOrders", apart := false, narrowed := true }
def IdentOrdersUptoSaid : Prop := identOrdersUptoRow.holds Try.pinned (OpenSpec.upto identOrdersSpec)

/-- 'horologelaw04.IdentBytes', WHERE WHAT IT READS IS OF BULK AT MOST 1048576: true; the input reads as it did. -/
def identBytesUptoRow : OpenClaim := { program := "ytdamljmbnkdjfaa", sum := "f78b50cb000cd0e8a4144911857be14dd47f32584bf4d3d42173cbff24f382fa", func := "horologe/horologelaw04.IdentBytes", spec := "identBytes", apart := false, narrowed := true }
def IdentBytesUptoSaid : Prop := identBytesUptoRow.holds Try.pinned (OpenSpec.upto identBytesSpec)

/-- 'horologelaw04.IdentThree', WHERE WHAT IT READS IS OF BULK AT MOST 1048576: true; the input reads as it did. -/
def identThreeUptoRow : OpenClaim := { program := "ytdamljmbnkdjfaa", sum := "f78b50cb000cd0e8a4144911857be14dd47f32584bf4d3d42173cbff24f382fa", func := "horologe/horologelaw04.IdentThree", spec := "identThree", apart := false, narrowed := true }
def IdentThreeUptoSaid : Prop := identThreeUptoRow.holds Try.pinned (OpenSpec.upto identThreeSpec)

/-- 'horologelaw04.IdentSame', WHERE WHAT IT READS IS OF BULK AT MOST 1048576: true; the input reads as it did. -/
def identSameUptoRow : OpenClaim := { program := "ytdamljmbnkdjfaa", sum := "f78b50cb000cd0e8a4144911857be14dd47f32584bf4d3d42173cbff24f382fa", func := "horologe/horologelaw04.IdentSame", spec := "identSame", apart := false, narrowed := true }
def IdentSameUptoSaid : Prop := identSameUptoRow.holds Try.pinned (OpenSpec.upto identSameSpec)

end Rows
end Go.Proofs.Ytdamljmbnkdjfaa
