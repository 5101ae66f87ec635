/-
  No cell of these rows narrows 'for every input' (looked for: loops, veiled, ifaces, maps, wideKeys, modest, calm, conditions, laid).
  DERIVED. THE GIVEN ROWS OF THIS SEAT. 6 by the template 'for every input the law returns true; each argument reads behind the call as it read before'; 0 by the template 'total and deterministic' (their statements: YtoblgdjjpbnemaaTotals.lean).
  GIVEN WITH THE SEED: the statements are not yours to turn. If you find one false, say at which input.
  Laid BY PROGRAM, IN A SANDBOX (cutbox-rows.mjs): the forced cells as the released guide's own fill.sh prints them over the translation e2e77fed5279ec23… (all of the seat's roots in one cut). By AI agents, Wed Nov 11 2026. No macro, syntax, notation, axiom, sorry.
-/
import Derived.Test.YtoblgdjjpbnemaaChecked
import GoSem.Claim
import GoSem.ClaimJoined
import GoSem.ClaimMapViews
import Derived.JoinedTies
import Derived.KernelRfl
namespace Go.Proofs.Ytoblgdjjpbnemaa
/- THE CELL 'sum', in the pinned program and in every row, IS THE sha256 OF THE DUMP (.gsa) THAT YtoblgdjjpbnemaaProg.lean LOADS. Nothing in Lean hashes anything: it is a label: what it is worth is what the hold of that sum in a sandbox is worth. -/
noncomputable def Try.pinned : Pinned := { name := "ytoblgdjjpbnemaa", sum := "e2e77fed5279ec235631fe4f7ed27d89a113cb59e2a5b1db4256cdde12ce39d7", checked := Try.checked }
namespace Rows
def none {H : Type} : Left H := { results := [], args := [] }

/-- 'horologelaw11.SeqsAll': WHATEVER THE INPUT: true; the input reads as it did. -/
def seqsAllSpec : ChangeSpec := { name := "seqsAll", fn := fun _ => fun
  | [d] => { results := [.lit (.bool true)], args := [d] }
  | _ => none }
def seqsAllRow : OpenClaim := { program := "ytoblgdjjpbnemaa", sum := "e2e77fed5279ec235631fe4f7ed27d89a113cb59e2a5b1db4256cdde12ce39d7", func := "horologe/horologelaw11.SeqsAll", spec := "seqsAll", plainKeys := false, apart := false }
def SeqsAllSaid : Prop := seqsAllRow.holds Try.pinned (OpenSpec.ofChange seqsAllSpec)

/-- ITS FALSE NEIGHBOUR: 'it returns false'. Refute it at one input. -/
def seqsAllWrong : ChangeSpec := { name := "seqsAll", fn := fun _ => fun
  | [d] => { results := [.lit (.bool false)], args := [d] }
  | _ => none }
def SeqsAllWrongFalsely : Prop := seqsAllRow.holds Try.pinned (OpenSpec.ofChange seqsAllWrong)

/-- 'horologelaw11.SeqsTwice': WHATEVER THE INPUT: true; the input reads as it did. -/
def seqsTwiceSpec : ChangeSpec := { name := "seqsTwice", fn := fun _ => fun
  | [d1, d2, d3] => { results := [.lit (.bool true)], args := [d1, d2, d3] }
  | _ => none }
def seqsTwiceRow : OpenClaim := { program := "ytoblgdjjpbnemaa", sum := "e2e77fed5279ec235631fe4f7ed27d89a113cb59e2a5b1db4256cdde12ce39d7", func := "horologe/horologelaw11.SeqsTwice", spec := "seqsTwice", plainKeys := false, apart := false }
def SeqsTwiceSaid : Prop := seqsTwiceRow.holds Try.pinned (OpenSpec.ofChange seqsTwiceSpec)

/-- ITS FALSE NEIGHBOUR: 'it returns false'. Refute it at one input. -/
def seqsTwiceWrong : ChangeSpec := { name := "seqsTwice", fn := fun _ => fun
  | [d1, d2, d3] => { results := [.lit (.bool false)], args := [d1, d2, d3] }
  | _ => none }
def SeqsTwiceWrongFalsely : Prop := seqsTwiceRow.holds Try.pinned (OpenSpec.ofChange seqsTwiceWrong)

/-- 'horologelaw11.SeqsHalves': WHATEVER THE INPUT: true; the input reads as it did. -/
def seqsHalvesSpec : ChangeSpec := { name := "seqsHalves", fn := fun _ => fun
  | [d1, d2, d3] => { results := [.lit (.bool true)], args := [d1, d2, d3] }
  | _ => none }
def seqsHalvesRow : OpenClaim := { program := "ytoblgdjjpbnemaa", sum := "e2e77fed5279ec235631fe4f7ed27d89a113cb59e2a5b1db4256cdde12ce39d7", func := "horologe/horologelaw11.SeqsHalves", spec := "seqsHalves", plainKeys := false, apart := false }
def SeqsHalvesSaid : Prop := seqsHalvesRow.holds Try.pinned (OpenSpec.ofChange seqsHalvesSpec)

/-- ITS FALSE NEIGHBOUR: 'it returns false'. Refute it at one input. -/
def seqsHalvesWrong : ChangeSpec := { name := "seqsHalves", fn := fun _ => fun
  | [d1, d2, d3] => { results := [.lit (.bool false)], args := [d1, d2, d3] }
  | _ => none }
def SeqsHalvesWrongFalsely : Prop := seqsHalvesRow.holds Try.pinned (OpenSpec.ofChange seqsHalvesWrong)

/-- 'horologelaw11.SeqsNexts': WHATEVER THE INPUT: true; the input reads as it did. -/
def seqsNextsSpec : ChangeSpec := { name := "seqsNexts", fn := fun _ => fun
  | [d1, d2] => { results := [.lit (.bool true)], args := [d1, d2] }
  | _ => none }
def seqsNextsRow : OpenClaim := { program := "ytoblgdjjpbnemaa", sum := "e2e77fed5279ec235631fe4f7ed27d89a113cb59e2a5b1db4256cdde12ce39d7", func := "horologe/horologelaw11.SeqsNexts", spec := "seqsNexts", plainKeys := false, apart := false }
def SeqsNextsSaid : Prop := seqsNextsRow.holds Try.pinned (OpenSpec.ofChange seqsNextsSpec)

/-- ITS FALSE NEIGHBOUR: 'it returns false'. Refute it at one input. -/
def seqsNextsWrong : ChangeSpec := { name := "seqsNexts", fn := fun _ => fun
  | [d1, d2] => { results := [.lit (.bool false)], args := [d1, d2] }
  | _ => none }
def SeqsNextsWrongFalsely : Prop := seqsNextsRow.holds Try.pinned (OpenSpec.ofChange seqsNextsWrong)

/-- 'horologelaw11.SeqsApart': WHATEVER THE INPUT: true; the input reads as it did. -/
def seqsApartSpec : ChangeSpec := { name := "seqsApart", fn := fun _ => fun
  | [d1, d2, d3] => { results := [.lit (.bool true)], args := [d1, d2, d3] }
  | _ => none }
def seqsApartRow : OpenClaim := { program := "ytoblgdjjpbnemaa", sum := "e2e77fed5279ec235631fe4f7ed27d89a113cb59e2a5b1db4256cdde12ce39d7", func := "horologe/horologelaw11.SeqsApart", spec := "seqsApart", plainKeys := false, apart := false }
def SeqsApartSaid : Prop := seqsApartRow.holds Try.pinned (OpenSpec.ofChange seqsApartSpec)

/-- ITS FALSE NEIGHBOUR: 'it returns false'. Refute it at one input. -/
def seqsApartWrong : ChangeSpec := { name := "seqsApart", fn := fun _ => fun
  | [d1, d2, d3] => { results := [.lit (.bool false)], args := [d1, d2, d3] }
  | _ => none }
def SeqsApartWrongFalsely : Prop := seqsApartRow.holds Try.pinned (OpenSpec.ofChange seqsApartWrong)

/-- 'horologelaw11.SeqsForgets': WHATEVER THE INPUT: true; the input reads as it did. -/
def seqsForgetsSpec : ChangeSpec := { name := "seqsForgets", fn := fun _ => fun
  | [d1, d2, d3] => { results := [.lit (.bool true)], args := [d1, d2, d3] }
  | _ => none }
def seqsForgetsRow : OpenClaim := { program := "ytoblgdjjpbnemaa", sum := "e2e77fed5279ec235631fe4f7ed27d89a113cb59e2a5b1db4256cdde12ce39d7", func := "horologe/horologelaw11.SeqsForgets", spec := "seqsForgets", plainKeys := false, apart := false }
def SeqsForgetsSaid : Prop := seqsForgetsRow.holds Try.pinned (OpenSpec.ofChange seqsForgetsSpec)

/-- ITS FALSE NEIGHBOUR: 'it returns false'. Refute it at one input. -/
def seqsForgetsWrong : ChangeSpec := { name := "seqsForgets", fn := fun _ => fun
  | [d1, d2, d3] => { results := [.lit (.bool false)], args := [d1, d2, d3] }
  | _ => none }
def SeqsForgetsWrongFalsely : Prop := seqsForgetsRow.holds Try.pinned (OpenSpec.ofChange seqsForgetsWrong)

/- THE SECOND FORM. 'bulk': how many values and letters a reading holds, each counted each time it is reached (what is shared counts as often as it is met; a slice's spare places count too). A statement '..UptoSaid' is the law's where the arguments, and the package variables that the reading takes, are together of bulk at most 1048576: NARROWER than '..Said'. Prove '..Said' where nothing that the law and all that it calls make is longer than what came in: it says more and counts as full. Else prove '..UptoSaid'. A law counts once. -/
mutual
def uptoBulk {H : Type} : DataW H → Nat
  | .lit (.string bytes) => bytes.length + 1
  | .lit _ => 1
  | .nil => 1
  | .ptr d => uptoBulk d + 1
  | .slice elems spare => uptoBulkAll elems + uptoBulkAll spare + 1
  | .agg parts => uptoBulkAll parts + 1
  | .iface _ d => uptoBulk d + 1
  | .map entries => uptoBulkEntries entries + 1
  | .held _ => 1
def uptoBulkAll {H : Type} : List (DataW H) → Nat
  | [] => 0
  | d :: r => uptoBulk d + uptoBulkAll r
def uptoBulkEntries {H : Type} : List (Lit × DataW H) → Nat
  | [] => 0
  | x :: r => uptoBulkEntry x + uptoBulkEntries r
def uptoBulkEntry {H : Type} : Lit × DataW H → Nat
  | (.string bytes, d) => bytes.length + uptoBulk d + 1
  | (_, d) => uptoBulk d + 1
 end
def uptoSmall : (H : Type) → List (DataW H) → Bool := fun _ ds => decide (uptoBulkAll ds ≤ 1048576)
def OpenSpec.upto (s : _root_.Go.ChangeSpec) : _root_.Go.OpenSpec := { _root_.Go.OpenSpec.ofChange s with cond := some uptoSmall }

/-- 'horologelaw11.SeqsAll', WHERE WHAT IT READS IS OF BULK AT MOST 1048576: true; the input reads as it did. -/
def seqsAllUptoRow : OpenClaim := { program := "ytoblgdjjpbnemaa", sum := "e2e77fed5279ec235631fe4f7ed27d89a113cb59e2a5b1db4256cdde12ce39d7", func := "horologe/horologelaw11.SeqsAll", spec := "seqsAll", plainKeys := false, apart := false, narrowed := true }
def SeqsAllUptoSaid : Prop := seqsAllUptoRow.holds Try.pinned (OpenSpec.upto seqsAllSpec)

/-- 'horologelaw11.SeqsTwice', WHERE WHAT IT READS IS OF BULK AT MOST 1048576: true; the input reads as it did. -/
def seqsTwiceUptoRow : OpenClaim := { program := "ytoblgdjjpbnemaa", sum := "e2e77fed5279ec235631fe4f7ed27d89a113cb59e2a5b1db4256cdde12ce39d7", func := "horologe/horologelaw11.SeqsTwice", spec := "seqsTwice", plainKeys := false, apart := false, narrowed := true }
def SeqsTwiceUptoSaid : Prop := seqsTwiceUptoRow.holds Try.pinned (OpenSpec.upto seqsTwiceSpec)

/-- 'horologelaw11.SeqsHalves', WHERE WHAT IT READS IS OF BULK AT MOST 1048576: true; the input reads as it did. -/
def seqsHalvesUptoRow : OpenClaim := { program := "ytoblgdjjpbnemaa", sum := "e2e77fed5279ec235631fe4f7ed27d89a113cb59e2a5b1db4256cdde12ce39d7", func := "horologe/horologelaw11.SeqsHalves", spec := "seqsHalves", plainKeys := false, apart := false, narrowed := true }
def SeqsHalvesUptoSaid : Prop := seqsHalvesUptoRow.holds Try.pinned (OpenSpec.upto seqsHalvesSpec)

/-- 'horologelaw11.SeqsNexts', WHERE WHAT IT READS IS OF BULK AT MOST 1048576: true; the input reads as it did. -/
def seqsNextsUptoRow : OpenClaim := { program := "ytoblgdjjpbnemaa", sum := "e2e77fed5279ec235631fe4f7ed27d89a113cb59e2a5b1db4256cdde12ce39d7", func := "horologe/horologelaw11.SeqsNexts", spec := "seqsNexts", plainKeys := false, apart := false, narrowed := true }
def SeqsNextsUptoSaid : Prop := seqsNextsUptoRow.holds Try.pinned (OpenSpec.upto seqsNextsSpec)

/-- 'horologelaw11.SeqsApart', WHERE WHAT IT READS IS OF BULK AT MOST 1048576: true; the input reads as it did. -/
def seqsApartUptoRow : OpenClaim := { program := "ytoblgdjjpbnemaa", sum := "e2e77fed5279ec235631fe4f7ed27d89a113cb59e2a5b1db4256cdde12ce39d7", func := "horologe/horologelaw11.SeqsApart", spec := "seqsApart", plainKeys := false, apart := false, narrowed := true }
def SeqsApartUptoSaid : Prop := seqsApartUptoRow.holds Try.pinned (OpenSpec.upto seqsApartSpec)

/-- 'horologelaw11.SeqsForgets', WHERE WHAT IT READS IS OF BULK AT MOST 1048576: true; the input reads as it did. -/
def seqsForgetsUptoRow : OpenClaim := { program := "ytoblgdjjpbnemaa", sum := "e2e77fed5279ec235631fe4f7ed27d89a113cb59e2a5b1db4256cdde12ce39d7", func := "horologe/horologelaw11.SeqsForgets", spec := "seqsForgets", plainKeys := false, apart := false, narrowed := true }
def SeqsForgetsUptoSaid : Prop := seqsForgetsUptoRow.holds Try.pinned (OpenSpec.upto seqsForgetsSpec)

end Rows
end Go.Proofs.Ytoblgdjjpbnemaa
