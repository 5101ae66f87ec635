/-
  No cell of these rows narrows 'for every input' (looked for: loops, veiled, ifaces, maps, wideKeys, modest, calm, conditions, laid).
  DERIVED. THE GIVEN ROWS OF THIS SEAT. 6 by the template 'for every input the law returns true; each argument reads behind the call as it read before'; 0 by the template 'total and deterministic' (their statements: YtmibpmijcghpaaaTotals.lean).
  GIVEN WITH THE SEED: the statements are not yours to turn. If you find one false, say at which input.
  Laid BY PROGRAM, IN A SANDBOX (cutbox-rows.mjs): the forced cells as the released guide's own fill.sh prints them over the translation b8e9a1a0a5f76078… (all of the seat's roots in one cut). By AI agents, Wed Nov 11 2026. No macro, syntax, notation, axiom, sorry.
-/
import Derived.Test.YtmibpmijcghpaaaChecked
import GoSem.Claim
import GoSem.ClaimJoined
import GoSem.ClaimMapViews
import Derived.JoinedTies
import Derived.KernelRfl
namespace Go.Proofs.Ytmibpmijcghpaaa
/- THE CELL 'sum', in the pinned program and in every row, IS THE sha256 OF THE DUMP (.gsa) THAT YtmibpmijcghpaaaProg.lean LOADS. Nothing in Lean hashes anything: it is a label: what it is worth is what the hold of that sum in a sandbox is worth. -/
noncomputable def Try.pinned : Pinned := { name := "ytmibpmijcghpaaa", sum := "b8e9a1a0a5f7607875eff35011254ae1d2e6ffd0c3f82c40333a075b3be61e8b", checked := Try.checked }
namespace Rows
def none {H : Type} : Left H := { results := [], args := [] }

/-- 'horologelaw10.DecideAll': WHATEVER THE INPUT: true; the input reads as it did. -/
def decideAllSpec : ChangeSpec := { name := "decideAll", fn := fun _ => fun
  | [d1, d2, d3] => { results := [.lit (.bool true)], args := [d1, d2, d3] }
  | _ => none }
def decideAllRow : OpenClaim := { program := "ytmibpmijcghpaaa", sum := "b8e9a1a0a5f7607875eff35011254ae1d2e6ffd0c3f82c40333a075b3be61e8b", func := "horologe/horologelaw10.DecideAll", spec := "decideAll", unfollowed := true, recurses := true, apart := false }
def DecideAllSaid : Prop := decideAllRow.holds Try.pinned (OpenSpec.ofChange decideAllSpec)

/-- ITS FALSE NEIGHBOUR: 'it returns false'. Refute it at one input. -/
def decideAllWrong : ChangeSpec := { name := "decideAll", fn := fun _ => fun
  | [d1, d2, d3] => { results := [.lit (.bool false)], args := [d1, d2, d3] }
  | _ => none }
def DecideAllWrongFalsely : Prop := decideAllRow.holds Try.pinned (OpenSpec.ofChange decideAllWrong)

/-- 'horologelaw10.DecidePorts': WHATEVER THE INPUT: true; the input reads as it did. -/
def decidePortsSpec : ChangeSpec := { name := "decidePorts", fn := fun _ => fun
  | [d1, d2, d3] => { results := [.lit (.bool true)], args := [d1, d2, d3] }
  | _ => none }
def decidePortsRow : OpenClaim := { program := "ytmibpmijcghpaaa", sum := "b8e9a1a0a5f7607875eff35011254ae1d2e6ffd0c3f82c40333a075b3be61e8b", func := "horologe/horologelaw10.DecidePorts", spec := "decidePorts", unfollowed := true, recurses := true, apart := false }
def DecidePortsSaid : Prop := decidePortsRow.holds Try.pinned (OpenSpec.ofChange decidePortsSpec)

/-- ITS FALSE NEIGHBOUR: 'it returns false'. Refute it at one input. -/
def decidePortsWrong : ChangeSpec := { name := "decidePorts", fn := fun _ => fun
  | [d1, d2, d3] => { results := [.lit (.bool false)], args := [d1, d2, d3] }
  | _ => none }
def DecidePortsWrongFalsely : Prop := decidePortsRow.holds Try.pinned (OpenSpec.ofChange decidePortsWrong)

/-- 'horologelaw10.DecideOne': WHATEVER THE INPUT: true; the input reads as it did. -/
def decideOneSpec : ChangeSpec := { name := "decideOne", fn := fun _ => fun
  | [d1, d2, d3] => { results := [.lit (.bool true)], args := [d1, d2, d3] }
  | _ => none }
def decideOneRow : OpenClaim := { program := "ytmibpmijcghpaaa", sum := "b8e9a1a0a5f7607875eff35011254ae1d2e6ffd0c3f82c40333a075b3be61e8b", func := "horologe/horologelaw10.DecideOne", spec := "decideOne", unfollowed := true, recurses := true, apart := false }
def DecideOneSaid : Prop := decideOneRow.holds Try.pinned (OpenSpec.ofChange decideOneSpec)

/-- ITS FALSE NEIGHBOUR: 'it returns false'. Refute it at one input. -/
def decideOneWrong : ChangeSpec := { name := "decideOne", fn := fun _ => fun
  | [d1, d2, d3] => { results := [.lit (.bool false)], args := [d1, d2, d3] }
  | _ => none }
def DecideOneWrongFalsely : Prop := decideOneRow.holds Try.pinned (OpenSpec.ofChange decideOneWrong)

/-- 'horologelaw10.DecideLeads': WHATEVER THE INPUT: true; the input reads as it did. -/
def decideLeadsSpec : ChangeSpec := { name := "decideLeads", fn := fun _ => fun
  | [d1, d2, d3] => { results := [.lit (.bool true)], args := [d1, d2, d3] }
  | _ => none }
def decideLeadsRow : OpenClaim := { program := "ytmibpmijcghpaaa", sum := "b8e9a1a0a5f7607875eff35011254ae1d2e6ffd0c3f82c40333a075b3be61e8b", func := "horologe/horologelaw10.DecideLeads", spec := "decideLeads", unfollowed := true, recurses := true, apart := false }
def DecideLeadsSaid : Prop := decideLeadsRow.holds Try.pinned (OpenSpec.ofChange decideLeadsSpec)

/-- ITS FALSE NEIGHBOUR: 'it returns false'. Refute it at one input. -/
def decideLeadsWrong : ChangeSpec := { name := "decideLeads", fn := fun _ => fun
  | [d1, d2, d3] => { results := [.lit (.bool false)], args := [d1, d2, d3] }
  | _ => none }
def DecideLeadsWrongFalsely : Prop := decideLeadsRow.holds Try.pinned (OpenSpec.ofChange decideLeadsWrong)

/-- 'horologelaw10.DecideGrand': WHATEVER THE INPUT: true; the input reads as it did. -/
def decideGrandSpec : ChangeSpec := { name := "decideGrand", fn := fun _ => fun
  | [d1, d2, d3] => { results := [.lit (.bool true)], args := [d1, d2, d3] }
  | _ => none }
def decideGrandRow : OpenClaim := { program := "ytmibpmijcghpaaa", sum := "b8e9a1a0a5f7607875eff35011254ae1d2e6ffd0c3f82c40333a075b3be61e8b", func := "horologe/horologelaw10.DecideGrand", spec := "decideGrand", unfollowed := true, recurses := true, apart := false }
def DecideGrandSaid : Prop := decideGrandRow.holds Try.pinned (OpenSpec.ofChange decideGrandSpec)

/-- ITS FALSE NEIGHBOUR: 'it returns false'. Refute it at one input. -/
def decideGrandWrong : ChangeSpec := { name := "decideGrand", fn := fun _ => fun
  | [d1, d2, d3] => { results := [.lit (.bool false)], args := [d1, d2, d3] }
  | _ => none }
def DecideGrandWrongFalsely : Prop := decideGrandRow.holds Try.pinned (OpenSpec.ofChange decideGrandWrong)

/-- 'horologelaw10.DecideIdle': WHATEVER THE INPUT: true; the input reads as it did. -/
def decideIdleSpec : ChangeSpec := { name := "decideIdle", fn := fun _ => fun
  | [d1, d2, d3] => { results := [.lit (.bool true)], args := [d1, d2, d3] }
  | _ => none }
def decideIdleRow : OpenClaim := { program := "ytmibpmijcghpaaa", sum := "b8e9a1a0a5f7607875eff35011254ae1d2e6ffd0c3f82c40333a075b3be61e8b", func := "horologe/horologelaw10.DecideIdle", spec := "decideIdle", unfollowed := true, recurses := true, apart := false }
def DecideIdleSaid : Prop := decideIdleRow.holds Try.pinned (OpenSpec.ofChange decideIdleSpec)

/-- ITS FALSE NEIGHBOUR: 'it returns false'. Refute it at one input. -/
def decideIdleWrong : ChangeSpec := { name := "decideIdle", fn := fun _ => fun
  | [d1, d2, d3] => { results := [.lit (.bool false)], args := [d1, d2, d3] }
  | _ => none }
def DecideIdleWrongFalsely : Prop := decideIdleRow.holds Try.pinned (OpenSpec.ofChange decideIdleWrong)

/- THE SECOND FORM. 'bulk': how many values and letters a reading holds, each counted each time it is reached (what is shared counts as often as it is met; a slice's spare places count too). A statement '..UptoSaid' is the law's where the arguments, and the package variables that the reading takes, are together of bulk at most 1048576: NARROWER than '..Said'. Prove '..Said' where nothing that the law and all that it calls make is longer than what came in: it says more and counts as full. Else prove '..UptoSaid'. A law counts once. -/
mutual
def uptoBulk {H : Type} : DataW H → Nat
  | .lit (.string bytes) => bytes.length + 1
  | .lit _ => 1
  | .nil => 1
  | .ptr d => uptoBulk d + 1
  | .slice elems spare => uptoBulkAll elems + uptoBulkAll spare + 1
  | .agg parts => uptoBulkAll parts + 1
  | .iface _ d => uptoBulk d + 1
  | .map entries => uptoBulkEntries entries + 1
  | .held _ => 1
def uptoBulkAll {H : Type} : List (DataW H) → Nat
  | [] => 0
  | d :: r => uptoBulk d + uptoBulkAll r
def uptoBulkEntries {H : Type} : List (Lit × DataW H) → Nat
  | [] => 0
  | x :: r => uptoBulkEntry x + uptoBulkEntries r
def uptoBulkEntry {H : Type} : Lit × DataW H → Nat
  | (.string bytes, d) => bytes.length + uptoBulk d + 1
  | (_, d) => uptoBulk d + 1
 end
def uptoSmall : (H : Type) → List (DataW H) → Bool := fun _ ds => decide (uptoBulkAll ds ≤ 1048576)
def OpenSpec.upto (s : _root_.Go.ChangeSpec) : _root_.Go.OpenSpec := { _root_.Go.OpenSpec.ofChange s with cond := some uptoSmall }

/-- 'horologelaw10.DecideAll', WHERE WHAT IT READS IS OF BULK AT MOST 1048576: true; the input reads as it did. -/
def decideAllUptoRow : OpenClaim := { program := "ytmibpmijcghpaaa", sum := "b8e9a1a0a5f7607875eff35011254ae1d2e6ffd0c3f82c40333a075b3be61e8b", func := "horologe/horologelaw10.DecideAll", spec := "decideAll", unfollowed := true, recurses := true, apart := false, narrowed := true }
def DecideAllUptoSaid : Prop := decideAllUptoRow.holds Try.pinned (OpenSpec.upto decideAllSpec)

/-- 'horologelaw10.DecidePorts', WHERE WHAT IT READS IS OF BULK AT MOST 1048576: true; the input reads as it did. -/
def decidePortsUptoRow : OpenClaim := { program := "ytmibpmijcghpaaa", sum := "b8e9a1a0a5f7607875eff35011254ae1d2e6ffd0c3f82c40333a075b3be61e8b", func := "horologe/horologelaw10.DecidePorts", spec := "decidePorts", unfollowed := true, recurses := true, apart := false, narrowed := true }
def DecidePortsUptoSaid : Prop := decidePortsUptoRow.holds Try.pinned (OpenSpec.upto decidePortsSpec)

/-- 'horologelaw10.DecideOne', WHERE WHAT IT READS IS OF BULK AT MOST 1048576: true; the input reads as it did. -/
def decideOneUptoRow : OpenClaim := { program := "ytmibpmijcghpaaa", sum := "b8e9a1a0a5f7607875eff35011254ae1d2e6ffd0c3f82c40333a075b3be61e8b", func := "horologe/horologelaw10.DecideOne", spec := "decideOne", unfollowed := true, recurses := true, apart := false, narrowed := true }
def DecideOneUptoSaid : Prop := decideOneUptoRow.holds Try.pinned (OpenSpec.upto decideOneSpec)

/-- 'horologelaw10.DecideLeads', WHERE WHAT IT READS IS OF BULK AT MOST 1048576: true; the input reads as it did. -/
def decideLeadsUptoRow : OpenClaim := { program := "ytmibpmijcghpaaa", sum := "b8e9a1a0a5f7607875eff35011254ae1d2e6ffd0c3f82c40333a075b3be61e8b", func := "horologe/horologelaw10.DecideLeads", spec := "decideLeads", unfollowed := true, recurses := true, apart := false, narrowed := true }
def DecideLeadsUptoSaid : Prop := decideLeadsUptoRow.holds Try.pinned (OpenSpec.upto decideLeadsSpec)

/-- 'horologelaw10.DecideGrand', WHERE WHAT IT READS IS OF BULK AT MOST 1048576: true; the input reads as it did. -/
def decideGrandUptoRow : OpenClaim := { program := "ytmibpmijcghpaaa", sum := "b8e9a1a0a5f7607875eff35011254ae1d2e6ffd0c3f82c40333a075b3be61e8b", func := "horologe/horologelaw10.DecideGrand", spec := "decideGrand", unfollowed := true, recurses := true, apart := false, narrowed := true }
def DecideGrandUptoSaid : Prop := decideGrandUptoRow.holds Try.pinned (OpenSpec.upto decideGrandSpec)

/-- 'horologelaw10.DecideIdle', WHERE WHAT IT READS IS OF BULK AT MOST 1048576: true; the input reads as it did. -/
def decideIdleUptoRow : OpenClaim := { program := "ytmibpmijcghpaaa", sum := "b8e9a1a0a5f7607875eff35011254ae1d2e6ffd0c3f82c40333a075b3be61e8b", func := "horologe/horologelaw10.DecideIdle", spec := "decideIdle", unfollowed := true, recurses := true, apart := false, narrowed := true }
def DecideIdleUptoSaid : Prop := decideIdleUptoRow.holds Try.pinned (OpenSpec.upto decideIdleSpec)

end Rows
end Go.Proofs.Ytmibpmijcghpaaa
