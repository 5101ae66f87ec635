/-
  No cell of these rows narrows 'for every input' (looked for: loops, veiled, ifaces, maps, wideKeys, modest, calm, conditions, laid).
  DERIVED. THE GIVEN ROWS OF THIS SEAT. 6 by the template 'for every input the law returns true; each argument reads behind the call as it read before'; 0 by the template 'total and deterministic' (their statements: YtbdpnmocbpplbaaTotals.lean).
  GIVEN WITH THE SEED: the statements are not yours to turn. If you find one false, say at which input.
  Laid BY PROGRAM, IN A SANDBOX (cutbox-rows.mjs): the forced cells as the released guide's own fill.sh prints them over the translation ed3f15f6b10300bf… (all of the seat's roots in one cut). By AI agents, Wed Nov 11 2026. No macro, syntax, notation, axiom, sorry.
-/
import Derived.Test.YtbdpnmocbpplbaaChecked
import GoSem.Claim
import GoSem.ClaimJoined
import GoSem.ClaimMapViews
import Derived.JoinedTies
import Derived.KernelRfl
namespace Go.Proofs.Ytbdpnmocbpplbaa
/- THE CELL 'sum', in the pinned program and in every row, IS THE sha256 OF THE DUMP (.gsa) THAT YtbdpnmocbpplbaaProg.lean LOADS. Nothing in Lean hashes anything: it is a label: what it is worth is what the hold of that sum in a sandbox is worth. -/
noncomputable def Try.pinned : Pinned := { name := "ytbdpnmocbpplbaa", sum := "ed3f15f6b10300bf66af28bf8350a61709b929fc7798ae359cacfa0b25186b10", checked := Try.checked }
namespace Rows
def none {H : Type} : Left H := { results := [], args := [] }

/-- 'horologelaw18.QueueOrder': WHATEVER THE INPUT: true; the input reads as it did. -/
def queueOrderSpec : ChangeSpec := { name := "queueOrder", fn := fun _ => fun
  | [d1, d2] => { results := [.lit (.bool true)], args := [d1, d2] }
  | _ => none }
def queueOrderRow : OpenClaim := { program := "ytbdpnmocbpplbaa", sum := "ed3f15f6b10300bf66af28bf8350a61709b929fc7798ae359cacfa0b25186b10", func := "horologe/horologelaw18.QueueOrder", spec := "queueOrder", unfollowed := true, recurses := true, apart := false }
def QueueOrderSaid : Prop := queueOrderRow.holds Try.pinned (OpenSpec.ofChange queueOrderSpec)

/-- ITS FALSE NEIGHBOUR: 'it returns false'. Refute it at one input. -/
def queueOrderWrong : ChangeSpec := { name := "queueOrder", fn := fun _ => fun
  | [d1, d2] => { results := [.lit (.bool false)], args := [d1, d2] }
  | _ => none }
def QueueOrderWrongFalsely : Prop := queueOrderRow.holds Try.pinned (OpenSpec.ofChange queueOrderWrong)

/-- 'horologelaw18.QueuePicks': WHATEVER THE INPUT: true; the input reads as it did. -/
def queuePicksSpec : ChangeSpec := { name := "queuePicks", fn := fun _ => fun
  | [d1, d2] => { results := [.lit (.bool true)], args := [d1, d2] }
  | _ => none }
def queuePicksRow : OpenClaim := { program := "ytbdpnmocbpplbaa", sum := "ed3f15f6b10300bf66af28bf8350a61709b929fc7798ae359cacfa0b25186b10", func := "horologe/horologelaw18.QueuePicks", spec := "queuePicks", unfollowed := true, recurses := true, apart := false }
def QueuePicksSaid : Prop := queuePicksRow.holds Try.pinned (OpenSpec.ofChange queuePicksSpec)

/-- ITS FALSE NEIGHBOUR: 'it returns false'. Refute it at one input. -/
def queuePicksWrong : ChangeSpec := { name := "queuePicks", fn := fun _ => fun
  | [d1, d2] => { results := [.lit (.bool false)], args := [d1, d2] }
  | _ => none }
def QueuePicksWrongFalsely : Prop := queuePicksRow.holds Try.pinned (OpenSpec.ofChange queuePicksWrong)

/-- 'horologelaw18.QueueOwn': WHATEVER THE INPUT: true; the input reads as it did. -/
def queueOwnSpec : ChangeSpec := { name := "queueOwn", fn := fun _ => fun
  | [d1, d2] => { results := [.lit (.bool true)], args := [d1, d2] }
  | _ => none }
def queueOwnRow : OpenClaim := { program := "ytbdpnmocbpplbaa", sum := "ed3f15f6b10300bf66af28bf8350a61709b929fc7798ae359cacfa0b25186b10", func := "horologe/horologelaw18.QueueOwn", spec := "queueOwn", unfollowed := true, recurses := true, apart := false }
def QueueOwnSaid : Prop := queueOwnRow.holds Try.pinned (OpenSpec.ofChange queueOwnSpec)

/-- ITS FALSE NEIGHBOUR: 'it returns false'. Refute it at one input. -/
def queueOwnWrong : ChangeSpec := { name := "queueOwn", fn := fun _ => fun
  | [d1, d2] => { results := [.lit (.bool false)], args := [d1, d2] }
  | _ => none }
def QueueOwnWrongFalsely : Prop := queueOwnRow.holds Try.pinned (OpenSpec.ofChange queueOwnWrong)

/-- 'horologelaw18.QueueAll': WHATEVER THE INPUT: true; the input reads as it did. -/
def queueAllSpec : ChangeSpec := { name := "queueAll", fn := fun _ => fun
  | [d1, d2] => { results := [.lit (.bool true)], args := [d1, d2] }
  | _ => none }
def queueAllRow : OpenClaim := { program := "ytbdpnmocbpplbaa", sum := "ed3f15f6b10300bf66af28bf8350a61709b929fc7798ae359cacfa0b25186b10", func := "horologe/horologelaw18.QueueAll", spec := "queueAll", unfollowed := true, recurses := true, apart := false }
def QueueAllSaid : Prop := queueAllRow.holds Try.pinned (OpenSpec.ofChange queueAllSpec)

/-- ITS FALSE NEIGHBOUR: 'it returns false'. Refute it at one input. -/
def queueAllWrong : ChangeSpec := { name := "queueAll", fn := fun _ => fun
  | [d1, d2] => { results := [.lit (.bool false)], args := [d1, d2] }
  | _ => none }
def QueueAllWrongFalsely : Prop := queueAllRow.holds Try.pinned (OpenSpec.ofChange queueAllWrong)

/-- 'horologelaw18.QueueTurns': WHATEVER THE INPUT: true; the input reads as it did. -/
def queueTurnsSpec : ChangeSpec := { name := "queueTurns", fn := fun _ => fun
  | [d1, d2, d3] => { results := [.lit (.bool true)], args := [d1, d2, d3] }
  | _ => none }
def queueTurnsRow : OpenClaim := { program := "ytbdpnmocbpplbaa", sum := "ed3f15f6b10300bf66af28bf8350a61709b929fc7798ae359cacfa0b25186b10", func := "horologe/horologelaw18.QueueTurns", spec := "queueTurns", unfollowed := true, recurses := true, apart := false }
def QueueTurnsSaid : Prop := queueTurnsRow.holds Try.pinned (OpenSpec.ofChange queueTurnsSpec)

/-- ITS FALSE NEIGHBOUR: 'it returns false'. Refute it at one input. -/
def queueTurnsWrong : ChangeSpec := { name := "queueTurns", fn := fun _ => fun
  | [d1, d2, d3] => { results := [.lit (.bool false)], args := [d1, d2, d3] }
  | _ => none }
def QueueTurnsWrongFalsely : Prop := queueTurnsRow.holds Try.pinned (OpenSpec.ofChange queueTurnsWrong)

/-- 'horologelaw18.QueueLooks': WHATEVER THE INPUT: true; the input reads as it did. -/
def queueLooksSpec : ChangeSpec := { name := "queueLooks", fn := fun _ => fun
  | [d1, d2, d3] => { results := [.lit (.bool true)], args := [d1, d2, d3] }
  | _ => none }
def queueLooksRow : OpenClaim := { program := "ytbdpnmocbpplbaa", sum := "ed3f15f6b10300bf66af28bf8350a61709b929fc7798ae359cacfa0b25186b10", func := "horologe/horologelaw18.QueueLooks", spec := "queueLooks", unfollowed := true, recurses := true, apart := false }
def QueueLooksSaid : Prop := queueLooksRow.holds Try.pinned (OpenSpec.ofChange queueLooksSpec)

/-- ITS FALSE NEIGHBOUR: 'it returns false'. Refute it at one input. -/
def queueLooksWrong : ChangeSpec := { name := "queueLooks", fn := fun _ => fun
  | [d1, d2, d3] => { results := [.lit (.bool false)], args := [d1, d2, d3] }
  | _ => none }
def QueueLooksWrongFalsely : Prop := queueLooksRow.holds Try.pinned (OpenSpec.ofChange queueLooksWrong)

/- THE SECOND FORM. 'bulk': how many values and letters a reading holds, each counted each time it is reached (what is shared counts as often as it is met; a slice's spare places count too). A statement '..UptoSaid' is the law's where the arguments, and the package variables that the reading takes, are together of bulk at most 1048576: NARROWER than '..Said'. Prove '..Said' where nothing that the law and all that it calls make is longer than what came in: it says more and counts as full. Else prove '..UptoSaid'. A law counts once. -/
mutual
def uptoBulk {H : Type} : DataW H → Nat
  | .lit (.string bytes) => bytes.length + 1
  | .lit _ => 1
  | .nil => 1
  | .ptr d => uptoBulk d + 1
  | .slice elems spare => uptoBulkAll elems + uptoBulkAll spare + 1
  | .agg parts => uptoBulkAll parts + 1
  | .iface _ d => uptoBulk d + 1
  | .map entries => uptoBulkEntries entries + 1
  | .held _ => 1
def uptoBulkAll {H : Type} : List (DataW H) → Nat
  | [] => 0
  | d :: r => uptoBulk d + uptoBulkAll r
def uptoBulkEntries {H : Type} : List (Lit × DataW H) → Nat
  | [] => 0
  | x :: r => uptoBulkEntry x + uptoBulkEntries r
def uptoBulkEntry {H : Type} : Lit × DataW H → Nat
  | (.string bytes, d) => bytes.length + uptoBulk d + 1
  | (_, d) => uptoBulk d + 1
 end
def uptoSmall : (H : Type) → List (DataW H) → Bool := fun _ ds => decide (uptoBulkAll ds ≤ 1048576)
def OpenSpec.upto (s : _root_.Go.ChangeSpec) : _root_.Go.OpenSpec := { _root_.Go.OpenSpec.ofChange s with cond := some uptoSmall }

/-- 'horologelaw18.QueueOrder', WHERE WHAT IT READS IS OF BULK AT MOST 1048576: true; the input reads as it did. -/
def queueOrderUptoRow : OpenClaim := { program := "ytbdpnmocbpplbaa", sum := "ed3f15f6b10300bf66af28bf8350a61709b929fc7798ae359cacfa0b25186b10", func := "horologe/horologelaw18.QueueOrder", spec := "queueOrder", unfollowed := true, recurses := true, apart := false, narrowed := true }
def QueueOrderUptoSaid : Prop := queueOrderUptoRow.holds Try.pinned (OpenSpec.upto queueOrderSpec)

/-- 'horologelaw18.QueuePicks', WHERE WHAT IT READS IS OF BULK AT MOST 1048576: true; the input reads as it did. -/
def queuePicksUptoRow : OpenClaim := { program := "ytbdpnmocbpplbaa", sum := "ed3f15f6b10300bf66af28bf8350a61709b929fc7798ae359cacfa0b25186b10", func := "horologe/horologelaw18.QueuePicks", spec := "queuePicks", unfollowed := true, recurses := true, apart := false, narrowed := true }
def QueuePicksUptoSaid : Prop := queuePicksUptoRow.holds Try.pinned (OpenSpec.upto queuePicksSpec)

/-- 'horologelaw18.QueueOwn', WHERE WHAT IT READS IS OF BULK AT MOST 1048576: true; the input reads as it did. -/
def queueOwnUptoRow : OpenClaim := { program := "ytbdpnmocbpplbaa", sum := "ed3f15f6b10300bf66af28bf8350a61709b929fc7798ae359cacfa0b25186b10", func := "horologe/horologelaw18.QueueOwn", spec := "queueOwn", unfollowed := true, recurses := true, apart := false, narrowed := true }
def QueueOwnUptoSaid : Prop := queueOwnUptoRow.holds Try.pinned (OpenSpec.upto queueOwnSpec)

/-- 'horologelaw18.QueueAll', WHERE WHAT IT READS IS OF BULK AT MOST 1048576: true; the input reads as it did. -/
def queueAllUptoRow : OpenClaim := { program := "ytbdpnmocbpplbaa", sum := "ed3f15f6b10300bf66af28bf8350a61709b929fc7798ae359cacfa0b25186b10", func := "horologe/horologelaw18.QueueAll", spec := "queueAll", unfollowed := true, recurses := true, apart := false, narrowed := true }
def QueueAllUptoSaid : Prop := queueAllUptoRow.holds Try.pinned (OpenSpec.upto queueAllSpec)

/-- 'horologelaw18.QueueTurns', WHERE WHAT IT READS IS OF BULK AT MOST 1048576: true; the input reads as it did. -/
def queueTurnsUptoRow : OpenClaim := { program := "ytbdpnmocbpplbaa", sum := "ed3f15f6b10300bf66af28bf8350a61709b929fc7798ae359cacfa0b25186b10", func := "horologe/horologelaw18.QueueTurns", spec := "queueTurns", unfollowed := true, recurses := true, apart := false, narrowed := true }
def QueueTurnsUptoSaid : Prop := queueTurnsUptoRow.holds Try.pinned (OpenSpec.upto queueTurnsSpec)

/-- 'horologelaw18.QueueLooks', WHERE WHAT IT READS IS OF BULK AT MOST 1048576: true; the input reads as it did. -/
def queueLooksUptoRow : OpenClaim := { program := "ytbdpnmocbpplbaa", sum := "ed3f15f6b10300bf66af28bf8350a61709b929fc7798ae359cacfa0b25186b10", func := "horologe/horologelaw18.QueueLooks", spec := "queueLooks", unfollowed := true, recurses := true, apart := false, narrowed := true }
def QueueLooksUptoSaid : Prop := queueLooksUptoRow.holds Try.pinned (OpenSpec.upto queueLooksSpec)

end Rows
end Go.Proofs.Ytbdpnmocbpplbaa
