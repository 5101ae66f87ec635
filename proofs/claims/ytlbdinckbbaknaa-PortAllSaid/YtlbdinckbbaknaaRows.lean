/-
  No cell of these rows narrows 'for every input' (looked for: loops, veiled, ifaces, maps, wideKeys, modest, calm, conditions, laid).
  DERIVED. THE GIVEN ROWS OF THIS SEAT. 6 by the template 'for every input the law returns true; each argument reads behind the call as it read before'; 0 by the template 'total and deterministic' (their statements: YtlbdinckbbaknaaTotals.lean).
  GIVEN WITH THE SEED: the statements are not yours to turn. If you find one false, say at which input.
  Laid BY PROGRAM, IN A SANDBOX (cutbox-rows.mjs): the forced cells as the released guide's own fill.sh prints them over the translation 23329e9a223335d8… (all of the seat's roots in one cut). By AI agents, Wed Nov 11 2026. No macro, syntax, notation, axiom, sorry.
-/
import Derived.Test.YtlbdinckbbaknaaChecked
import GoSem.Claim
import GoSem.ClaimJoined
import GoSem.ClaimMapViews
import Derived.JoinedTies
import Derived.KernelRfl
namespace Go.Proofs.Ytlbdinckbbaknaa
/- THE CELL 'sum', in the pinned program and in every row, IS THE sha256 OF THE DUMP (.gsa) THAT YtlbdinckbbaknaaProg.lean LOADS. Nothing in Lean hashes anything: it is a label: what it is worth is what the hold of that sum in a sandbox is worth. -/
noncomputable def Try.pinned : Pinned := { name := "ytlbdinckbbaknaa", sum := "23329e9a223335d850a11c9abba35c9421e7cb5e45b95d5b95c08d1fac210041", checked := Try.checked }
namespace Rows
def none {H : Type} : Left H := { results := [], args := [] }

/-- 'horologelaw12.PortWaits': WHATEVER THE INPUT: true; the input reads as it did. -/
def portWaitsSpec : ChangeSpec := { name := "portWaits", fn := fun _ => fun
  | [d1, d2, d3] => { results := [.lit (.bool true)], args := [d1, d2, d3] }
  | _ => none }
def portWaitsRow : OpenClaim := { program := "ytlbdinckbbaknaa", sum := "23329e9a223335d850a11c9abba35c9421e7cb5e45b95d5b95c08d1fac210041", func := "horologe/horologelaw12.PortWaits", spec := "portWaits", unfollowed := true, recurses := true, apart := false }
def PortWaitsSaid : Prop := portWaitsRow.holds Try.pinned (OpenSpec.ofChange portWaitsSpec)

/-- ITS FALSE NEIGHBOUR: 'it returns false'. Refute it at one input. -/
def portWaitsWrong : ChangeSpec := { name := "portWaits", fn := fun _ => fun
  | [d1, d2, d3] => { results := [.lit (.bool false)], args := [d1, d2, d3] }
  | _ => none }
def PortWaitsWrongFalsely : Prop := portWaitsRow.holds Try.pinned (OpenSpec.ofChange portWaitsWrong)

/-- 'horologelaw12.PortHears': WHATEVER THE INPUT: true; the input reads as it did. -/
def portHearsSpec : ChangeSpec := { name := "portHears", fn := fun _ => fun
  | [d1, d2, d3] => { results := [.lit (.bool true)], args := [d1, d2, d3] }
  | _ => none }
def portHearsRow : OpenClaim := { program := "ytlbdinckbbaknaa", sum := "23329e9a223335d850a11c9abba35c9421e7cb5e45b95d5b95c08d1fac210041", func := "horologe/horologelaw12.PortHears", spec := "portHears", unfollowed := true, recurses := true, apart := false }
def PortHearsSaid : Prop := portHearsRow.holds Try.pinned (OpenSpec.ofChange portHearsSpec)

/-- ITS FALSE NEIGHBOUR: 'it returns false'. Refute it at one input. -/
def portHearsWrong : ChangeSpec := { name := "portHears", fn := fun _ => fun
  | [d1, d2, d3] => { results := [.lit (.bool false)], args := [d1, d2, d3] }
  | _ => none }
def PortHearsWrongFalsely : Prop := portHearsRow.holds Try.pinned (OpenSpec.ofChange portHearsWrong)

/-- 'horologelaw12.PortAll': WHATEVER THE INPUT: true; the input reads as it did. -/
def portAllSpec : ChangeSpec := { name := "portAll", fn := fun _ => fun
  | [d1, d2] => { results := [.lit (.bool true)], args := [d1, d2] }
  | _ => none }
def portAllRow : OpenClaim := { program := "ytlbdinckbbaknaa", sum := "23329e9a223335d850a11c9abba35c9421e7cb5e45b95d5b95c08d1fac210041", func := "horologe/horologelaw12.PortAll", spec := "portAll", unfollowed := true, recurses := true, apart := false }
def PortAllSaid : Prop := portAllRow.holds Try.pinned (OpenSpec.ofChange portAllSpec)

/-- ITS FALSE NEIGHBOUR: 'it returns false'. Refute it at one input. -/
def portAllWrong : ChangeSpec := { name := "portAll", fn := fun _ => fun
  | [d1, d2] => { results := [.lit (.bool false)], args := [d1, d2] }
  | _ => none }
def PortAllWrongFalsely : Prop := portAllRow.holds Try.pinned (OpenSpec.ofChange portAllWrong)

/-- 'horologelaw12.PortSlaves': WHATEVER THE INPUT: true; the input reads as it did. -/
def portSlavesSpec : ChangeSpec := { name := "portSlaves", fn := fun _ => fun
  | [d1, d2, d3] => { results := [.lit (.bool true)], args := [d1, d2, d3] }
  | _ => none }
def portSlavesRow : OpenClaim := { program := "ytlbdinckbbaknaa", sum := "23329e9a223335d850a11c9abba35c9421e7cb5e45b95d5b95c08d1fac210041", func := "horologe/horologelaw12.PortSlaves", spec := "portSlaves", unfollowed := true, recurses := true, apart := false }
def PortSlavesSaid : Prop := portSlavesRow.holds Try.pinned (OpenSpec.ofChange portSlavesSpec)

/-- ITS FALSE NEIGHBOUR: 'it returns false'. Refute it at one input. -/
def portSlavesWrong : ChangeSpec := { name := "portSlaves", fn := fun _ => fun
  | [d1, d2, d3] => { results := [.lit (.bool false)], args := [d1, d2, d3] }
  | _ => none }
def PortSlavesWrongFalsely : Prop := portSlavesRow.holds Try.pinned (OpenSpec.ofChange portSlavesWrong)

/-- 'horologelaw12.PortAlone': WHATEVER THE INPUT: true; the input reads as it did. -/
def portAloneSpec : ChangeSpec := { name := "portAlone", fn := fun _ => fun
  | [d1, d2] => { results := [.lit (.bool true)], args := [d1, d2] }
  | _ => none }
def portAloneRow : OpenClaim := { program := "ytlbdinckbbaknaa", sum := "23329e9a223335d850a11c9abba35c9421e7cb5e45b95d5b95c08d1fac210041", func := "horologe/horologelaw12.PortAlone", spec := "portAlone", unfollowed := true, recurses := true, apart := false }
def PortAloneSaid : Prop := portAloneRow.holds Try.pinned (OpenSpec.ofChange portAloneSpec)

/-- ITS FALSE NEIGHBOUR: 'it returns false'. Refute it at one input. -/
def portAloneWrong : ChangeSpec := { name := "portAlone", fn := fun _ => fun
  | [d1, d2] => { results := [.lit (.bool false)], args := [d1, d2] }
  | _ => none }
def PortAloneWrongFalsely : Prop := portAloneRow.holds Try.pinned (OpenSpec.ofChange portAloneWrong)

/-- 'horologelaw12.PortFaults': WHATEVER THE INPUT: true; the input reads as it did. -/
def portFaultsSpec : ChangeSpec := { name := "portFaults", fn := fun _ => fun
  | [d1, d2, d3] => { results := [.lit (.bool true)], args := [d1, d2, d3] }
  | _ => none }
def portFaultsRow : OpenClaim := { program := "ytlbdinckbbaknaa", sum := "23329e9a223335d850a11c9abba35c9421e7cb5e45b95d5b95c08d1fac210041", func := "horologe/horologelaw12.PortFaults", spec := "portFaults", unfollowed := true, recurses := true, apart := false }
def PortFaultsSaid : Prop := portFaultsRow.holds Try.pinned (OpenSpec.ofChange portFaultsSpec)

/-- ITS FALSE NEIGHBOUR: 'it returns false'. Refute it at one input. -/
def portFaultsWrong : ChangeSpec := { name := "portFaults", fn := fun _ => fun
  | [d1, d2, d3] => { results := [.lit (.bool false)], args := [d1, d2, d3] }
  | _ => none }
def PortFaultsWrongFalsely : Prop := portFaultsRow.holds Try.pinned (OpenSpec.ofChange portFaultsWrong)

/- THE SECOND FORM. 'bulk': how many values and letters a reading holds, each counted each time it is reached (what is shared counts as often as it is met; a slice's spare places count too). A statement '..UptoSaid' is the law's where the arguments, and the package variables that the reading takes, are together of bulk at most 1048576: NARROWER than '..Said'. Prove '..Said' where nothing that the law and all that it calls make is longer than what came in: it says more and counts as full. Else prove '..UptoSaid'. A law counts once. -/
mutual
def uptoBulk {H : Type} : DataW H → Nat
  | .lit (.string bytes) => bytes.length + 1
  | .lit _ => 1
  | .nil => 1
  | .ptr d => uptoBulk d + 1
  | .slice elems spare => uptoBulkAll elems + uptoBulkAll spare + 1
  | .agg parts => uptoBulkAll parts + 1
  | .iface _ d => uptoBulk d + 1
  | .map entries => uptoBulkEntries entries + 1
  | .held _ => 1
def uptoBulkAll {H : Type} : List (DataW H) → Nat
  | [] => 0
  | d :: r => uptoBulk d + uptoBulkAll r
def uptoBulkEntries {H : Type} : List (Lit × DataW H) → Nat
  | [] => 0
  | x :: r => uptoBulkEntry x + uptoBulkEntries r
def uptoBulkEntry {H : Type} : Lit × DataW H → Nat
  | (.string bytes, d) => bytes.length + uptoBulk d + 1
  | (_, d) => uptoBulk d + 1
 end
def uptoSmall : (H : Type) → List (DataW H) → Bool := fun _ ds => decide (uptoBulkAll ds ≤ 1048576)
def OpenSpec.upto (s : _root_.Go.ChangeSpec) : _root_.Go.OpenSpec := { _root_.Go.OpenSpec.ofChange s with cond := some uptoSmall }

/-- 'horologelaw12.PortWaits', WHERE WHAT IT READS IS OF BULK AT MOST 1048576: true; the input reads as it did. -/
def portWaitsUptoRow : OpenClaim := { program := "ytlbdinckbbaknaa", sum := "23329e9a223335d850a11c9abba35c9421e7cb5e45b95d5b95c08d1fac210041", func := "horologe/horologelaw12.PortWaits", spec := "portWaits", unfollowed := true, recurses := true, apart := false, narrowed := true }
def PortWaitsUptoSaid : Prop := portWaitsUptoRow.holds Try.pinned (OpenSpec.upto portWaitsSpec)

/-- 'horologelaw12.PortHears', WHERE WHAT IT READS IS OF BULK AT MOST 1048576: true; the input reads as it did. -/
def portHearsUptoRow : OpenClaim := { program := "ytlbdinckbbaknaa", sum := "23329e9a223335d850a11c9abba35c9421e7cb5e45b95d5b95c08d1fac210041", func := "horologe/horologelaw12.PortHears", spec := "portHears", unfollowed := true, recurses := true, apart := false, narrowed := true }
def PortHearsUptoSaid : Prop := portHearsUptoRow.holds Try.pinned (OpenSpec.upto portHearsSpec)

/-- 'horologelaw12.PortAll', WHERE WHAT IT READS IS OF BULK AT MOST 1048576: true; the input reads as it did. -/
def portAllUptoRow : OpenClaim := { program := "ytlbdinckbbaknaa", sum := "23329e9a223335d850a11c9abba35c9421e7cb5e45b95d5b95c08d1fac210041", func := "horologe/horologelaw12.PortAll", spec := "portAll", unfollowed := true, recurses := true, apart := false, narrowed := true }
def PortAllUptoSaid : Prop := portAllUptoRow.holds Try.pinned (OpenSpec.upto portAllSpec)

/-- 'horologelaw12.PortSlaves', WHERE WHAT IT READS IS OF BULK AT MOST 1048576: true; the input reads as it did. -/
def portSlavesUptoRow : OpenClaim := { program := "ytlbdinckbbaknaa", sum := "23329e9a223335d850a11c9abba35c9421e7cb5e45b95d5b95c08d1fac210041", func := "horologe/horologelaw12.PortSlaves", spec := "portSlaves", unfollowed := true, recurses := true, apart := false, narrowed := true }
def PortSlavesUptoSaid : Prop := portSlavesUptoRow.holds Try.pinned (OpenSpec.upto portSlavesSpec)

/-- 'horologelaw12.PortAlone', WHERE WHAT IT READS IS OF BULK AT MOST 1048576: true; the input reads as it did. -/
def portAloneUptoRow : OpenClaim := { program := "ytlbdinckbbaknaa", sum := "23329e9a223335d850a11c9abba35c9421e7cb5e45b95d5b95c08d1fac210041", func := "horologe/horologelaw12.PortAlone", spec := "portAlone", unfollowed := true, recurses := true, apart := false, narrowed := true }
def PortAloneUptoSaid : Prop := portAloneUptoRow.holds Try.pinned (OpenSpec.upto portAloneSpec)

/-- 'horologelaw12.PortFaults', WHERE WHAT IT READS IS OF BULK AT MOST 1048576: true; the input reads as it did. -/
def portFaultsUptoRow : OpenClaim := { program := "ytlbdinckbbaknaa", sum := "23329e9a223335d850a11c9abba35c9421e7cb5e45b95d5b95c08d1fac210041", func := "horologe/horologelaw12.PortFaults", spec := "portFaults", unfollowed := true, recurses := true, apart := false, narrowed := true }
def PortFaultsUptoSaid : Prop := portFaultsUptoRow.holds Try.pinned (OpenSpec.upto portFaultsSpec)

end Rows
end Go.Proofs.Ytlbdinckbbaknaa
