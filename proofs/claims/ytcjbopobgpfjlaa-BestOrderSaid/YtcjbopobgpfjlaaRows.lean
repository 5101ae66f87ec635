/-
  No cell of these rows narrows 'for every input' (looked for: loops, veiled, ifaces, maps, wideKeys, modest, calm, conditions, laid).
  DERIVED. THE GIVEN ROWS OF THIS SEAT. 12 by the template 'for every input the law returns true; each argument reads behind the call as it read before'; 0 by the template 'total and deterministic' (their statements: YtcjbopobgpfjlaaTotals.lean).
  GIVEN WITH THE SEED: the statements are not yours to turn. If you find one false, say at which input.
  Laid BY PROGRAM, IN A SANDBOX (cutbox-rows.mjs): the forced cells as the released guide's own fill.sh prints them over the translation 3460d9608c0a4b3a… (all of the seat's roots in one cut). By AI agents, Wed Nov 11 2026. No macro, syntax, notation, axiom, sorry.
-/
import Derived.Test.YtcjbopobgpfjlaaChecked
import GoSem.Claim
import GoSem.ClaimJoined
import GoSem.ClaimMapViews
import Derived.JoinedTies
import Derived.KernelRfl
namespace Go.Proofs.Ytcjbopobgpfjlaa
/- THE CELL 'sum', in the pinned program and in every row, IS THE sha256 OF THE DUMP (.gsa) THAT YtcjbopobgpfjlaaProg.lean LOADS. Nothing in Lean hashes anything: it is a label: what it is worth is what the hold of that sum in a sandbox is worth. -/
noncomputable def Try.pinned : Pinned := { name := "ytcjbopobgpfjlaa", sum := "3460d9608c0a4b3a1638bce03d880ccc6a61371e30d66106c1629d9b3fd52f57", checked := Try.checked }
namespace Rows
def none {H : Type} : Left H := { results := [], args := [] }

/-- 'horologelaw07.RankCompares': WHATEVER THE INPUT: true; the input reads as it did. -/
def rankComparesSpec : ChangeSpec := { name := "rankCompares", fn := fun _ => fun
  | [d1, d2] => { results := [.lit (.bool true)], args := [d1, d2] }
  | _ => none }
def rankComparesRow : OpenClaim := { program := "ytcjbopobgpfjlaa", sum := "3460d9608c0a4b3a1638bce03d880ccc6a61371e30d66106c1629d9b3fd52f57", func := "horologe/horologelaw07.RankCompares", spec := "rankCompares", recurses := true, apart := false }
def RankComparesSaid : Prop := rankComparesRow.holds Try.pinned (OpenSpec.ofChange rankComparesSpec)

/-- ITS FALSE NEIGHBOUR: 'it returns false'. Refute it at one input. -/
def rankComparesWrong : ChangeSpec := { name := "rankCompares", fn := fun _ => fun
  | [d1, d2] => { results := [.lit (.bool false)], args := [d1, d2] }
  | _ => none }
def RankComparesWrongFalsely : Prop := rankComparesRow.holds Try.pinned (OpenSpec.ofChange rankComparesWrong)

/-- 'horologelaw07.RankTurns': WHATEVER THE INPUT: true; the input reads as it did. -/
def rankTurnsSpec : ChangeSpec := { name := "rankTurns", fn := fun _ => fun
  | [d1, d2, d3] => { results := [.lit (.bool true)], args := [d1, d2, d3] }
  | _ => none }
def rankTurnsRow : OpenClaim := { program := "ytcjbopobgpfjlaa", sum := "3460d9608c0a4b3a1638bce03d880ccc6a61371e30d66106c1629d9b3fd52f57", func := "horologe/horologelaw07.RankTurns", spec := "rankTurns", apart := false }
def RankTurnsSaid : Prop := rankTurnsRow.holds Try.pinned (OpenSpec.ofChange rankTurnsSpec)

/-- ITS FALSE NEIGHBOUR: 'it returns false'. Refute it at one input. -/
def rankTurnsWrong : ChangeSpec := { name := "rankTurns", fn := fun _ => fun
  | [d1, d2, d3] => { results := [.lit (.bool false)], args := [d1, d2, d3] }
  | _ => none }
def RankTurnsWrongFalsely : Prop := rankTurnsRow.holds Try.pinned (OpenSpec.ofChange rankTurnsWrong)

/-- 'horologelaw07.RankFirsts': WHATEVER THE INPUT: true; the input reads as it did. -/
def rankFirstsSpec : ChangeSpec := { name := "rankFirsts", fn := fun _ => fun
  | [d] => { results := [.lit (.bool true)], args := [d] }
  | _ => none }
def rankFirstsRow : OpenClaim := { program := "ytcjbopobgpfjlaa", sum := "3460d9608c0a4b3a1638bce03d880ccc6a61371e30d66106c1629d9b3fd52f57", func := "horologe/horologelaw07.RankFirsts", spec := "rankFirsts", recurses := true, apart := false }
def RankFirstsSaid : Prop := rankFirstsRow.holds Try.pinned (OpenSpec.ofChange rankFirstsSpec)

/-- ITS FALSE NEIGHBOUR: 'it returns false'. Refute it at one input. -/
def rankFirstsWrong : ChangeSpec := { name := "rankFirsts", fn := fun _ => fun
  | [d] => { results := [.lit (.bool false)], args := [d] }
  | _ => none }
def RankFirstsWrongFalsely : Prop := rankFirstsRow.holds Try.pinned (OpenSpec.ofChange rankFirstsWrong)

/-- 'horologelaw07.RankGrands': WHATEVER THE INPUT: true; the input reads as it did. -/
def rankGrandsSpec : ChangeSpec := { name := "rankGrands", fn := fun _ => fun
  | [d] => { results := [.lit (.bool true)], args := [d] }
  | _ => none }
def rankGrandsRow : OpenClaim := { program := "ytcjbopobgpfjlaa", sum := "3460d9608c0a4b3a1638bce03d880ccc6a61371e30d66106c1629d9b3fd52f57", func := "horologe/horologelaw07.RankGrands", spec := "rankGrands", apart := false }
def RankGrandsSaid : Prop := rankGrandsRow.holds Try.pinned (OpenSpec.ofChange rankGrandsSpec)

/-- ITS FALSE NEIGHBOUR: 'it returns false'. Refute it at one input. -/
def rankGrandsWrong : ChangeSpec := { name := "rankGrands", fn := fun _ => fun
  | [d] => { results := [.lit (.bool false)], args := [d] }
  | _ => none }
def RankGrandsWrongFalsely : Prop := rankGrandsRow.holds Try.pinned (OpenSpec.ofChange rankGrandsWrong)

/-- 'horologelaw07.RankThree': WHATEVER THE INPUT: true; the input reads as it did. -/
def rankThreeSpec : ChangeSpec := { name := "rankThree", fn := fun _ => fun
  | [d1, d2, d3] => { results := [.lit (.bool true)], args := [d1, d2, d3] }
  | _ => none }
def rankThreeRow : OpenClaim := { program := "ytcjbopobgpfjlaa", sum := "3460d9608c0a4b3a1638bce03d880ccc6a61371e30d66106c1629d9b3fd52f57", func := "horologe/horologelaw07.RankThree", spec := "rankThree", apart := false }
def RankThreeSaid : Prop := rankThreeRow.holds Try.pinned (OpenSpec.ofChange rankThreeSpec)

/-- ITS FALSE NEIGHBOUR: 'it returns false'. Refute it at one input. -/
def rankThreeWrong : ChangeSpec := { name := "rankThree", fn := fun _ => fun
  | [d1, d2, d3] => { results := [.lit (.bool false)], args := [d1, d2, d3] }
  | _ => none }
def RankThreeWrongFalsely : Prop := rankThreeRow.holds Try.pinned (OpenSpec.ofChange rankThreeWrong)

/-- 'horologelaw07.RankSteps': WHATEVER THE INPUT: true; the input reads as it did. -/
def rankStepsSpec : ChangeSpec := { name := "rankSteps", fn := fun _ => fun
  | [d1, d2, d3] => { results := [.lit (.bool true)], args := [d1, d2, d3] }
  | _ => none }
def rankStepsRow : OpenClaim := { program := "ytcjbopobgpfjlaa", sum := "3460d9608c0a4b3a1638bce03d880ccc6a61371e30d66106c1629d9b3fd52f57", func := "horologe/horologelaw07.RankSteps", spec := "rankSteps", apart := false }
def RankStepsSaid : Prop := rankStepsRow.holds Try.pinned (OpenSpec.ofChange rankStepsSpec)

/-- ITS FALSE NEIGHBOUR: 'it returns false'. Refute it at one input. -/
def rankStepsWrong : ChangeSpec := { name := "rankSteps", fn := fun _ => fun
  | [d1, d2, d3] => { results := [.lit (.bool false)], args := [d1, d2, d3] }
  | _ => none }
def RankStepsWrongFalsely : Prop := rankStepsRow.holds Try.pinned (OpenSpec.ofChange rankStepsWrong)

/-- 'horologelaw07.RankNever': WHATEVER THE INPUT: true; the input reads as it did. -/
def rankNeverSpec : ChangeSpec := { name := "rankNever", fn := fun _ => fun
  | [d1, d2] => { results := [.lit (.bool true)], args := [d1, d2] }
  | _ => none }
def rankNeverRow : OpenClaim := { program := "ytcjbopobgpfjlaa", sum := "3460d9608c0a4b3a1638bce03d880ccc6a61371e30d66106c1629d9b3fd52f57", func := "horologe/horologelaw07.RankNever", spec := "rankNever", apart := false }
def RankNeverSaid : Prop := rankNeverRow.holds Try.pinned (OpenSpec.ofChange rankNeverSpec)

/-- ITS FALSE NEIGHBOUR: 'it returns false'. Refute it at one input. -/
def rankNeverWrong : ChangeSpec := { name := "rankNever", fn := fun _ => fun
  | [d1, d2] => { results := [.lit (.bool false)], args := [d1, d2] }
  | _ => none }
def RankNeverWrongFalsely : Prop := rankNeverRow.holds Try.pinned (OpenSpec.ofChange rankNeverWrong)

/-- 'horologelaw07.RankReceivers': WHATEVER THE INPUT: true; the input reads as it did. -/
def rankReceiversSpec : ChangeSpec := { name := "rankReceivers", fn := fun _ => fun
  | [d1, d2, d3] => { results := [.lit (.bool true)], args := [d1, d2, d3] }
  | _ => none }
def rankReceiversRow : OpenClaim := { program := "ytcjbopobgpfjlaa", sum := "3460d9608c0a4b3a1638bce03d880ccc6a61371e30d66106c1629d9b3fd52f57", func := "horologe/horologelaw07.RankReceivers", spec := "rankReceivers", apart := false }
def RankReceiversSaid : Prop := rankReceiversRow.holds Try.pinned (OpenSpec.ofChange rankReceiversSpec)

/-- ITS FALSE NEIGHBOUR: 'it returns false'. Refute it at one input. -/
def rankReceiversWrong : ChangeSpec := { name := "rankReceivers", fn := fun _ => fun
  | [d1, d2, d3] => { results := [.lit (.bool false)], args := [d1, d2, d3] }
  | _ => none }
def RankReceiversWrongFalsely : Prop := rankReceiversRow.holds Try.pinned (OpenSpec.ofChange rankReceiversWrong)

/-- 'horologelaw09.BestAll': WHATEVER THE INPUT: true; the input reads as it did. -/
def bestAllSpec : ChangeSpec := { name := "bestAll", fn := fun _ => fun
  | [d] => { results := [.lit (.bool true)], args := [d] }
  | _ => none }
def bestAllRow : OpenClaim := { program := "ytcjbopobgpfjlaa", sum := "3460d9608c0a4b3a1638bce03d880ccc6a61371e30d66106c1629d9b3fd52f57", func := "horologe/horologelaw09.BestAll", spec := "bestAll", unfollowed := true, recurses := true, apart := false }
def BestAllSaid : Prop := bestAllRow.holds Try.pinned (OpenSpec.ofChange bestAllSpec)

/-- ITS FALSE NEIGHBOUR: 'it returns false'. Refute it at one input. -/
def bestAllWrong : ChangeSpec := { name := "bestAll", fn := fun _ => fun
  | [d] => { results := [.lit (.bool false)], args := [d] }
  | _ => none }
def BestAllWrongFalsely : Prop := bestAllRow.holds Try.pinned (OpenSpec.ofChange bestAllWrong)

/-- 'horologelaw09.BestOrder': WHATEVER THE INPUT: true; the input reads as it did. -/
def bestOrderSpec : ChangeSpec := { name := "bestOrder", fn := fun _ => fun
  | [d1, d2] => { results := [.lit (.bool true)], args := [d1, d2] }
  | _ => none }
def bestOrderRow : OpenClaim := { program := "ytcjbopobgpfjlaa", sum := "3460d9608c0a4b3a1638bce03d880ccc6a61371e30d66106c1629d9b3fd52f57", func := "horologe/horologelaw09.BestOrder", spec := "bestOrder", unfollowed := true, recurses := true, apart := false }
def BestOrderSaid : Prop := bestOrderRow.holds Try.pinned (OpenSpec.ofChange bestOrderSpec)

/-- ITS FALSE NEIGHBOUR: 'it returns false'. Refute it at one input. -/
def bestOrderWrong : ChangeSpec := { name := "bestOrder", fn := fun _ => fun
  | [d1, d2] => { results := [.lit (.bool false)], args := [d1, d2] }
  | _ => none }
def BestOrderWrongFalsely : Prop := bestOrderRow.holds Try.pinned (OpenSpec.ofChange bestOrderWrong)

/-- 'horologelaw09.BestNone': WHATEVER THE INPUT: true; the input reads as it did. -/
def bestNoneSpec : ChangeSpec := { name := "bestNone", fn := fun _ => fun
  | [d1, d2] => { results := [.lit (.bool true)], args := [d1, d2] }
  | _ => none }
def bestNoneRow : OpenClaim := { program := "ytcjbopobgpfjlaa", sum := "3460d9608c0a4b3a1638bce03d880ccc6a61371e30d66106c1629d9b3fd52f57", func := "horologe/horologelaw09.BestNone", spec := "bestNone", unfollowed := true, recurses := true, apart := false }
def BestNoneSaid : Prop := bestNoneRow.holds Try.pinned (OpenSpec.ofChange bestNoneSpec)

/-- ITS FALSE NEIGHBOUR: 'it returns false'. Refute it at one input. -/
def bestNoneWrong : ChangeSpec := { name := "bestNone", fn := fun _ => fun
  | [d1, d2] => { results := [.lit (.bool false)], args := [d1, d2] }
  | _ => none }
def BestNoneWrongFalsely : Prop := bestNoneRow.holds Try.pinned (OpenSpec.ofChange bestNoneWrong)

/-- 'horologelaw09.BestCompares': WHATEVER THE INPUT: true; the input reads as it did. -/
def bestComparesSpec : ChangeSpec := { name := "bestCompares", fn := fun _ => fun
  | [d1, d2, d3] => { results := [.lit (.bool true)], args := [d1, d2, d3] }
  | _ => none }
def bestComparesRow : OpenClaim := { program := "ytcjbopobgpfjlaa", sum := "3460d9608c0a4b3a1638bce03d880ccc6a61371e30d66106c1629d9b3fd52f57", func := "horologe/horologelaw09.BestCompares", spec := "bestCompares", unfollowed := true, recurses := true, apart := false }
def BestComparesSaid : Prop := bestComparesRow.holds Try.pinned (OpenSpec.ofChange bestComparesSpec)

/-- ITS FALSE NEIGHBOUR: 'it returns false'. Refute it at one input. -/
def bestComparesWrong : ChangeSpec := { name := "bestCompares", fn := fun _ => fun
  | [d1, d2, d3] => { results := [.lit (.bool false)], args := [d1, d2, d3] }
  | _ => none }
def BestComparesWrongFalsely : Prop := bestComparesRow.holds Try.pinned (OpenSpec.ofChange bestComparesWrong)

/- THE SECOND FORM. 'bulk': how many values and letters a reading holds, each counted each time it is reached (what is shared counts as often as it is met; a slice's spare places count too). A statement '..UptoSaid' is the law's where the arguments, and the package variables that the reading takes, are together of bulk at most 1048576: NARROWER than '..Said'. Prove '..Said' where nothing that the law and all that it calls make is longer than what came in: it says more and counts as full. Else prove '..UptoSaid'. A law counts once. -/
mutual
def uptoBulk {H : Type} : DataW H → Nat
  | .lit (.string bytes) => bytes.length + 1
  | .lit _ => 1
  | .nil => 1
  | .ptr d => uptoBulk d + 1
  | .slice elems spare => uptoBulkAll elems + uptoBulkAll spare + 1
  | .agg parts => uptoBulkAll parts + 1
  | .iface _ d => uptoBulk d + 1
  | .map entries => uptoBulkEntries entries + 1
  | .held _ => 1
def uptoBulkAll {H : Type} : List (DataW H) → Nat
  | [] => 0
  | d :: r => uptoBulk d + uptoBulkAll r
def uptoBulkEntries {H : Type} : List (Lit × DataW H) → Nat
  | [] => 0
  | x :: r => uptoBulkEntry x + uptoBulkEntries r
def uptoBulkEntry {H : Type} : Lit × DataW H → Nat
  | (.string bytes, d) => bytes.length + uptoBulk d + 1
  | (_, d) => uptoBulk d + 1
 end
def uptoSmall : (H : Type) → List (DataW H) → Bool := fun _ ds => decide (uptoBulkAll ds ≤ 1048576)
def OpenSpec.upto (s : _root_.Go.ChangeSpec) : _root_.Go.OpenSpec := { _root_.Go.OpenSpec.ofChange s with cond := some uptoSmall }

/-- 'horologelaw07.RankCompares', WHERE WHAT IT READS IS OF BULK AT MOST 1048576: true; the input reads as it did. -/
def rankComparesUptoRow : OpenClaim := { program := "ytcjbopobgpfjlaa", sum := "3460d9608c0a4b3a1638bce03d880ccc6a61371e30d66106c1629d9b3fd52f57", func := "horologe/horologelaw07.RankCompares", spec := "rankCompares", recurses := true, apart := false, narrowed := true }
def RankComparesUptoSaid : Prop := rankComparesUptoRow.holds Try.pinned (OpenSpec.upto rankComparesSpec)

/-- 'horologelaw07.RankTurns', WHERE WHAT IT READS IS OF BULK AT MOST 1048576: true; the input reads as it did. -/
def rankTurnsUptoRow : OpenClaim := { program := "ytcjbopobgpfjlaa", sum := "3460d9608c0a4b3a1638bce03d880ccc6a61371e30d66106c1629d9b3fd52f57", func := "horologe/horologelaw07.RankTurns", spec := "rankTurns", apart := false, narrowed := true }
def RankTurnsUptoSaid : Prop := rankTurnsUptoRow.holds Try.pinned (OpenSpec.upto rankTurnsSpec)

/-- 'horologelaw07.RankFirsts', WHERE WHAT IT READS IS OF BULK AT MOST 1048576: true; the input reads as it did. -/
def rankFirstsUptoRow : OpenClaim := { program := "ytcjbopobgpfjlaa", sum := "3460d9608c0a4b3a1638bce03d880ccc6a61371e30d66106c1629d9b3fd52f57", func := "horologe/horologelaw07.RankFirsts", spec := "rankFirsts", recurses := true, apart := false, narrowed := true }
def RankFirstsUptoSaid : Prop := rankFirstsUptoRow.holds Try.pinned (OpenSpec.upto rankFirstsSpec)

/-- 'horologelaw07.RankGrands', WHERE WHAT IT READS IS OF BULK AT MOST 1048576: true; the input reads as it did. -/
def rankGrandsUptoRow : OpenClaim := { program := "ytcjbopobgpfjlaa", sum := "3460d9608c0a4b3a1638bce03d880ccc6a61371e30d66106c1629d9b3fd52f57", func := "horologe/horologelaw07.RankGrands", spec := "rankGrands", apart := false, narrowed := true }
def RankGrandsUptoSaid : Prop := rankGrandsUptoRow.holds Try.pinned (OpenSpec.upto rankGrandsSpec)

/-- 'horologelaw07.RankThree', WHERE WHAT IT READS IS OF BULK AT MOST 1048576: true; the input reads as it did. -/
def rankThreeUptoRow : OpenClaim := { program := "ytcjbopobgpfjlaa", sum := "3460d9608c0a4b3a1638bce03d880ccc6a61371e30d66106c1629d9b3fd52f57", func := "horologe/horologelaw07.RankThree", spec := "rankThree", apart := false, narrowed := true }
def RankThreeUptoSaid : Prop := rankThreeUptoRow.holds Try.pinned (OpenSpec.upto rankThreeSpec)

/-- 'horologelaw07.RankSteps', WHERE WHAT IT READS IS OF BULK AT MOST 1048576: true; the input reads as it did. -/
def rankStepsUptoRow : OpenClaim := { program := "ytcjbopobgpfjlaa", sum := "3460d9608c0a4b3a1638bce03d880ccc6a61371e30d66106c1629d9b3fd52f57", func := "horologe/horologelaw07.RankSteps", spec := "rankSteps", apart := false, narrowed := true }
def RankStepsUptoSaid : Prop := rankStepsUptoRow.holds Try.pinned (OpenSpec.upto rankStepsSpec)

/-- 'horologelaw07.RankNever', WHERE WHAT IT READS IS OF BULK AT MOST 1048576: true; the input reads as it did. -/
def rankNeverUptoRow : OpenClaim := { program := "ytcjbopobgpfjlaa", sum := "3460d9608c0a4b3a1638bce03d880ccc6a61371e30d66106c1629d9b3fd52f57", func := "horologe/horologelaw07.RankNever", spec := "rankNever", apart := false, narrowed := true }
def RankNeverUptoSaid : Prop := rankNeverUptoRow.holds Try.pinned (OpenSpec.upto rankNeverSpec)

/-- 'horologelaw07.RankReceivers', WHERE WHAT IT READS IS OF BULK AT MOST 1048576: true; the input reads as it did. -/
def rankReceiversUptoRow : OpenClaim := { program := "ytcjbopobgpfjlaa", sum := "3460d9608c0a4b3a1638bce03d880ccc6a61371e30d66106c1629d9b3fd52f57", func := "horologe/horologelaw07.RankReceivers", spec := "rankReceivers", apart := false, narrowed := true }
def RankReceiversUptoSaid : Prop := rankReceiversUptoRow.holds Try.pinned (OpenSpec.upto rankReceiversSpec)

/-- 'horologelaw09.BestAll', WHERE WHAT IT READS IS OF BULK AT MOST 1048576: true; the input reads as it did. -/
def bestAllUptoRow : OpenClaim := { program := "ytcjbopobgpfjlaa", sum := "3460d9608c0a4b3a1638bce03d880ccc6a61371e30d66106c1629d9b3fd52f57", func := "horologe/horologelaw09.BestAll", spec := "bestAll", unfollowed := true, recurses := true, apart := false, narrowed := true }
def BestAllUptoSaid : Prop := bestAllUptoRow.holds Try.pinned (OpenSpec.upto bestAllSpec)

/-- 'horologelaw09.BestOrder', WHERE WHAT IT READS IS OF BULK AT MOST 1048576: true; the input reads as it did. -/
def bestOrderUptoRow : OpenClaim := { program := "ytcjbopobgpfjlaa", sum := "3460d9608c0a4b3a1638bce03d880ccc6a61371e30d66106c1629d9b3fd52f57", func := "horologe/horologelaw09.BestOrder", spec := "bestOrder", unfollowed := true, recurses := true, apart := false, narrowed := true }
def BestOrderUptoSaid : Prop := bestOrderUptoRow.holds Try.pinned (OpenSpec.upto bestOrderSpec)

/-- 'horologelaw09.BestNone', WHERE WHAT IT READS IS OF BULK AT MOST 1048576: true; the input reads as it did. -/
def bestNoneUptoRow : OpenClaim := { program := "ytcjbopobgpfjlaa", sum := "3460d9608c0a4b3a1638bce03d880ccc6a61371e30d66106c1629d9b3fd52f57", func := "horologe/horologelaw09.BestNone", spec := "bestNone", unfollowed := true, recurses := true, apart := false, narrowed := true }
def BestNoneUptoSaid : Prop := bestNoneUptoRow.holds Try.pinned (OpenSpec.upto bestNoneSpec)

/-- 'horologelaw09.BestCompares', WHERE WHAT IT READS IS OF BULK AT MOST 1048576: true; the input reads as it did. -/
def bestComparesUptoRow : OpenClaim := { program := "ytcjbopobgpfjlaa", sum := "3460d9608c0a4b3a1638bce03d880ccc6a61371e30d66106c1629d9b3fd52f57", func := "horologe/horologelaw09.BestCompares", spec := "bestCompares", unfollowed := true, recurses := true, apart := false, narrowed := true }
def BestComparesUptoSaid : Prop := bestComparesUptoRow.holds Try.pinned (OpenSpec.upto bestComparesSpec)

end Rows
end Go.Proofs.Ytcjbopobgpfjlaa
