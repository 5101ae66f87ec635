/-
  How a port's kind and scripts read. No condition.
-/
import Derived.Test.YtlbdinckbbaknaaRdG
import Derived.Test.YtlbdinckbbaknaaPoF
namespace Go.Proofs.Ytlbdinckbbaknaa
open Go.RowKit Go.ChangeShapes Go.WideShapes Go.ChangeAt

structure Knd where
  e : Int
  o : Int
  so : Bool
abbrev ka (k : Knd) : Array Value := #[.int .i64 k.e, .int .i64 k.o, .bool k.so]
structure Opp.ok (x : Opp) : Prop where
  k : i64ok x.k
  c : i64ok x.c
  p : i64ok x.p
  n : i64ok x.n
def zeroO : Opp := ⟨0, 0, 0, 0, false⟩
section
variable {H : Type} {enc : TypeId × Value → H} {w : World} {base : Nat} {spare : Nat → Bool} {held : Bool}
theorem rd_num {fuel : Nat} {cs : List Value} {x : DataW H × List MemPlace} (h : DataW.trod enc Try.prog w base spare held fuel 3 cs = some x) : ∃ z : Int, cs = [.int .i64 z] ∧ i64ok z := by
  obtain ⟨z, e, _, hw⟩ := DataW.trod_int Try.underlying3 h
  exact ⟨z, e, i64_of hw⟩
theorem rd_bl {fuel : Nat} {cs : List Value} {x : DataW H × List MemPlace} (h : DataW.trod enc Try.prog w base spare held fuel 4 cs = some x) : ∃ z : Bool, cs = [.bool z] := by
  obtain ⟨z, e, _⟩ := DataW.trod_bool Try.underlying4 h
  exact ⟨z, e⟩
theorem take_join {cs : List Value} {a b : Nat} {l m : List Value} (h1 : cs.take a = l) (h2 : (cs.drop a).take b = m) : cs.take (a + b) = l ++ m := by
  rw [← h1, ← h2, List.take_add]
theorem rd_op {fuel : Nat} {cs : List Value} {x : DataW H × List MemPlace} (h : DataW.trod enc Try.prog w base spare held fuel 43 cs = some x) : ∃ s : Opp, cs = (oa s).toList ∧ s.ok := by
  obtain ⟨xs, n, _, rfl, hl, hlen, hf⟩ := DataW.trod_struct Try.underlying43 h
  rw [show Try.prog.cellsOf 43 = 5 by kernel_rfl] at hl
  match xs, hlen with
  | [y0, y1, y2, y3, y4], _ =>
    obtain ⟨a, h0, wa⟩ := rd_num (by simpa using hf 0 _ rfl)
    obtain ⟨b, h1, wb⟩ := rd_num (by simpa using hf 1 _ rfl)
    obtain ⟨c, h2, wc⟩ := rd_num (by simpa using hf 2 _ rfl)
    obtain ⟨d, h3, wd⟩ := rd_num (by simpa using hf 3 _ rfl)
    obtain ⟨e, h4⟩ := rd_bl (by simpa using hf 4 _ rfl)
    rw [show Try.prog.cellsOf 3 = 1 by kernel_rfl] at h0 h1 h2 h3
    rw [show Try.prog.cellsOf 4 = 1 by kernel_rfl] at h4
    refine ⟨⟨a, b, c, d, e⟩, ?_, ⟨wa, wb, wc, wd⟩⟩
    rw [← List.drop_one] at h1
    have e1 : cs.take 2 = _ := take_join (a := 1) (b := 1) h0 h1
    have e2 : cs.take 3 = _ := take_join (a := 2) (b := 1) e1 h2
    have e3 : cs.take 4 = _ := take_join (a := 3) (b := 1) e2 h3
    have e4 : cs.take 5 = _ := take_join (a := 4) (b := 1) e3 h4
    rw [List.take_of_length_le (by omega)] at e4
    exact e4
theorem rd_ops {x : Option Addr} {len cap : Nat} {d : DataW H} {p : List MemPlace} (h : DataW.Trod enc Try.prog w base spare held 37 (.slice x len cap) d p) :
    len ≤ cap ∧ cap ≤ maxLen ∧ ∃ xs : List Opp, xs.length = len ∧ RowsIn oa zeroO 5 w x xs ∧ ∀ k, k < xs.length → (xs.getD k zeroO).ok :=
  rd_rows oa zeroO Opp.ok 5 (by decide) (fun _ => rfl) Try.underlying37 (by kernel_rfl) rd_op h
theorem rd_ints {x : Option Addr} {len cap : Nat} {d : DataW H} {p : List MemPlace} (h : DataW.Trod enc Try.prog w base spare held 35 (.slice x len cap) d p) :
    len ≤ cap ∧ cap ≤ maxLen ∧ ∃ xs : List Int, xs.length = len ∧ RowsIn (fun z => #[.int .i64 z]) 0 1 w x xs ∧ ∀ k, k < xs.length → i64ok (xs.getD k 0) :=
  rd_rows (fun z => #[.int .i64 z]) 0 i64ok 1 (by decide) (fun _ => rfl) Try.underlying35 (by kernel_rfl) (fun h => by
    obtain ⟨z, e, hz⟩ := rd_num h
    exact ⟨z, by simpa using e, hz⟩) h
theorem rd_knd {v : Value} {d : DataW H} {p : List MemPlace} (h : DataW.Trod enc Try.prog w base spare held 23 v d p) : ∃ k : Knd, v = .agg (ka k) ∧ i64ok k.e ∧ i64ok k.o := by
  obtain ⟨fuel, hf⟩ := h
  obtain ⟨xs, n, _, _, hl, hlen, hf⟩ := DataW.trod_struct Try.underlying23 hf
  rw [show Try.prog.cellsOf 23 = 3 by kernel_rfl] at hl
  match xs, hlen with
  | [y0, y1, y2], _ =>
    obtain ⟨a, h0, wa⟩ := rd_num (by simpa using hf 0 _ rfl)
    obtain ⟨b, h1, wb⟩ := rd_num (by simpa using hf 1 _ rfl)
    obtain ⟨c, h2⟩ := rd_bl (by simpa using hf 2 _ rfl)
    rw [show Try.prog.cellsOf 3 = 1 by kernel_rfl] at h0 h1
    rw [show Try.prog.cellsOf 4 = 1 by kernel_rfl] at h2
    refine ⟨⟨a, b, c⟩, ?_, wa, wb⟩
    rw [← List.drop_one] at h1
    have e1 : List.take 2 v.cells.toList = _ := take_join (a := 1) (b := 1) h0 h1
    have e2 : List.take 3 v.cells.toList = _ := take_join (a := 2) (b := 1) e1 h2
    rw [List.take_of_length_le (by omega)] at e2
    exact agg_of e2 (by simp)
end
end Go.Proofs.Ytlbdinckbbaknaa
