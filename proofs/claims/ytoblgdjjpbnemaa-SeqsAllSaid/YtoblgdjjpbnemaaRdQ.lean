/-
  How calls and scripts read. No condition.
-/
import Derived.Test.YtoblgdjjpbnemaaSqG
import Derived.Test.YtoblgdjjpbnemaaRdG
namespace Go.Proofs.Ytoblgdjjpbnemaa
open Go.RowKit Go.ChangeShapes Go.WideShapes Go.ChangeAt

def zeroOQ : OpQ := ⟨0, 0, 0, zeroP, zeroX⟩
section
variable {H : Type} {enc : TypeId × Value → H} {w : World} {base : Nat} {spare : Nat → Bool} {held : Bool}
theorem rd_num {fuel : Nat} {cs : List Value} {x : DataW H × List MemPlace} (h : DataW.trod enc Try.prog w base spare held fuel 3 cs = some x) : ∃ z : Int, cs = [.int .i64 z] ∧ i64ok z := by
  obtain ⟨z, e, _, hw⟩ := DataW.trod_int Try.underlying3 h
  exact ⟨z, e, i64_of hw⟩
theorem rd_prtc {fuel : Nat} {cs : List Value} {x : DataW H × List MemPlace} (h : DataW.trod enc Try.prog w base spare held fuel 35 cs = some x) : ∃ p : Prt, cs = (pa p).toList ∧ i64ok p.n :=
  rd_prt_cells Try.underlying35 rfl rfl rfl rfl Try.underlying33 Try.underlying5 (by kernel_rfl) (by kernel_rfl) Try.underlying3 (by kernel_rfl) (by kernel_rfl) h
theorem take_join {cs : List Value} {a b : Nat} {l m : List Value} (h1 : cs.take a = l) (h2 : (cs.drop a).take b = m) : cs.take (a + b) = l ++ m := by
  rw [← h1, ← h2, List.take_add]
theorem rd_x3 {fuel : Nat} {cs : List Value} {x : DataW H × List MemPlace} (h : DataW.trod enc Try.prog w base spare held fuel 36 cs = some x) : ∃ y : X3, cs = (xc y).toList := by
  obtain ⟨xs, m, _, _, hl, hlen, hf⟩ := DataW.trod_array Try.underlying36 h
  rw [show Try.prog.cellsOf 36 = 3 by kernel_rfl] at hl
  have e1 : Try.prog.cellsOf 3 = 1 := by kernel_rfl
  match xs, hlen with
  | [y0, y1, y2], _ =>
    obtain ⟨a, h0, _⟩ := rd_num (by simpa using hf 0 (by omega))
    obtain ⟨b, h1, _⟩ := rd_num (by simpa using hf 1 (by omega))
    obtain ⟨c, h2, _⟩ := rd_num (by simpa using hf 2 (by omega))
    rw [e1] at h0 h1 h2
    refine ⟨⟨a, b, c⟩, ?_⟩
    have e2 : cs.take 2 = _ := take_join (a := 1) (b := 1) h0 h1
    have e : cs.take 3 = _ := take_join (a := 2) (b := 1) e2 h2
    rw [List.take_of_length_le (by omega)] at e
    rw [e]
    rfl
theorem rd_opc {fuel : Nat} {cs : List Value} {x : DataW H × List MemPlace} (h : DataW.trod enc Try.prog w base spare held fuel 38 cs = some x) : ∃ s : OpQ, cs = (oq s).toList ∧ True := by
  obtain ⟨xs, n, _, rfl, hl, hlen, hf⟩ := DataW.trod_struct Try.underlying38 h
  rw [show Try.prog.cellsOf 38 = 15 by kernel_rfl] at hl
  match xs, hlen with
  | [y0, y1, y2, y3, y4], _ =>
    obtain ⟨a, h0, _⟩ := rd_num (by simpa using hf 0 _ rfl)
    obtain ⟨b, h1, _⟩ := rd_num (by simpa using hf 1 _ rfl)
    obtain ⟨c, h2, _⟩ := rd_num (by simpa using hf 2 _ rfl)
    obtain ⟨p, h3, _⟩ := rd_prtc (by simpa using hf 3 _ rfl)
    obtain ⟨y, h4⟩ := rd_x3 (by simpa using hf 4 _ rfl)
    rw [show Try.prog.cellsOf 3 = 1 by kernel_rfl] at h0 h1 h2
    rw [show Try.prog.cellsOf 35 = 9 by kernel_rfl] at h3
    rw [show Try.prog.cellsOf 36 = 3 by kernel_rfl] at h4
    refine ⟨⟨a, b, c, p, y⟩, ?_, trivial⟩
    rw [← List.drop_one] at h1
    have e1 : cs.take 2 = _ := take_join (a := 1) (b := 1) h0 h1
    have e2 : cs.take 3 = _ := take_join (a := 2) (b := 1) e1 h2
    have e3 : cs.take 12 = _ := take_join (a := 3) (b := 9) e2 h3
    have e : cs.take 15 = _ := take_join (a := 12) (b := 3) e3 h4
    rw [List.take_of_length_le (by omega)] at e
    rw [e]
    simp [oq]
theorem rd_opq {v : Value} {d : DataW H} {p : List MemPlace} (h : DataW.Trod enc Try.prog w base spare held 38 v d p) : ∃ s : OpQ, v = .agg (oq s) := by
  obtain ⟨fuel, hf⟩ := h
  obtain ⟨s, e, _⟩ := rd_opc hf
  exact ⟨s, by rw [agg_of e (by simp)]⟩
theorem rd_scriptq {x : Option Addr} {len cap : Nat} {d : DataW H} {p : List MemPlace} (h : DataW.Trod enc Try.prog w base spare held 22 (.slice x len cap) d p) :
    len ≤ cap ∧ cap ≤ maxLen ∧ ∃ xs : List OpQ, xs.length = len ∧ RowsIn oq zeroOQ 15 w x xs := by
  obtain ⟨h1, h2, xs, h3, h4, _⟩ := rd_rows oq zeroOQ (fun _ => True) 15 (by decide) oq_size Try.underlying22 (by kernel_rfl) rd_opc h
  exact ⟨h1, h2, xs, h3, h4⟩
end
end Go.Proofs.Ytoblgdjjpbnemaa
