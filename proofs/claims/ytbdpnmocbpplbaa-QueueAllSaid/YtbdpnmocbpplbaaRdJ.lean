/-
  How scripts read: calls, with their items. No condition.
-/
import Derived.Test.YtbdpnmocbpplbaaRdH
import Derived.Test.YtbdpnmocbpplbaaQuS
namespace Go.Proofs.Ytbdpnmocbpplbaa
open Go.RowKit Go.ChangeShapes Go.WideShapes Go.ChangeAt

/-- A call as it lies. -/
structure OpR where
  o : OpI
  a : Option Addr
  c : Nat
def zeroOp : OpI := ⟨0, 0, 0, zeroI⟩
def zeroO : OpR := ⟨zeroOp, none, 0⟩
def fO (s : OpR) : Array Value := oa s.o s.a s.c
@[simp, go_sem] theorem fO_size (s : OpR) : (fO s).size = 5 := rfl
structure PdO (w : World) (s : OpR) : Prop where
  row : RowsIn b1 0 1 w s.a s.o.x.bs
  len : s.o.x.bs.length ≤ 140737488351232
  ok : okI s.o.x
theorem PdO.below {w w' : World} {s : OpR} (h : PdO w s) (hb : Below w.heap.size w w') : PdO w' s := ⟨h.row.below (by decide) hb, h.len, h.ok⟩
section
variable {H : Type} {enc : TypeId × Value → H} {w : World} {base : Nat} {spare : Nat → Bool} {held : Bool}
theorem rd_itk {fuel : Nat} {cs : List Value} {x : DataW H × List MemPlace} (hw : ∀ m ∈ x.1.weights Try.prog 30, m ≤ reachBytes) (h : DataW.trod enc Try.prog w base spare held fuel 30 cs = some x) : ∃ s : ItR, cs = (fR s).toList ∧ PdR w s ∧ okI s.x := by
  obtain ⟨xs, n, _, rfl, hl, hlen, hf⟩ := DataW.trod_struct Try.underlying30 h
  rw [show Try.prog.cellsOf 30 = 2 by kernel_rfl] at hl
  match xs, hlen with
  | [y0, y1], _ =>
    obtain ⟨k, h0, _, _⟩ := DataW.trod_int Try.underlying3 (by simpa using hf 0 _ rfl)
    have h1 := hf 1 _ rfl
    have hw1 : ∀ m ∈ y1.1.weights Try.prog 28, m ≤ reachBytes := fun m hm => hw m (by
      simp only [DataW.weights, Try.underlying30]
      simp [DataW.weightsEach, hm])
    match cs, hl with
    | [c0, c1], _ =>
      have e0 : c0 = .int .i64 k := by
        rw [show Try.prog.cellsOf 3 = 1 by kernel_rfl] at h0
        simpa using h0
      subst e0
      have h1' : DataW.trod enc Try.prog w base spare held n 28 [c1] = some y1 := by simpa [show Try.prog.cellsOf 28 = 1 by kernel_rfl] using h1
      have hsl : ∃ a l c, c1 = .slice a l c := by
        rcases DataW.trod_slice Try.underlying28 h1' with ⟨h2, _⟩ | ⟨a, len, cap, _, _, _, _, h2, _⟩
        · exact ⟨none, 0, 0, by simpa using h2⟩
        · exact ⟨some a, len, cap, by simpa using h2⟩
      obtain ⟨a, l, c, rfl⟩ := hsl
      obtain ⟨_, _, hb, bs, hbl, hr, hk⟩ := rd_rowsW b1 0 (fun z => 0 ≤ z ∧ z < 256) reachBytes 1 (by decide) (fun _ => rfl) Try.underlying28 (by kernel_rfl) (fun _ h => by
        obtain ⟨z, e, _, hz⟩ := DataW.trod_int Try.underlying5 h
        have hb := bounds_u8 hz
        exact ⟨z, by rw [e], by omega, by omega⟩) hw1 h1'
      subst hbl
      refine ⟨⟨⟨k, bs⟩, a, c⟩, rfl, ⟨hr, ?_⟩, hk⟩
      rw [show Try.prog.bytesOf 5 = 1 by kernel_rfl, Nat.mul_one] at hb
      exact hb
theorem rd_opc {fuel : Nat} {cs : List Value} {x : DataW H × List MemPlace} (hw : ∀ m ∈ x.1.weights Try.prog 49, m ≤ reachBytes) (h : DataW.trod enc Try.prog w base spare held fuel 49 cs = some x) : ∃ s : OpR, cs = (fO s).toList ∧ PdO w s := by
  obtain ⟨xs, n, _, rfl, hl, hlen, hf⟩ := DataW.trod_struct Try.underlying49 h
  rw [show Try.prog.cellsOf 49 = 5 by kernel_rfl] at hl
  match xs, hlen with
  | [y0, y1, y2, y3], _ =>
    obtain ⟨k0, h0, _, _⟩ := DataW.trod_int Try.underlying3 (by simpa using hf 0 _ rfl)
    obtain ⟨k1, h1, _, _⟩ := DataW.trod_int Try.underlying3 (by simpa using hf 1 _ rfl)
    obtain ⟨k2, h2, _, _⟩ := DataW.trod_int Try.underlying3 (by simpa using hf 2 _ rfl)
    have h3 := hf 3 _ rfl
    have hw3 : ∀ m ∈ y3.1.weights Try.prog 30, m ≤ reachBytes := fun m hm => hw m (by
      rw [DataW.weights, Try.underlying49]
      simp [DataW.weightsEach, hm])
    match cs, hl with
    | [c0, c1, c2, c3, c4], _ =>
      rw [show Try.prog.cellsOf 3 = 1 by kernel_rfl] at h0 h1 h2
      have e0 : c0 = .int .i64 k0 := by simpa using h0
      have e1 : c1 = .int .i64 k1 := by simpa using h1
      have e2 : c2 = .int .i64 k2 := by simpa using h2
      subst e0 e1 e2
      have h3' : DataW.trod enc Try.prog w base spare held n 30 [c3, c4] = some y3 := by simpa [show Try.prog.cellsOf 30 = 2 by kernel_rfl] using h3
      obtain ⟨s, e, hp, hk⟩ := rd_itk hw3 h3'
      simp [fR, ic] at e
      obtain ⟨rfl, rfl⟩ := e
      exact ⟨⟨⟨k0, k1, k2, s.x⟩, s.a, s.c⟩, rfl, hp.1, hp.2, hk⟩
theorem rd_script {x : Option Addr} {len cap : Nat} {d : DataW H} {p : List MemPlace} (hw : ∀ m ∈ d.weights Try.prog 45, m ≤ reachBytes) (h : DataW.Trod enc Try.prog w base spare held 45 (.slice x len cap) d p) :
    len ≤ cap ∧ cap ≤ maxLen ∧ ∃ xs : List OpR, xs.length = len ∧ RowsIn fO zeroO 5 w x xs ∧ ∀ k, k < xs.length → PdO w (xs.getD k zeroO) := by
  obtain ⟨fuel, hf⟩ := h
  have hf' : DataW.trod enc Try.prog w base spare held fuel 45 [.slice x len cap] = some (d, p) := by simpa [Value.cells] using hf
  obtain ⟨h1, h2, _, h3⟩ := rd_rowsW fO zeroO (PdO w) reachBytes 5 (by decide) fO_size Try.underlying45 (by kernel_rfl) rd_opc (d := (d, p)) hw hf'
  exact ⟨h1, h2, h3⟩
end
end Go.Proofs.Ytbdpnmocbpplbaa
