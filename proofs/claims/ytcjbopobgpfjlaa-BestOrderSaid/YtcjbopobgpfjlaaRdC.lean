/-
  How choices and numbers read. No condition.
-/
import Derived.Test.YtcjbopobgpfjlaaBeF
import Derived.Test.YtcjbopobgpfjlaaRd
import Derived.ChangeSlices
namespace Go.Proofs.Ytcjbopobgpfjlaa
open Go.RowKit Go.ChangeShapes Go.WideShapes Go.ChangeAt

section
variable {H : Type} {enc : TypeId × Value → H} {w : World} {base : Nat} {spare : Nat → Bool} {held : Bool}
theorem rd_num {fuel : Nat} {cs : List Value} {x : DataW H × List MemPlace} (h : DataW.trod enc Try.prog w base spare held fuel 3 cs = some x) : ∃ z : Int, cs = [.int .i64 z] ∧ i64ok z := by
  obtain ⟨z, e, _, hw⟩ := DataW.trod_int Try.underlying3 h
  exact ⟨z, e, i64_of hw⟩
theorem rd_clkc {fuel : Nat} {cs : List Value} {x : DataW H × List MemPlace} (h : DataW.trod enc Try.prog w base spare held fuel 25 cs = some x) : ∃ c : Clk, cs = (ca c).toList := by
  obtain ⟨l, hl, hr, e⟩ := rd_bytes (n := 8) Try.underlying25 Try.underlying5 (by kernel_rfl) (by kernel_rfl) h
  exact ⟨⟨l, hl, hr⟩, by rw [e]; simp [ca, cl]⟩
theorem rd_prtc {fuel : Nat} {cs : List Value} {x : DataW H × List MemPlace} (h : DataW.trod enc Try.prog w base spare held fuel 27 cs = some x) : ∃ p : Prt, cs = (pa p).toList ∧ i64ok p.n :=
  rd_prt_cells Try.underlying27 rfl rfl rfl rfl Try.underlying25 Try.underlying5 (by kernel_rfl) (by kernel_rfl) Try.underlying3 (by kernel_rfl) (by kernel_rfl) h
theorem take_join {cs : List Value} {a b : Nat} {l m : List Value} (h1 : cs.take a = l) (h2 : (cs.drop a).take b = m) : cs.take (a + b) = l ++ m := by
  rw [← h1, ← h2, List.take_add]
theorem rd_qual {fuel : Nat} {cs : List Value} {x : DataW H × List MemPlace} (h : DataW.trod enc Try.prog w base spare held fuel 23 cs = some x) : ∃ a b c : Int, cs = [.int .i64 a, .int .i64 b, .int .i64 c] := by
  obtain ⟨xs, n, _, rfl, hl, hlen, hf⟩ := DataW.trod_struct Try.underlying23 h
  rw [show Try.prog.cellsOf 23 = 3 by kernel_rfl] at hl
  match xs, hlen with
  | [y0, y1, y2], _ =>
    obtain ⟨a, h0, _⟩ := rd_num (by simpa using hf 0 _ rfl)
    obtain ⟨b, h1, _⟩ := rd_num (by simpa using hf 1 _ rfl)
    obtain ⟨c, h2, _⟩ := rd_num (by simpa using hf 2 _ rfl)
    rw [show Try.prog.cellsOf 3 = 1 by kernel_rfl] at h0 h1 h2
    refine ⟨a, b, c, ?_⟩
    rw [← List.drop_one] at h1
    have e1 : cs.take 2 = _ := take_join (a := 1) (b := 1) h0 h1
    have e : cs.take 3 = _ := take_join (a := 2) (b := 1) e1 h2
    rw [List.take_of_length_le (by omega)] at e
    exact e
theorem rd_setc {fuel : Nat} {cs : List Value} {x : DataW H × List MemPlace} (h : DataW.trod enc Try.prog w base spare held fuel 29 cs = some x) : ∃ s : Sett, cs = (sa s).toList ∧ inR s.n := by
  obtain ⟨xs, n, _, rfl, hl, hlen, hf⟩ := DataW.trod_struct Try.underlying29 h
  rw [show Try.prog.cellsOf 29 = 32 by kernel_rfl] at hl
  match xs, hlen with
  | [y0, y1, y2, y3, y4, y5, y6], _ =>
    obtain ⟨a, h0, _⟩ := rd_num (by simpa using hf 0 _ rfl)
    obtain ⟨b, h1, _⟩ := rd_num (by simpa using hf 1 _ rfl)
    obtain ⟨q1, q2, q3, h2⟩ := rd_qual (by simpa using hf 2 _ rfl)
    obtain ⟨g, h3⟩ := rd_clkc (by simpa using hf 3 _ rfl)
    obtain ⟨n, h4, hn⟩ := rd_num (by simpa using hf 4 _ rfl)
    obtain ⟨s, h5, _⟩ := rd_prtc (by simpa using hf 5 _ rfl)
    obtain ⟨r, h6, _⟩ := rd_prtc (by simpa using hf 6 _ rfl)
    rw [show Try.prog.cellsOf 3 = 1 by kernel_rfl] at h0 h1 h4
    rw [show Try.prog.cellsOf 23 = 3 by kernel_rfl] at h2
    rw [show Try.prog.cellsOf 25 = 8 by kernel_rfl] at h3
    rw [show Try.prog.cellsOf 27 = 9 by kernel_rfl] at h5 h6
    refine ⟨⟨a, b, q1, q2, q3, g, n, s, r⟩, ?_, hn⟩
    rw [← List.drop_one] at h1
    have e1 : cs.take 2 = _ := take_join (a := 1) (b := 1) h0 h1
    have e2 : cs.take 5 = _ := take_join (a := 2) (b := 3) e1 h2
    have e3 : cs.take 13 = _ := take_join (a := 5) (b := 8) e2 h3
    have e4 : cs.take 14 = _ := take_join (a := 13) (b := 1) e3 h4
    have e5 : cs.take 23 = _ := take_join (a := 14) (b := 9) e4 h5
    have e : cs.take 32 = _ := take_join (a := 23) (b := 9) e5 h6
    rw [List.take_of_length_le (by omega)] at e
    rw [e]
    simp [sa]
theorem rd_set {v : Value} {d : DataW H} {p : List MemPlace} (h : DataW.Trod enc Try.prog w base spare held 29 v d p) : ∃ s : Sett, v = .agg (sa s) ∧ inR s.n := by
  obtain ⟨fuel, hf⟩ := h
  obtain ⟨s, e, hn⟩ := rd_setc hf
  exact ⟨s, by rw [agg_of e (by simp)], hn⟩
theorem rd_choc {fuel : Nat} {cs : List Value} {x : DataW H × List MemPlace} (h : DataW.trod enc Try.prog w base spare held fuel 54 cs = some x) : ∃ s : Cho, cs = (cha s).toList ∧ inR s.s.n := by
  obtain ⟨xs, n, _, rfl, hl, hlen, hf⟩ := DataW.trod_struct Try.underlying54 h
  rw [show Try.prog.cellsOf 54 = 33 by kernel_rfl] at hl
  match xs, hlen with
  | [y0, y1], _ =>
    obtain ⟨s, h0, hn⟩ := rd_setc (by simpa using hf 0 _ rfl)
    obtain ⟨b, h1, _⟩ := DataW.trod_bool Try.underlying4 (by simpa using hf 1 _ rfl)
    rw [show Try.prog.cellsOf 29 = 32 by kernel_rfl] at h0
    rw [show Try.prog.cellsOf 4 = 1 by kernel_rfl] at h1
    refine ⟨⟨s, b⟩, ?_, hn⟩
    have e : cs.take 33 = _ := take_join (a := 32) (b := 1) h0 h1
    rw [List.take_of_length_le (by omega)] at e
    rw [e]
    simp [cha]
theorem rd_chos {x : Option Addr} {len cap : Nat} {d : DataW H} {p : List MemPlace} (h : DataW.Trod enc Try.prog w base spare held 42 (.slice x len cap) d p) :
    len ≤ cap ∧ cap ≤ maxLen ∧ ∃ xs : List Cho, xs.length = len ∧ RowsIn cha zeroCh 33 w x xs ∧ ∀ k, k < xs.length → inR (xs.getD k zeroCh).s.n :=
  rd_rows cha zeroCh (fun c => inR c.s.n) 33 (by decide) cha_size Try.underlying42 (by kernel_rfl) rd_choc h
theorem rd_ints {x : Option Addr} {len cap : Nat} {d : DataW H} {p : List MemPlace} (h : DataW.Trod enc Try.prog w base spare held 63 (.slice x len cap) d p) :
    len ≤ cap ∧ cap ≤ maxLen ∧ ∃ xs : List Int, xs.length = len ∧ RowsIn i1 0 1 w x xs ∧ ∀ k, k < xs.length → i64ok (xs.getD k 0) :=
  rd_rows i1 0 i64ok 1 (by decide) (fun _ => rfl) Try.underlying63 (by kernel_rfl) (fun h => by
    obtain ⟨z, e, hz⟩ := rd_num h
    exact ⟨z, by rw [e], hz⟩) h
end
end Go.Proofs.Ytcjbopobgpfjlaa
