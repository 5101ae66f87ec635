/-
  How arguments read: bytes, clocks, cards, ports as plain data out of the form's own reading. Over any program. No condition.
-/
import Derived.Test.YtoblgdjjpbnemaaIdA
import Derived.ProofKit
import Derived.OpenShut
import Derived.ShutString
import Derived.ChangeOld
namespace Go.Proofs.Ytoblgdjjpbnemaa
open Go.RowKit Go.ChangeShapes Go.WideShapes Go.ChangeAt

section
variable {H : Type} {enc : TypeId × Value → H} {P : Program} {w : World} {base : Nat} {spare : Nat → Bool} {held : Bool}

theorem rd_bytes {fuel : Nat} {t e : TypeId} {n : Nat} {cs : List Value} {x : DataW H × List MemPlace} (ht : P.underlying t = some (.array n e)) (he : P.underlying e = some (.int .u8)) (hc : P.cellsOf e = 1) (hct : P.cellsOf t = n)
    (h : DataW.trod enc P w base spare held fuel t cs = some x) : ∃ l : List Int, l.length = n ∧ (∀ y ∈ l, 0 ≤ y ∧ y < 256) ∧ cs = l.map (Value.int .u8) := by
  obtain ⟨xs, m, _, _, hl, hlen, hf⟩ := DataW.trod_array ht h
  rw [hct] at hl
  have H1 : ∀ i, i < n → ∃ z : Int, cs[i]? = some (.int .u8 z) ∧ 0 ≤ z ∧ z < 256 := by
    intro i hi
    have h1 := hf i hi
    rw [hc, Nat.mul_one, List.getElem?_eq_getElem (by omega : i < xs.length)] at h1
    obtain ⟨z, hz, _, hw⟩ := DataW.trod_int he h1
    have hb := bounds_u8 hw
    refine ⟨z, ?_, by omega, by omega⟩
    have h2 : (cs.drop i).take 1 = [cs[i]] := by
      rw [List.drop_eq_getElem_cons (by omega : i < cs.length)]
      rfl
    rw [h2] at hz
    rw [List.getElem?_eq_getElem (by omega : i < cs.length)]
    simpa using hz
  refine ⟨cs.map fun v => match v with | .int _ z => z | _ => 0, by simp [hl], fun y hy => ?_, ?_⟩
  · obtain ⟨v, hv, rfl⟩ := List.mem_map.1 hy
    obtain ⟨i, hi, rfl⟩ := List.getElem_of_mem hv
    obtain ⟨z, hz, h0, h1⟩ := H1 i (by omega)
    rw [List.getElem?_eq_getElem hi] at hz
    rw [Option.some.inj hz]
    exact ⟨h0, h1⟩
  · apply List.ext_getElem?
    intro i
    by_cases hi : i < n
    · obtain ⟨z, hz, _⟩ := H1 i hi
      simp [hz]
    · rw [List.getElem?_eq_none (by omega), List.getElem?_eq_none (by simp; omega)]
theorem agg_of {v : Value} {cs : List Value} (h : v.cells.toList = cs) (hn : cs.length ≠ 1) : v = .agg cs.toArray := by
  subst h
  cases v <;> first | rfl | exact absurd rfl hn | simp [Value.cells]

theorem rd_clk {t e : TypeId} {v : Value} {d : DataW H} {p : List MemPlace} (ht : P.underlying t = some (.array 8 e)) (he : P.underlying e = some (.int .u8)) (hc : P.cellsOf e = 1) (hct : P.cellsOf t = 8)
    (h : DataW.Trod enc P w base spare held t v d p) : ∃ c : Clk, v = .agg (ca c) := by
  obtain ⟨fuel, hf⟩ := h
  obtain ⟨l, hl, hr, hcs⟩ := rd_bytes ht he hc hct hf
  exact ⟨⟨l, hl, hr⟩, agg_of hcs (by simp [hl])⟩
theorem rd_six {t e : TypeId} {v : Value} {d : DataW H} {p : List MemPlace} (ht : P.underlying t = some (.array 6 e)) (he : P.underlying e = some (.int .u8)) (hc : P.cellsOf e = 1) (hct : P.cellsOf t = 6)
    (h : DataW.Trod enc P w base spare held t v d p) : ∃ l : List Int, l.length = 6 ∧ (∀ y ∈ l, 0 ≤ y ∧ y < 256) ∧ v = .agg (cl l) := by
  obtain ⟨fuel, hf⟩ := h
  obtain ⟨l, hl, hr, hcs⟩ := rd_bytes ht he hc hct hf
  exact ⟨l, hl, hr, agg_of hcs (by simp [hl])⟩
/-- A number's range. -/
def i64ok (n : Int) : Prop := -9223372036854775808 ≤ n ∧ n ≤ 9223372036854775807
theorem i64_of {n : Int} (h : (Lit.int .i64 n).wf = true) : i64ok n := by
  simpa [Lit.wf, IntKind.min, IntKind.max, IntKind.signed, IntKind.bits, i64ok] using h
theorem rd_prt_cells {fuel : Nat} {t tc tn e : TypeId} {f0 f1 : Field} {cs : List Value} {x : DataW H × List MemPlace} (ht : P.underlying t = some (.struct #[f0, f1])) (h0 : f0.type = tc) (o0 : f0.offset = 0) (h1 : f1.type = tn) (o1 : f1.offset = 8)
    (hc : P.underlying tc = some (.array 8 e)) (he : P.underlying e = some (.int .u8)) (hce : P.cellsOf e = 1) (hcc : P.cellsOf tc = 8) (hn : P.underlying tn = some (.int .i64)) (hcn : P.cellsOf tn = 1) (hct : P.cellsOf t = 9)
    (h : DataW.trod enc P w base spare held fuel t cs = some x) : ∃ p : Prt, cs = (pa p).toList ∧ i64ok p.n := by
  obtain ⟨y0, y1, m, _, hl, k0, k1⟩ := trod_struct2 ht h
  rw [h0, o0, hcc] at k0
  rw [h1, o1, hcn] at k1
  rw [hct] at hl
  obtain ⟨l, hll, hr, e0⟩ := rd_bytes hc he hce hcc k0
  obtain ⟨z, e1, _, hw⟩ := DataW.trod_int hn k1
  refine ⟨⟨⟨l, hll, hr⟩, z⟩, ?_, i64_of hw⟩
  have e2 : cs = cs.take 8 ++ (cs.drop 8).take 1 := by
    have e3 : (cs.drop 8).take 1 = cs.drop 8 := List.take_of_length_le (by simp [hl])
    rw [e3, List.take_append_drop]
  rw [List.drop_zero] at e0
  rw [e2, e0, e1]
  simp [pa, ca, cl]
theorem rd_prt {t tc tn e : TypeId} {f0 f1 : Field} {v : Value} {d : DataW H} {p : List MemPlace} (ht : P.underlying t = some (.struct #[f0, f1])) (h0 : f0.type = tc) (o0 : f0.offset = 0) (h1 : f1.type = tn) (o1 : f1.offset = 8)
    (hc : P.underlying tc = some (.array 8 e)) (he : P.underlying e = some (.int .u8)) (hce : P.cellsOf e = 1) (hcc : P.cellsOf tc = 8) (hn : P.underlying tn = some (.int .i64)) (hcn : P.cellsOf tn = 1) (hct : P.cellsOf t = 9)
    (h : DataW.Trod enc P w base spare held t v d p) : ∃ q : Prt, v = .agg (pa q) ∧ i64ok q.n := by
  obtain ⟨fuel, hf⟩ := h
  obtain ⟨q, hq, hn'⟩ := rd_prt_cells ht h0 o0 h1 o1 hc he hce hcc hn hcn hct hf
  exact ⟨q, by rw [agg_of hq (by simp)], hn'⟩
end
end Go.Proofs.Ytoblgdjjpbnemaa
