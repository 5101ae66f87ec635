/-
  Slices of structs that a call makes itself, over any type of elements: a literal of one, of none; what is put behind; what comes is one's own. No condition.
-/
import Derived.Test.YtoblgdjjpbnemaaRowL
import Derived.Test.YtoblgdjjpbnemaaChg
import Derived.Great.FillDense
import Derived.Great.BuildSlice
import Derived.ArgAppend
import Derived.Test.YtoblgdjjpbnemaaProg
namespace Go.Proofs.Ytoblgdjjpbnemaa
open Go.RowKit

/-- What is to be known of a type of elements. -/
structure ElT {α : Type} (t e : TypeId) (f : α → Array Value) (z : α) (n m : Nat) : Prop where
  size : ∀ s, (f s).size = n
  pos : 0 < n
  small : n ≤ 1000
  bsm : m ≤ 10000
  und : Try.prog.underlying t = some (.slice e)
  info : ∃ i, Try.prog.info? e = some i ∧ i.zero = some (.agg (f z)) ∧ i.size = n ∧ i.bytes = m
  one : ∀ s, ∀ u ∈ (f s).toList, u.oneCell' = true
theorem info_of {t : TypeId} {z : Value} {n m : Nat} (h : (Try.prog.info? t).map (fun i => (i.zero, i.size, i.bytes)) = some (some z, n, m)) : ∃ i, Try.prog.info? t = some i ∧ i.zero = some z ∧ i.size = n ∧ i.bytes = m := by
  cases hi : Try.prog.info? t with
  | none => rw [hi] at h; cases h
  | some i =>
    rw [hi] at h
    simp at h
    exact ⟨i, rfl, h.1, h.2.1, h.2.2⟩
theorem rows_cellsE {α : Type} {f : α → Array Value} {n : Nat} (hf : ∀ s, (f s).size = n) (hn : 0 < n) (z : α) {w : World} {b off : Nat} {xs : List α} (h : RowsAt f z n w b off xs) : ∀ j u, (rowsL f xs)[j]? = some u → w.cell? ((⟨b, off, none⟩ : Addr).add j) = some u := by
  intro j u hu
  have hl : j < xs.length * n := by
    have := (List.getElem?_eq_some_iff.1 hu).1
    rwa [rowsL_length hf] at this
  have hk : j / n < xs.length := (Nat.div_lt_iff_lt_mul hn).2 hl
  have h2 := rowsL_at hf z xs (j / n) (j % n) hk (Nat.mod_lt _ hn)
  rw [Nat.div_add_mod' j n, hu] at h2
  obtain ⟨h3, h4⟩ := h (j / n) hk
  have e : (sub (row? w b) (off + j / n * n) n)[j % n]? = some u := by rw [h4, ← h2]
  unfold sub at e
  have hm := Nat.mod_lt j hn
  rw [Array.getElem?_extract, if_pos (by omega)] at e
  rw [add_pl, cell_row]
  have hj := Nat.div_add_mod' j n
  rw [show off + j = off + j / n * n + j % n by omega]
  exact e
section
variable {α : Type} {t e : TypeId} {f : α → Array Value} {z : α} {n m : Nat}
theorem ElT.fill1 (E : ElT t e f z n m) (s : α) (cells : Array Value) (h : cells.size = n) : Instr.fill (fun i => some (i * n, n)) cells [(0, .agg (f s))] = some (f s) := by
  have hc : ∀ c : α, (Value.agg (f c)).cells = f c := fun _ => rfl
  have := Great.fill_whole (s := n) E.pos [.agg (f s)] cells (by intro v hv; simp at hv; rw [hv, hc]; exact E.size s) (by simp [h])
  refine this.trans ?_
  congr 1
  simp [hc]
theorem ElT.bs1 (E : ElT t e f z n m) (w : World) (s : α) : (Instr.buildSlice t 1 #[(0, .agg (f s))]).run Try.prog w = .ok (.slice (some ⟨w.heap.size, 0, none⟩) 1 1) (w.alloc (.cells (f s) e)) := by
  obtain ⟨i0, hi0, hz0, hz1, hz2⟩ := E.info
  have h1 := E.pos
  have h2 := E.small
  refine run_buildSlice w t e 1 _ _ i0 (.agg (f z)) E.und hi0 hz0 (by rw [hz1]; omega) (by rw [hz1]; omega) ?_
  rw [hz1]
  exact E.fill1 s _ (by rw [Array.size_map, Array.size_range]; omega)
/-- 'append([]T{}, l...)': what comes is one's own. -/
theorem ElT.all (E : ElT t e f z n m) (xs : List α) (hl : xs.length ≤ 1000) (a : Option Addr) (cap : Nat) {w : World} (h : RowsIn f z n w a xs) :
    ∃ v w', (Builtin.append_ #[t, t] t #[.slice (some ⟨w.heap.size, 0, none⟩) 0 0, .slice a xs.length cap]).run Try.prog (w.alloc (.cells #[] e)) = .ok v w' ∧
      w'.ownsRow w.heap.size e n v xs.length (rowsL f xs) ∧ Below w.heap.size w w' := by
  obtain ⟨i0, hi0, hz0, hz1, hz2⟩ := E.info
  have hal : Below w.heap.size w (w.alloc (.cells #[] e)) := (Below.refl _ _).alloc (Nat.le_refl _) _
  have hnew : (w.alloc (.cells #[] e)).heap[w.heap.size]? = some (.cells #[] e) := by
    show (w.heap.push _)[w.heap.size]? = _
    simp
  have hown : (w.alloc (.cells #[] e)).ownsRow w.heap.size e n (.slice (some ⟨w.heap.size, 0, none⟩) 0 0) 0 [] := ⟨by simp, .inr ⟨_, 0, #[], rfl, Nat.le_refl _, hnew, Nat.le_refl _, by unfold maxLen; omega, by simp, by simp⟩⟩
  have hb1 := E.bsm
  cases a with
  | none =>
    have hb : xs = [] := by
      rcases h with h | ⟨_, _, e, _⟩
      · exact h
      · cases e
    subst hb
    refine ⟨.slice (some ⟨w.heap.size, 0, none⟩) 0 0, _, ?_, hown, hal⟩
    simp [Builtin.append_, run_underlying E.und, sizeOf, typeInfo, hi0, Builtin.lenOf, storeCells, Builtin.firstCells]
  | some ad =>
    obtain ⟨v', w', hr, h2, h3, h4, h5⟩ := run_append_own_at (P := Try.prog) (w := w.alloc (.cells #[] e)) w.heap.size t t e i0 (.agg (f z)) n m E.und hi0 hz0 hz1 hz2 (by simp [Value.cells, E.size]) E.pos _ _ _ hown ad xs.length cap (rowsL f xs) (rowsL_length E.size xs) (by
        intro j u hu
        rcases h.below E.pos hal with h9 | ⟨b, off, e, h9⟩
        · subst h9
          simp [rowsL] at hu
        · cases e
          exact rows_cellsE E.size E.pos z h9 j u hu) (by
        intro u hu
        simp only [rowsL, List.mem_flatMap] at hu
        obtain ⟨s, _, hs⟩ := hu
        exact E.one s u hs) (by unfold maxLen; omega) (by
        have : (0 + xs.length) * m ≤ 1000 * 10000 := Nat.mul_le_mul (by omega) hb1
        omega) (by simp)
    rw [Nat.zero_add, List.nil_append] at h2
    exact ⟨v', w', hr, h2, hal.grown h3 hal.size (own_block_le hown)⟩
/-- 'append(l, x)' of a row of one's own. -/
theorem ElT.app2 (E : ElT t e f z n m) (s : α) (zs : List α) (hl : zs.length ≤ 1000) {w : World} {B : Nat} {v : Value} (ho : w.ownsRow B e n v zs.length (rowsL f zs)) (hB : B ≤ w.heap.size) :
    ∃ v' w', (Builtin.append_ #[t, t] t #[v, .slice (some ⟨w.heap.size, 0, none⟩) 1 1]).run Try.prog (w.alloc (.cells (f s) e)) = .ok v' w' ∧
      w'.ownsRow B e n v' (zs ++ [s]).length (rowsL f (zs ++ [s])) ∧ Below B w w' ∧ Chg (fun b => v.ownBlock = some b) w w' := by
  obtain ⟨i0, hi0, hz0, hz1, hz2⟩ := E.info
  have hal : Below B w (w.alloc (.cells (f s) e)) := (Below.refl _ _).alloc hB _
  have ho1 := ho.alloc (.cells (f s) e)
  have hb1 := E.bsm
  obtain ⟨v', w', hr, h2, h3, h4, h5⟩ := run_append_own_at (P := Try.prog) (w := w.alloc (.cells (f s) e)) B t t e i0 (.agg (f z)) n m E.und hi0 hz0 hz1 hz2 (by simp [Value.cells, E.size]) E.pos _ _ _ ho1 ⟨w.heap.size, 0, none⟩ 1 1 (f s).toList (by simp [E.size]) (new_cells w (f s) e) (E.one s) (by unfold maxLen; omega) (by
        have : (zs.length + 1) * m ≤ 1001 * 10000 := Nat.mul_le_mul (by omega) hb1
        omega) (by simp; omega)
  have hc : Chg (fun b => v.ownBlock = some b) (w.alloc (.cells (f s) e)) w' := ⟨h3.os, h3.tape, h3.output, h3.size, fun k hk hn => h3.block k hk (fun e => hn e.symm)⟩
  refine ⟨v', w', hr, by rw [rowsL_snoc, List.length_append]; exact h2, hal.grown h3 (Nat.le_trans hB hal.size) (own_block_le ho1), ?_⟩
  exact (Chg.of_below ((Below.refl _ _).alloc (Nat.le_refl _) _)).then' hc (fun _ hi _ => hi)
theorem ElT.app (E : ElT t e f z n m) (s : α) (zs : List α) (hl : zs.length ≤ 1000) {w : World} {B : Nat} {v : Value} (ho : w.ownsRow B e n v zs.length (rowsL f zs)) (hB : B ≤ w.heap.size) :
    ∃ v' w', (Builtin.append_ #[t, t] t #[v, .slice (some ⟨w.heap.size, 0, none⟩) 1 1]).run Try.prog (w.alloc (.cells (f s) e)) = .ok v' w' ∧
      w'.ownsRow B e n v' (zs ++ [s]).length (rowsL f (zs ++ [s])) ∧ Below B w w' := by
  obtain ⟨v', w', h1, h2, h3, _⟩ := E.app2 s zs hl ho hB
  exact ⟨v', w', h1, h2, h3⟩
theorem ElT.rows2 (E : ElT t e f z n m) {w : World} {base k : Nat} {v : Value} {ys : List α} (h : w.ownsRow base e n v k (rowsL f ys)) : ∃ a cap, v = .slice a ys.length cap ∧ RowsIn f z n w a ys ∧ (∀ b, a.map (·.block) = some b → base ≤ b ∧ b < w.heap.size) ∧ v.ownBlock = a.map (·.block) := by
  obtain ⟨hn, a, cap, rfl, hr⟩ := own_rows E.size E.pos z h
  subst hn
  refine ⟨a, cap, rfl, hr, fun b hb => ?_, by cases a <;> rfl⟩
  rcases h.2 with ⟨e, _⟩ | ⟨g, cap', cur, e, hge, hh, _⟩
  · injection e with e1
    subst e1
    simp at hb
  · injection e with e1
    subst e1
    obtain rfl : g = b := by simpa using hb
    exact ⟨hge, (Array.getElem?_eq_some_iff.1 hh).1⟩
theorem ElT.rows (E : ElT t e f z n m) {w : World} {base k : Nat} {v : Value} {ys : List α} (h : w.ownsRow base e n v k (rowsL f ys)) : k = ys.length ∧ ∃ a cap, v = .slice a ys.length cap ∧ RowsIn f z n w a ys := by
  obtain ⟨hn, a, cap, rfl, hr⟩ := own_rows E.size E.pos z h
  subst hn
  exact ⟨rfl, a, cap, rfl, hr⟩
theorem ElT.bs0 (E : ElT t e f z n m) (w : World) : (Instr.buildSlice t 0 #[]).run Try.prog w = .ok (.slice (some ⟨w.heap.size, 0, none⟩) 0 0) (w.alloc (.cells #[] e)) := by
  obtain ⟨i0, hi0, _⟩ := E.info
  simp [Instr.buildSlice, run_underlying E.und, sizeOf, typeInfo, hi0, newRow, Instr.fill]
  rw [show (Array.range 0) = (#[] : Array Nat) from Array.eq_empty_of_size_eq_zero (by simp), Array.map_empty]
end
/-- Rows whose elements begin with a byte stay where blocks without bytes change. -/
theorem RowsIn.noU {α : Type} {f : α → Array Value} {z : α} {n : Nat} {w w' : World} {a : Option Addr} {xs : List α} (h : RowsIn f z n w a xs) (hn : 0 < n) (hf : ∀ s, ∃ i, (f s)[0]? = some (.int .u8 i)) {S : Nat → Prop} (hc : Chg S w w') (hS : ∀ b, b < w.heap.size → S b → ∀ v ∈ row? w b, ∀ i, v ≠ .int .u8 i) : RowsIn f z n w' a xs := by
  rcases h with h | ⟨b, off, rfl, h⟩
  · exact .inl h
  · by_cases h0 : xs = []
    · exact .inl h0
    · have hl := List.length_pos_iff.2 h0
      obtain ⟨h1, h2⟩ := h 0 hl
      obtain ⟨i, hi⟩ := hf (xs.getD 0 z)
      rw [← h2] at hi
      unfold sub at hi
      rw [Array.getElem?_extract, if_pos (by omega)] at hi
      have hb := h.lt hn h0
      refine .inr ⟨b, off, rfl, h.same (hc.row hb fun hs => ?_)⟩
      exact hS b hb hs _ (Array.mem_of_getElem? hi) i rfl
theorem RowsIn.keptB {α : Type} {f : α → Array Value} {z : α} {n : Nat} {w w' : World} {a : Option Addr} {xs : List α} (h : RowsIn f z n w a xs) (hn : 0 < n) {S : Nat → Prop} (hc : Chg S w w') (hS : ∀ b, a.map (·.block) = some b → ¬ S b) : RowsIn f z n w' a xs := by
  rcases h with h | ⟨b, off, rfl, h⟩
  · exact .inl h
  · by_cases h0 : xs = []
    · exact .inl h0
    · exact .inr ⟨b, off, rfl, h.same (hc.row (h.lt hn h0) (hS b rfl))⟩
theorem wpList_append_runE {P : Program} {w w' : World} {ops : Array Oper} {rest : List Oper} {o : Oper} {a : Act} {Q : Exit → Act → World → Prop} {v : Value} (hgd : o.guard = none) (s x : Operand) (t : TypeId)
    (ho : o.op = .call { callee := .builtin .append, args := #[s, x], argTypes := #[t, t] }) (vs vx : Value) (hs : a.eval s = vs) (hx : a.eval x = vx)
    (hr : (Builtin.append_ #[t, t] o.type #[vs, vx]).run P w = .ok v w') (h : wpList P ops Q rest (a.put o.dst v) w') : wpList P ops Q (o :: rest) a w := by
  refine wpList_plain hgd fun K hK => ?_
  unfold Oper.wp execOp
  simp only [ho, resolve, invoke, builtin, Sem.run_bind, Sem.run_pure, Result.andThen_ok, List.map_toArray, List.map_cons, List.map_nil, hs, hx, hr]
  exact hK _ _ h
end Go.Proofs.Ytoblgdjjpbnemaa
