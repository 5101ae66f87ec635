/-
  What is left where one is picked: plain laws; how two parts of a row are put behind one another. No condition.
-/
import Derived.Test.YtbdpnmocbpplbaaQuJ
import Derived.Test.YtbdpnmocbpplbaaQuI
import Derived.Test.YtbdpnmocbpplbaaRowL
import Derived.ArgAppend
namespace Go.Proofs.Ytbdpnmocbpplbaa
open Go.RowKit Go.Conc

theorem keptN_ne (p : Int) (ys : List Itm) : ∀ n, n ≤ ys.length → keptN (fun k => decide ((k : Int) ≠ p)) ys n = if 0 ≤ p ∧ p < n then ys.take p.toNat ++ (ys.take n).drop (p.toNat + 1) else ys.take n
  | 0, _ => by rw [if_neg (by omega)]; rfl
  | n + 1, h => by
    have hl : n < ys.length := by omega
    have hs : ys.take (n + 1) = ys.take n ++ [ys.getD n zeroI] := by
      rw [List.take_add_one]
      congr 1
      simp [hl]
    rw [keptN, keptN_ne p ys n (by omega)]
    by_cases h1 : (n : Int) = p
    · subst h1
      rw [if_neg (show ¬ (0 ≤ (n : Int) ∧ (n : Int) < (n : Int)) by omega), if_neg (show ¬ (decide ((n : Int) ≠ (n : Int)) = true) by simp), if_pos (show 0 ≤ (n : Int) ∧ (n : Int) < ((n + 1 : Nat) : Int) by omega), List.append_nil, Int.toNat_natCast, List.drop_of_length_le (by simp; omega), List.append_nil]
    · rw [if_pos (show decide ((n : Int) ≠ p) = true from decide_eq_true h1)]
      by_cases h2 : 0 ≤ p ∧ p < n
      · have hp : p.toNat < n := by omega
        rw [if_pos h2, if_pos (show 0 ≤ p ∧ p < ((n + 1 : Nat) : Int) by omega), hs, List.append_assoc]
        congr 1
        rw [List.drop_append_of_le_length (by rw [List.length_take]; omega)]
      · rw [if_neg h2, if_neg (show ¬ (0 ≤ p ∧ p < ((n + 1 : Nat) : Int)) by omega), hs]
theorem kept_hit (k : Nat) (ys : List Itm) (h : k < ys.length) : keptN (fun i => decide ((i : Int) ≠ (k : Int))) ys ys.length = ys.take k ++ ys.drop (k + 1) := by
  rw [keptN_ne _ ys _ (Nat.le_refl _), if_pos (by omega), Int.toNat_natCast, List.take_length]
theorem kept_miss (p : Int) (ys : List Itm) (h : ¬ (0 ≤ p ∧ p < ys.length)) : keptN (fun i => decide ((i : Int) ≠ p)) ys ys.length = ys := by
  rw [keptN_ne _ ys _ (Nat.le_refl _), if_neg h, List.take_length]
/-- The cells of a row of items. -/
theorem rows_cells {α : Type} {f : α → Array Value} {n : Nat} (hf : ∀ s, (f s).size = n) (hn : 0 < n) (z : α) {w : World} {b off : Nat} {xs : List α} (h : RowsAt f z n w b off xs) : ∀ j u, (rowsL f xs)[j]? = some u → w.cell? ((⟨b, off, none⟩ : Addr).add j) = some u := by
  intro j u hu
  have hl : j < xs.length * n := by
    have := (List.getElem?_eq_some_iff.1 hu).1
    rwa [rowsL_length hf] at this
  have hk : j / n < xs.length := (Nat.div_lt_iff_lt_mul hn).2 hl
  have h2 := rowsL_at hf z xs (j / n) (j % n) hk (Nat.mod_lt _ hn)
  rw [Nat.div_add_mod' j n, hu] at h2
  obtain ⟨h3, h4⟩ := h (j / n) hk
  have e : (sub (row? w b) (off + j / n * n) n)[j % n]? = some u := by rw [h4, ← h2]
  unfold sub at e
  have hm := Nat.mod_lt j hn
  rw [Array.getElem?_extract, if_pos (by omega)] at e
  rw [add_pl, cell_row]
  have hj := Nat.div_add_mod' j n
  rw [show off + j = off + j / n * n + j % n by omega]
  exact e
theorem RowsAt.take {α : Type} {f : α → Array Value} {n : Nat} {z : α} {w : World} {b off : Nat} {xs : List α} (h : RowsAt f z n w b off xs) (k : Nat) : RowsAt f z n w b off (xs.take k) := fun j hj => by
  rw [List.length_take] at hj
  have := h j (by omega)
  rw [List.getD_eq_getElem?_getD, List.getElem?_take, if_pos (by omega), ← List.getD_eq_getElem?_getD]
  exact this
theorem RowsAt.drop {α : Type} {f : α → Array Value} {n : Nat} {z : α} {w : World} {b off : Nat} {xs : List α} (h : RowsAt f z n w b off xs) (k : Nat) : RowsAt f z n w b (off + k * n) (xs.drop k) := fun j hj => by
  rw [List.length_drop] at hj
  have h1 := h (k + j) (by omega)
  rw [List.getD_eq_getElem?_getD, List.getElem?_drop, ← List.getD_eq_getElem?_getD]
  have e : off + (k + j) * n = off + k * n + j * n := by rw [Nat.add_mul]; omega
  rw [e] at h1
  exact h1
theorem RowsAt.keptC {α : Type} {f : α → Array Value} {n : Nat} {z : α} {w w' : World} {b off : Nat} {xs : List α} (h : RowsAt f z n w b off xs) (hn : 0 < n) {S : Nat → Prop} (hc : Chg S w w') (hS : ∀ b, S b → row? w b = #[]) : RowsAt f z n w' b off xs := by
  by_cases h0 : xs = []
  · subst h0
    exact fun k hk => absurd hk (by simp)
  · refine h.same (hc.row (h.lt hn h0) fun hs => ?_)
    have := (h 0 (List.length_pos_iff.2 h0)).1
    rw [hS b hs] at this
    simp at this
    omega
theorem infoR : (Try.prog.info? 30).map (fun i => (i.zero, i.size, i.bytes)) = some (some (.agg (ic 0 none 0 0)), 2, 32) := by kernel_rfl
/-- 'append(s[:k:k], s[k+1:]...)' of a row of items. -/
theorem run_cut (zs : List ItR) (k : Nat) (hk : k < zs.length) (hz : zs.length ≤ 1000) {w : World} {g : Nat} (h : RowsAt fR zeroR 2 w g 0 zs) (ad : Addr) (had : k + 1 < zs.length → ad = ⟨g, (k + 1) * 2, none⟩) (c : Nat) :
    ∃ g' c' w', (Builtin.append_ #[22, 22] 22 #[.slice (some ⟨g, 0, none⟩) k k, .slice (some ad) (zs.length - (k + 1)) c]).run Try.prog w = .ok (.slice (some ⟨g', 0, none⟩) (zs.length - 1) c') w' ∧
      zs.length - 1 ≤ c' ∧ RowsAt fR zeroR 2 w' g' 0 (zs.take k ++ zs.drop (k + 1)) ∧ Below w.heap.size w w' := by
  obtain ⟨i0, hi0, hz0, hz1, hz2⟩ := info_parts' infoR
  by_cases hl : k + 1 < zs.length
  · have e := had hl
    subst e
    have hdr := h.drop (k + 1)
    rw [Nat.zero_add] at hdr
    obtain ⟨v', w', hr, ho, hg⟩ := run_append_arg_grows (P := Try.prog) w 22 22 30 i0 (.agg (ic 0 none 0 0)) 2 32 Try.underlying22 hi0 hz0 hz1 hz2 (by simp [Value.cells]) (by decide)
      ⟨g, 0, none⟩ k k (rowsL fR (zs.take k)) (by rw [rowsL_length fR_size, List.length_take]; congr 1; omega) (rows_cells fR_size (by decide) zeroR (h.take k))
      ⟨g, (k + 1) * 2, none⟩ (zs.length - (k + 1)) c (rowsL fR (zs.drop (k + 1))) (by rw [rowsL_length fR_size, List.length_drop]) (rows_cells fR_size (by decide) zeroR hdr) (by omega) (by unfold maxLen; omega) (by omega)
    rw [show rowsL fR (zs.take k) ++ rowsL fR (zs.drop (k + 1)) = rowsL fR (zs.take k ++ zs.drop (k + 1)) by simp [rowsL]] at ho
    have e : k + (zs.length - (k + 1)) = zs.length - 1 := by omega
    rw [e] at ho
    obtain ⟨_, h2⟩ := ho
    have hbl : Below w.heap.size w w' := ⟨hg.os, hg.tape, hg.output, hg.size, fun j hj => hg.block j hj (by simp)⟩
    rcases h2 with ⟨rfl, h0⟩ | ⟨g', cap, cur, rfl, _, hh, hc, _, hsz, htk⟩
    · omega
    · refine ⟨g', cap, w', hr, hc, rowsAt_of_cur fR_size zeroR (cur := cur) (by unfold row?; rw [hh]; rfl) ?_, hbl⟩
      rw [show (zs.take k ++ zs.drop (k + 1)).length = zs.length - 1 by simp; omega]
      exact htk
  · have e : zs.length - (k + 1) = 0 := by omega
    have e2 : zs.length - 1 = k := by omega
    rw [e, e2]
    have hr := run_append_room_cells (P := Try.prog) w 22 22 30 i0 Try.underlying22 hi0 g 0 k k ad 0 c [] (by simp) (fun j u h => by simp at h) (fun u h => by simp at h) (by omega) (fun j h => by simp at h) (fun j h => by simp at h)
    refine ⟨g, k, w, ?_, Nat.le_refl _, ?_, Below.refl _ _⟩
    · rw [hr]
      rfl
    · rw [List.drop_of_length_le (by omega), List.append_nil]
      exact h.take k
theorem wpList_append_run {P : Program} {w w' : World} {ops : Array Oper} {rest : List Oper} {o : Oper} {a : Act} {Q : Exit → Act → World → Prop} {v : Value} (hgd : o.guard = none) (s x : Operand) (t : TypeId)
    (ho : o.op = .call { callee := .builtin .append, args := #[s, x], argTypes := #[t, t] }) (vs vx : Value) (hs : a.eval s = vs) (hx : a.eval x = vx)
    (hr : (Builtin.append_ #[t, t] o.type #[vs, vx]).run P w = .ok v w') (h : wpList P ops Q rest (a.put o.dst v) w') : wpList P ops Q (o :: rest) a w := by
  refine wpList_plain hgd fun K hK => ?_
  unfold Oper.wp execOp
  simp only [ho, resolve, invoke, builtin, Sem.run_bind, Sem.run_pure, Result.andThen_ok, List.map_toArray, List.map_cons, List.map_nil, hs, hx, hr]
  exact hK _ _ h
/-- 'append([]Item{}, l...)'. -/
theorem run_all (xs : List ItR) (hl : xs.length ≤ 1000) (a : Option Addr) (cap : Nat) {w : World} (h : RowsIn fR zeroR 2 w a xs) :
    ∃ g c w', (Builtin.append_ #[22, 22] 22 #[.slice (some ⟨w.heap.size, 0, none⟩) 0 0, .slice a xs.length cap]).run Try.prog (w.alloc (.cells #[] 30)) = .ok (.slice (some ⟨g, 0, none⟩) xs.length c) w' ∧
      xs.length ≤ c ∧ RowsAt fR zeroR 2 w' g 0 xs ∧ Below w.heap.size w w' := by
  obtain ⟨i0, hi0, hz0, hz1, hz2⟩ := info_parts' infoR
  have hal : Below w.heap.size w (w.alloc (.cells #[] 30)) := (Below.refl _ _).alloc (Nat.le_refl _) _
  cases a with
  | none =>
    have hb : xs = [] := by
      rcases h with h | ⟨_, _, e, _⟩
      · exact h
      · cases e
    subst hb
    refine ⟨w.heap.size, 0, _, ?_, Nat.le_refl _, fun k hk => absurd hk (by simp), hal⟩
    simp [Builtin.append_, run_underlying Try.underlying22, sizeOf, typeInfo, hi0, Builtin.lenOf, storeCells, Builtin.firstCells]
  | some ad =>
    have hown : (w.alloc (.cells #[] 30)).ownsRow w.heap.size 30 2 (.slice (some ⟨w.heap.size, 0, none⟩) 0 0) 0 [] := ⟨rfl, .inr ⟨_, 0, #[], rfl, Nat.le_refl _, alloc_new _ _, Nat.le_refl _, by unfold maxLen; omega, rfl, rfl⟩⟩
    obtain ⟨v', w', hr, h2, h3, h4, h5⟩ := run_append_own_at (P := Try.prog) (w := w.alloc (.cells #[] 30)) w.heap.size 22 22 30 i0 (.agg (ic 0 none 0 0)) 2 32 Try.underlying22 hi0 hz0 hz1 hz2 (by simp [Value.cells]) (by decide) _ _ _ hown ad xs.length cap (rowsL fR xs) (rowsL_length fR_size xs) (by
        intro j u hu
        rcases h.below (by decide) hal with h9 | ⟨b, off, e, h9⟩
        · subst h9
          simp [rowsL] at hu
        · cases e
          exact rows_cells fR_size (by decide) zeroR h9 j u hu) (by
        intro u hu
        simp only [rowsL, List.mem_flatMap] at hu
        obtain ⟨s, _, hs⟩ := hu
        exact ic_one _ _ _ _ u (by simpa [fR] using hs)) (by unfold maxLen; omega) (by omega) (by simp)
    rw [Nat.zero_add, List.nil_append] at h2
    obtain ⟨_, h6⟩ := h2
    have hbl : Below w.heap.size w w' := hal.grown h3 hal.size (own_block_le hown)
    rcases h6 with ⟨rfl, h0⟩ | ⟨g', cap', cur, rfl, _, hh, hc, _, hsz, htk⟩
    · have := (h4.1 rfl).1
      cases this
    · exact ⟨g', cap', w', hr, hc, rowsAt_of_cur fR_size zeroR (cur := cur) (by unfold row?; rw [hh]; rfl) htk, hbl⟩
end Go.Proofs.Ytbdpnmocbpplbaa
