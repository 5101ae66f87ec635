/-
  The walks of slices.Clone, of what copies an item, and of what makes a queue. No condition.
-/
import Derived.Test.YtbdpnmocbpplbaaQuA
import Derived.Lib.SliceRun
namespace Go.Proofs.Ytbdpnmocbpplbaa
open Go.RowKit Go.Conc

theorem infoB : (Try.prog.info? 5).map (fun i => (i.zero, i.size, i.bytes)) = some (some (.int .u8 0), 1, 1) := by kernel_rfl
theorem info_parts' {t : TypeId} {z : Value} {n m : Nat} (h : (Try.prog.info? t).map (fun i => (i.zero, i.size, i.bytes)) = some (some z, n, m)) : ∃ i, Try.prog.info? t = some i ∧ i.zero = some z ∧ i.size = n ∧ i.bytes = m := by
  cases hi : Try.prog.info? t with
  | none => rw [hi] at h; cases h
  | some i =>
    rw [hi] at h
    simp at h
    exact ⟨i, rfl, h.1, h.2.1, h.2.2⟩
def byts (bs : List Int) : List Value := bs.map (Value.int .u8)
theorem rows_byts {w : World} {g : Nat} {bs : List Int} {cur : Array Value} (hr : row? w g = cur) (h : cur.toList.take bs.length = byts bs) : RowsAt b1 0 1 w g 0 bs := by
  intro k hk
  have hl : bs.length ≤ cur.size := by
    have := congrArg List.length h
    simp [byts] at this
    omega
  rw [hr]
  refine ⟨by omega, ?_⟩
  unfold sub
  apply Array.ext_getElem?
  intro j
  rw [Array.getElem?_extract]
  by_cases hj : j < 1
  · obtain rfl : j = 0 := by omega
    have h2 : (cur.toList.take bs.length)[k]? = (byts bs)[k]? := by rw [h]
    rw [List.getElem?_take, if_pos hk, Array.getElem?_toList] at h2
    rw [if_pos (by omega)]
    simp only [Nat.zero_add, Nat.mul_one, Nat.add_zero]
    rw [h2]
    simp [byts, hk, b1]
  · rw [if_neg (by omega), Array.getElem?_eq_none (by simp [b1]; omega)]
@[go_sem] theorem eqNilS (w : World) (a : Addr) (n c : Nat) : (binOp .eql 28 (.slice (some a) n c) (.slice none 0 0)).run Try.prog w = .ok (.bool false) w := Go.Lib.run_eql_slice_nil w _ _ _ n c 0 0 Try.underlying28
@[go_sem] theorem eqNilN (w : World) (n c : Nat) : (binOp .eql 28 (.slice none n c) (.slice none 0 0)).run Try.prog w = .ok (.bool true) w := Go.Lib.run_eql_slice_nil w _ _ _ n c 0 0 Try.underlying28
/-- A new slice of one's own that holds these bytes. -/
def NewB (N : Nat) (w : World) (a : Option Addr) (bs : List Int) : Prop := RowsIn b1 0 1 w a bs ∧ (a = none ∨ ∃ g, a = some ⟨g, 0, none⟩ ∧ N ≤ g ∧ own? w g = true)
theorem bytes_cells {w : World} {b off : Nat} {bs : List Int} (h : RowsAt b1 0 1 w b off bs) : ∀ j u, (byts bs)[j]? = some u → w.cell? ((⟨b, off, none⟩ : Addr).add j) = some u := by
  intro j u hu
  have hj : j < bs.length := by
    have := (List.getElem?_eq_some_iff.1 hu).1
    simpa [byts] using this
  obtain ⟨h1, h2⟩ := h j hj
  have e : (sub (row? w b) (off + j * 1) 1)[0]? = some (.int .u8 (bs.getD j 0)) := by rw [h2]; rfl
  unfold sub at e
  rw [Array.getElem?_extract, if_pos (by omega)] at e
  rw [add_pl, cell_row]
  have hu' : u = .int .u8 (bs.getD j 0) := by
    simp [byts, hj] at hu
    rw [← hu]
    simp [hj]
  rw [hu']
  simpa using e
set_option maxRecDepth 100000 in
set_option maxHeartbeats 1000000 in
theorem clone_c (bs : List Int) (hl : bs.length ≤ 140737488351232) (a : Option Addr) (c : Nat) (w : World) (h : RowsIn b1 0 1 w a bs) :
    Calls Try.prog 32 #[.slice a bs.length c] w fun e w' => ∃ a' c', e = .returned (.slice a' bs.length c') ∧ Below w.heap.size w w' ∧ NewB w.heap.size w' a' bs := by
  obtain ⟨i0, hi0, hz0, hz1, hz2⟩ := info_parts' infoB
  cases a with
  | none =>
    have hb : bs = [] := by
      rcases h with h | ⟨_, _, e, _⟩
      · exact h
      · cases e
    subst hb
    go_enter Try.func32, Try.ntmps32
    go_wp2
    go_ret
    exact ⟨none, 0, rfl, Below.refl _ _, .inl rfl, .inl rfl⟩
  | some ad =>
    have H_ := hid h
    clear h
    go_enter Try.func32, Try.ntmps32
    have hown : (w.alloc (.cells #[] 5)).ownsRow w.heap.size 5 1 (.slice (some ⟨w.heap.size, 0, none⟩) 0 0) 0 [] := ⟨rfl, .inr ⟨_, 0, #[], rfl, Nat.le_refl _, alloc_new _ _, Nat.le_refl _, by unfold maxLen; omega, rfl, rfl⟩⟩
    have hal : Below w.heap.size w (w.alloc (.cells #[] 5)) := (Below.refl _ _).alloc (Nat.le_refl _) _
    have HOWN_ := hid hown
    clear hown
    have HAL_ := hid hal
    clear hal
    go_wp2_with (at_builtin; refine wpList_append_own_at _ rfl _ _ 28 rfl w.heap.size 5 i0 (.int .u8 0) 1 1 Try.underlying28 hi0 hz0 hz1 hz2 rfl (by decide) _ _ _ rfl HOWN_.out ad bs.length c (byts bs) rfl (by simp [byts]) ?c1 ?c2 ?c3 ?c4 ?c5 ?_)
    case c1 =>
      intro j u hu
      rcases H_.out.below (by decide) HAL_.out with h | ⟨b, off, e, h⟩
      · subst h
        simp [byts] at hu
      · cases e
        exact bytes_cells h j u hu
    case c2 =>
      intro u hu
      simp [byts] at hu
      obtain ⟨n, _, rfl⟩ := hu
      rfl
    case c3 => unfold maxLen; omega
    case c4 => omega
    case c5 => simp
    intro v' w1 hown' hg hnil hl3
    have hb : Below w.heap.size w w1 := HAL_.out.grown hg HAL_.out.size (own_block_le HOWN_.out)
    go_wp2
    go_ret
    obtain ⟨_, h2⟩ := hown'
    rcases h2 with ⟨e, h0⟩ | ⟨g, cap', cur, rfl, hge, hh, hc, hm, hsz, htk⟩
    · exact (hnil e).elim
    · simp only [Nat.zero_add, List.nil_append, Nat.mul_one] at htk hsz ⊢
      have hrow : row? w1 g = cur := by unfold row?; rw [hh]; rfl
      exact ⟨_, cap', rfl, hb, .inr ⟨g, 0, rfl, rows_byts hrow htk⟩, .inr ⟨g, rfl, hge, by unfold own?; rw [hh]; rfl⟩⟩
/-- An item of one's own, new. -/
def NewI (N : Nat) (w : World) (v : Value) (x : Itm) : Prop := ∃ a c, v = .agg (ic x.k a x.bs.length c) ∧ NewB N w a x.bs
theorem NewI.itm {N : Nat} {w : World} {v : Value} {x : Itm} (h : NewI N w v x) : ItmIn w v x := by
  obtain ⟨a, c, e, h⟩ := h
  exact ⟨a, c, e, h.1⟩
theorem NewI.blk {N : Nat} {w : World} {v : Value} {x : Itm} (h : NewI N w v x) {b : Nat} (hb : blkOf v = some b) : N ≤ b ∧ own? w b = true := by
  obtain ⟨a, c, rfl, _, h⟩ := h
  rw [blkOf_ic] at hb
  rcases h with rfl | ⟨g, rfl, h1, h2⟩
  · cases hb
  · simp at hb
    rw [← hb]
    exact ⟨h1, h2⟩
theorem results_cell {P : Program} {fn : Func} {t ty b : Nat} {tmps : Array Value} {w : World} {v : Value} (h : fn.results = #[.cell t ty]) (ht : tmps.getD t undef = .pointer (some ⟨b, 0, none⟩)) (hv : (ldAt ty (.pointer (some ⟨b, 0, none⟩))).run P w = .ok v w) : (results fn tmps).run P w = .ok v w := by
  have hv' : (loadVar ty ⟨b, 0, none⟩).run P w = .ok v w := by
    unfold ldAt Instr.loadAt at hv
    simpa [Instr.sureAddr] using hv
  have ht' : tmps[t]?.getD undef = .pointer (some ⟨b, 0, none⟩) := by simpa using ht
  simp [results, h, ht', asAddr, Sem.run_bind, hv']
theorem results_cell2 {P : Program} {fn : Func} {t ty b u : Nat} {tmps : Array Value} {w : World} {v : Value} (h : fn.results = #[.cell t ty, .tmp u]) (ht : tmps.getD t undef = .pointer (some ⟨b, 0, none⟩)) (hv : (ldAt ty (.pointer (some ⟨b, 0, none⟩))).run P w = .ok v w) : (results fn tmps).run P w = .ok (.tuple #[v, tmps.getD u undef]) w := by
  have hv' : (loadVar ty ⟨b, 0, none⟩).run P w = .ok v w := by
    unfold ldAt Instr.loadAt at hv
    simpa [Instr.sureAddr] using hv
  have ht' : tmps[t]?.getD undef = .pointer (some ⟨b, 0, none⟩) := by simpa using ht
  simp [results, h, ht', asAddr, Sem.run_bind, hv']
theorem infoItm : (Try.prog.info? 32).map (fun i => (i.zero, i.size, i.bytes)) = some (some (.agg (ic 0 none 0 0)), 2, 32) := by kernel_rfl
@[go_sem] theorem mkChanI (w : World) (n : Nat) (h : n ≤ 64) : (Instr.makeChan 59 (.int .i64 n)).run Try.prog w = .ok (.chan (some w.heap.size)) (w.alloc (.chan n #[] false 0 0 false)) := by
  obtain ⟨i0, hi0, hz0, hz1, hz2⟩ := info_parts' infoItm
  have h1 : ¬ (n : Int) < 0 := by omega
  have h2 : ¬ (n : Int) > IntKind.i64.max := by
    show ¬ (n : Int) > 9223372036854775807
    omega
  have h3 : ¬ (32 : Int) * n > 2 ^ 48 - 112 := by omega
  simp [Instr.makeChan, run_underlying Try.underlying59, typeInfo, hi0, hz2, asInt, asIntOf, h1, h2, h3]
  intro hh
  omega
@[go_sem] theorem bldQue (w : World) (v : Option Nat) : (bld 61 #[(0, .chan v)]).run Try.prog w = .ok (.agg #[.chan v]) w := run_bld w (by kernel_rfl)
set_option maxRecDepth 100000 in
set_option maxHeartbeats 1000000 in
theorem new_bad (n : Int) (h : n < 1 ∨ 64 < n) : Fn Try.prog 9 #[.int .i64 n] (.tuple #[.pointer none, .int .i64 1]) := by
  intro w
  go_enter Try.func9, Try.ntmps9
  by_cases h1 : n < 1
  · go_wp2
    go_ret2
    exact ⟨rfl, Below.refl _ _⟩
  · have h2 : 64 < n := by omega
    go_wp2
    go_ret2
    exact ⟨rfl, Below.refl _ _⟩
set_option maxRecDepth 100000 in
set_option maxHeartbeats 1000000 in
theorem new_ok (n : Nat) (h1 : 1 ≤ n) (h2 : n ≤ 64) (w : World) : Calls Try.prog 9 #[.int .i64 n] w fun e w' => ∃ b ch, e = .returned (.tuple #[.pointer (some ⟨b, 0, none⟩), .int .i64 0]) ∧ Below w.heap.size w w' ∧ w.heap.size ≤ b ∧ w.heap.size ≤ ch ∧ Que w' b ch n [] := by
  have i1 : ¬ (n : Int) < 1 := by omega
  have i2 : ¬ 64 < (n : Int) := by omega
  go_enter Try.func9, Try.ntmps9
  go_wp2
  go_ret2
  refine ⟨w.heap.size + 1, rfl, ((Below.refl _ w).alloc (Nat.le_refl _) _).alloc (by simp) _, by omega, w.heap.size, Nat.le_refl _, ?_, 0, 0, ?_⟩
  · have := alloc_new (w.alloc (.chan n #[] false 0 0 false)) (.cells #[.chan (some w.heap.size)] 61)
    simpa using this
  · have h := alloc_new w (.chan n #[] false 0 0 false)
    rw [Below.block ((Below.refl _ _).alloc (Nat.le_refl _) _) _ (by simp)]
    exact h
set_option maxRecDepth 100000 in
theorem len_c {W : World} {b ch most : Nat} {vs : List Value} (h : Que W b ch most vs) : Calls Try.prog 14 #[.pointer (some ⟨b, 0, none⟩)] W fun e w' => e = .returned (.int .i64 vs.length) ∧ w' = W := by
  obtain ⟨s, r, hc⟩ := h.c
  have hr := h.row
  have hn := run_len_chan (P := Try.prog) 59 3 Try.underlying59 hc
  simp only [List.size_toArray] at hn
  clear hc
  go_enter Try.func14, Try.ntmps14
  go_wp2
  go_ret
  exact ⟨rfl, rfl⟩
end Go.Proofs.Ytbdpnmocbpplbaa
