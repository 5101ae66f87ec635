/-
  The walks of the reference's machine: New, time, anew, rest, hears. No condition but that the machine is one.
-/
import Derived.Test.YtlbdinckbbaknaaPoH
namespace Go.Proofs.Ytlbdinckbbaknaa
open Go.RowKit

theorem agg39 (w : World) : (isAgg 39).run Try.prog w = .ok true w := by kernel_rfl
theorem siz39 (w : World) : (sizeOf 39).run Try.prog w = .ok 5 w := by kernel_rfl
@[go_sem] theorem ldRef (w : World) (b off : Nat) (h : off + 5 ≤ (row? w b).size) : (ldAt 39 (.pointer (some ⟨b, off, none⟩))).run Try.prog w = .ok (.agg (sub (row? w b) off 5)) w := run_ldAt_agg agg39 siz39 w b off h
@[go_sem] theorem stRef (w : World) (b : Nat) (e o s u : Int) (so : Bool) (h : (row? w b).size = 5) (ho : own? w b = true) : (stAt 39 (.pointer (some ⟨b, 0, none⟩)) (.agg #[.int .i64 e, .int .i64 o, .bool so, .int .i64 s, .int .i64 u])).run Try.prog w = .ok () (w.setRow b #[.int .i64 e, .int .i64 o, .bool so, .int .i64 s, .int .i64 u]) :=
  run_stAt_row siz39 w b _ (by rw [Array.all_eq_true_iff_forall_mem]; intro v hv; simp at hv; rcases hv with rfl | rfl | rfl | rfl | rfl <;> rfl) (by simp) h ho
@[simp, go_sem] theorem sub5 (a b c d e : Value) : sub #[a, b, c, d, e] 0 5 = #[a, b, c, d, e] := sub_all _ _ (by simp)
@[go_sem] theorem bldR (w : World) (e o : Int) (so : Bool) : (bld 39 #[(0, .int .i64 e), (1, .int .i64 o), (2, .bool so), (3, .int .i64 1)]).run Try.prog w = .ok (.agg (mc ⟨e, o, so, 1, 0⟩)) w := run_bld w (by kernel_rfl)
@[go_sem] theorem bldR0 (w : World) : (bld 39 #[]).run Try.prog w = .ok (.agg (mc ⟨0, 0, false, 0, 0⟩)) w := run_bld w (by kernel_rfl)
theorem below_setRow {B : Nat} {a w : World} (h : Below B a w) {b : Nat} (hb : B ≤ b) (cs : Array Value) : Below B a (w.setRow b cs) :=
  ⟨h.os, h.tape, h.output, by have := h.size; simpa [World.setRow] using this, fun k hk => (setRow_other _ _ k _ (by omega)).trans (h.block k hk)⟩
theorem rtime_fn (n : Int) : Sm Try.prog 42 #[.int .i64 n] (.int .i64 (tmI n)) := by
  intro w
  by_cases h1 : n < 0
  · have e : tmI n = 0 := by unfold tmI; rw [if_pos h1]
    rw [e]
    clear e
    go_enter Try.func42, Try.ntmps42
    go_wp2
    go_ret
    exact ⟨rfl, rfl⟩
  by_cases h2 : 4611686018427387904 < n
  · have e : tmI n = 4611686018427387904 := by unfold tmI big; rw [if_neg h1, if_pos h2]
    rw [e]
    clear e
    go_enter Try.func42, Try.ntmps42
    go_wp2
    go_ret
    exact ⟨rfl, rfl⟩
  · have e : tmI n = n := by unfold tmI big; rw [if_neg h1, if_neg h2]
    rw [e]
    clear e
    go_enter Try.func42, Try.ntmps42
    go_wp2
    go_ret
    exact ⟨rfl, rfl⟩
theorem rhears_fn (m : Mach) : Fn Try.prog 33 #[.agg (mc m)] (.bool (hearsM m)) := by
  intro w
  have e : hearsM m = (decide (m.s = 4) || decide (m.s = 7) || decide (m.s = 8) || decide (m.s = 9)) := rfl
  generalize hearsM m = v at *
  obtain ⟨e', o, so, s, u⟩ := m
  dsimp only at e ⊢
  subst e
  by_cases h4 : s = 4
  · subst h4
    go_enter Try.func33, Try.ntmps33
    go_wp2
    go_ret
    exact ⟨rfl, (Below.refl _ _).alloc (Nat.le_refl _) _⟩
  by_cases h7 : s = 7
  · subst h7
    go_enter Try.func33, Try.ntmps33
    go_wp2
    go_ret
    exact ⟨rfl, (Below.refl _ _).alloc (Nat.le_refl _) _⟩
  by_cases h8 : s = 8
  · subst h8
    go_enter Try.func33, Try.ntmps33
    go_wp2
    go_ret
    exact ⟨rfl, (Below.refl _ _).alloc (Nat.le_refl _) _⟩
  by_cases h9 : s = 9
  · subst h9
    go_enter Try.func33, Try.ntmps33
    go_wp2
    go_ret
    exact ⟨rfl, (Below.refl _ _).alloc (Nat.le_refl _) _⟩
  have b4 : (s == 4) = false := by simpa using h4
  have b7 : (s == 7) = false := by simpa using h7
  have b8 : (s == 8) = false := by simpa using h8
  have b9 : (s == 9) = false := by simpa using h9
  rw [decide_eq_false h4, decide_eq_false h7, decide_eq_false h8, decide_eq_false h9]
  clear h4 h7 h8 h9
  go_enter Try.func33, Try.ntmps33
  go_wp2
  go_ret
  exact ⟨rfl, (Below.refl _ _).alloc (Nat.le_refl _) _⟩
theorem rrest_fn (m : Mach) (s : Int) : Fn Try.prog 32 #[.agg (mc m), .int .i64 s] (.agg (mc (restM m s))) := by
  intro w
  go_enter Try.func32, Try.ntmps32
  go_wp2
  refine post_c (p := 4) rfl agg39 siz39 (w.heap.size + 1) (mc (restM m s)) rfl rfl ?_ (by simp) ⟨rfl, ?_⟩
  · simp [row_setRow, row_alloc, rowOf, restM]
  · exact below_setRow (((Below.refl _ _).alloc (Nat.le_refl _) _).alloc (by simp) _) (by omega) _
theorem ranew_fn (m : Mach) (hm : m.ok) (s n : Int) : Fn Try.prog 31 #[.agg (mc m), .int .i64 s, .int .i64 n] (.agg (mc (anewM m s n))) := by
  intro w
  obtain ⟨b1, b2⟩ := hm.oe
  have t := tmI_bd n
  obtain ⟨t1, t2⟩ := t
  have f1 := (rtime_fn n).fn
  have f2 := (rtime_fn (tmI n + m.o * m.e)).fn
  have e : anewM m s n = { m with s := s, u := tmI (tmI n + m.o * m.e) } := rfl
  rw [e]
  clear e hm
  generalize tmI (tmI n + m.o * m.e) = u' at *
  generalize tmI n = t at *
  obtain ⟨e, o, so, s', u⟩ := m
  dsimp only at *
  have F1_ := hid f1
  clear f1
  have F2_ := hid f2
  clear f2
  go_enter Try.func31, Try.ntmps31
  go_wp2_with fail
  refine cut_box2 fun W g1 o1 g2 o2 hz hB => ?_
  refine wp_region_gr_tail W 10 (by kernel_rfl) (by kernel_rfl) ⟨_, rfl⟩ ?_
  simp only [List.take_succ_cons, List.take_zero, List.drop_succ_cons, List.drop_zero]
  repeat (go_big_quiet_step (((go_at_call 42; first | with_reducible exact F1_.out.q | with_reducible exact F2_.out.q))))
  refine wpQuiet_nil ?_
  rintro _ ⟨y, rfl⟩
  go_wp2
  refine post_c (p := 6) rfl agg39 siz39 (w.heap.size + 1) (mc ⟨e, o, so, s, u'⟩) rfl rfl ?_ (by simp) ⟨rfl, ?_⟩
  · simp [row_setRow, row_setCell, g2]
  · exact below_setRow ((hB y).setCell (Nat.le_refl _) _) (by omega) _
theorem rnew_no (e o : Int) (so : Bool) (h : e < 1 ∨ 1099511627776 < e ∨ o < 2 ∨ 10 < o) : Fn Try.prog 18 #[.int .i64 e, .int .i64 o, .bool so] (.tuple #[.agg (mc ⟨0, 0, false, 0, 0⟩), .bool false]) := by
  intro w
  by_cases h1 : e < 1
  · clear h
    go_enter Try.func18, Try.ntmps18
    go_wp2
    refine post_ct (p := 6) (u := 7) rfl agg39 siz39 w.heap.size (mc ⟨0, 0, false, 0, 0⟩) (.bool false) rfl rfl rfl (by simp [row_setRow, row_alloc, rowOf]) (by simp) ⟨rfl, below_setRow ((Below.refl _ _).alloc (Nat.le_refl _) _) (by omega) _⟩
  by_cases h2 : 1099511627776 < e
  · clear h h1
    have h1 : 1 ≤ e := by omega
    go_enter Try.func18, Try.ntmps18
    go_wp2
    refine post_ct (p := 6) (u := 7) rfl agg39 siz39 w.heap.size (mc ⟨0, 0, false, 0, 0⟩) (.bool false) rfl rfl rfl (by simp [row_setRow, row_alloc, rowOf]) (by simp) ⟨rfl, below_setRow ((Below.refl _ _).alloc (Nat.le_refl _) _) (by omega) _⟩
  by_cases h3 : o < 2
  · clear h
    have b1 : 1 ≤ e := by omega
    have b2 : e ≤ 1099511627776 := by omega
    clear h1 h2
    go_enter Try.func18, Try.ntmps18
    go_wp2
    refine post_ct (p := 6) (u := 7) rfl agg39 siz39 w.heap.size (mc ⟨0, 0, false, 0, 0⟩) (.bool false) rfl rfl rfl (by simp [row_setRow, row_alloc, rowOf]) (by simp) ⟨rfl, below_setRow ((Below.refl _ _).alloc (Nat.le_refl _) _) (by omega) _⟩
  have b4 : 10 < o := by omega
  have b1 : 1 ≤ e := by omega
  have b2 : e ≤ 1099511627776 := by omega
  have b3 : 2 ≤ o := by omega
  clear h h1 h2 h3
  go_enter Try.func18, Try.ntmps18
  go_wp2
  refine post_ct (p := 6) (u := 7) rfl agg39 siz39 w.heap.size (mc ⟨0, 0, false, 0, 0⟩) (.bool false) rfl rfl rfl (by simp [row_setRow, row_alloc, rowOf]) (by simp) ⟨rfl, below_setRow ((Below.refl _ _).alloc (Nat.le_refl _) _) (by omega) _⟩
theorem rnew_yes (e o : Int) (so : Bool) (h1 : 1 ≤ e) (h2 : e ≤ 1099511627776) (h3 : 2 ≤ o) (h4 : o ≤ 10) : Fn Try.prog 18 #[.int .i64 e, .int .i64 o, .bool so] (.tuple #[.agg (mc ⟨e, o, so, 1, 0⟩), .bool true]) := by
  intro w
  go_enter Try.func18, Try.ntmps18
  go_wp2
  refine post_ct (p := 6) (u := 7) rfl agg39 siz39 w.heap.size (mc ⟨e, o, so, 1, 0⟩) (.bool true) rfl rfl rfl (by simp [row_setRow, row_alloc, rowOf]) (by simp) ⟨rfl, below_setRow ((Below.refl _ _).alloc (Nat.le_refl _) _) (by omega) _⟩
end Go.Proofs.Ytlbdinckbbaknaa
