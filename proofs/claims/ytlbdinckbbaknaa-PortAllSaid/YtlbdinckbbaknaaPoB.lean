/-
  The walks of package port: time, wait, anew, rest, hears, swap and the short calls. No condition but that the machine is one.
-/
import Derived.Test.YtlbdinckbbaknaaPoA
import Derived.Test.YtlbdinckbbaknaaProg
namespace Go.Proofs.Ytlbdinckbbaknaa
open Go.RowKit

/-- A function that computes, and leaves memory as it is. -/
def Sm (P : Program) (f : FuncId) (args : Array Value) (v : Value) : Prop :=
  ∀ w, Calls P f args w fun e w' => e = .returned v ∧ w = w'
theorem Sm.fn {P : Program} {f : FuncId} {args : Array Value} {v : Value} (h : Sm P f args v) : Fn P f args v := fun w => (h w).mono fun _ _ ⟨he, hw⟩ => ⟨he, by rw [← hw]; exact Below.refl _ _⟩
theorem Sm.c {P : Program} {f : FuncId} {args : Array Value} {v : Value} (h : Sm P f args v) {w : World} {R : Ending → World → Prop} (k : R (.returned v) w) : Calls P f args w R :=
  (h w).mono fun _ _ ⟨he, hw⟩ => by subst he hw; exact k
theorem time_fn (n : Int) : Sm Try.prog 28 #[.int .i64 n] (.int .i64 (tmI n)) := by
  intro w
  by_cases h1 : n < 0
  · have e : tmI n = 0 := by unfold tmI; rw [if_pos h1]
    rw [e]
    clear e
    have h2 : ¬ 0 ≤ n := by omega
    have h3 : ¬ 0 < n := by omega
    clear h1
    go_enter Try.func28, Try.ntmps28
    go_wp2
    all_goals
      go_ret
      exact ⟨rfl, rfl⟩
  by_cases h2 : n > 4611686018427387904
  · have e : tmI n = 4611686018427387904 := by unfold tmI big; rw [if_neg h1, if_pos h2]
    rw [e]
    clear e
    go_enter Try.func28, Try.ntmps28
    go_wp2
    all_goals
      go_ret
      exact ⟨rfl, rfl⟩
  · have e : tmI n = n := by unfold tmI big; rw [if_neg h1, if_neg h2]
    rw [e]
    clear e
    go_enter Try.func28, Try.ntmps28
    go_wp2
    all_goals
      go_ret
      exact ⟨ret_int (by omega), rfl⟩
/-- A call on a machine that lies at b: the machine is another one then; nothing else that was there is. -/
def Mth (P : Program) (f : FuncId) (b : Nat) (args : Array Value) (m m' : Mach) (v : Value) : Prop :=
  ∀ w, row? w b = mc m → own? w b = true → Calls P f args w fun e w' => e = .returned v ∧ Chg (· = b) w w' ∧ row? w' b = mc m' ∧ own? w' b = true
abbrev pt (b : Nat) : Value := .pointer (some ⟨b, 0, none⟩)
theorem Mth.c {P : Program} {f : FuncId} {b : Nat} {args : Array Value} {m m' : Mach} {v : Value} (h : Mth P f b args m m' v) {w : World} {R : Ending → World → Prop} (hr : row? w b = mc m) (ho : own? w b = true)
    (k : ∀ w', Chg (· = b) w w' → row? w' b = mc m' → own? w' b = true → R (.returned v) w') : Calls P f args w R :=
  (h w hr ho).mono fun _ w' ⟨he, hc, hr', ho'⟩ => by subst he; exact k w' hc hr' ho'
theorem wait_fn (b : Nat) (m : Mach) (s n : Int) : Mth Try.prog 38 b #[pt b, .int .i64 s, .int .i64 n] m (waitM m s n) (.tuple #[]) := by
  intro w hr ho
  go_enter Try.func38, Try.ntmps38
  go_wp2_with (go_at_call 28; refine (time_fn _).c ?_)
  go_end0
  exact ⟨rfl, ((Chg.refl (· = b) w).setCell (.inr rfl) _).setCell (.inr rfl) _, by simp [row_setCell, hr, waitM], by simp [own_setCell, ho]⟩
theorem Mth.of_gr {P : Program} {f : FuncId} {b : Nat} {args : Array Value} {m m' : Mach} {v : Value}
    (h : ∀ W, (∀ d, row? (gr W d) b = mc m) → (∀ d, own? (gr W d) b = true) → Calls P f args (gr W W) fun e w' => e = .returned v ∧ Chg (· = b) W w' ∧ row? w' b = mc m' ∧ own? w' b = true) : Mth P f b args m m' v := fun w hr ho => by
  have := h w (gr_row hr (row_lt (by rw [hr]; simp))) (gr_own ho)
  rwa [← gr_self w] at this
theorem anew_fn (b : Nat) (m : Mach) (hm : m.ok) (s n : Int) : Mth Try.prog 25 b #[pt b, .int .i64 s, .int .i64 n] m (anewM m s n) (.tuple #[]) := by
  refine Mth.of_gr fun W hr ho => ?_
  have e : anewM m s n = waitM m s (tmI n + m.o * m.e) := rfl
  rw [e]
  clear e
  obtain ⟨b1, b2⟩ := hm.oe
  obtain ⟨t1, t2⟩ := tmI_bd n
  have hw := fun x => wait_fn b m s x
  have tf := time_fn n
  clear hm
  generalize tmI n = t at *
  have HW_ := hid hw
  clear hw
  have TF_ := hid tf
  clear tf
  go_enter Try.func25, Try.ntmps25
  refine wp_region_gr_tail W 14 (by kernel_rfl) (by kernel_rfl) ⟨_, rfl⟩ ?_
  simp only [List.take_succ_cons, List.take_zero, List.drop_succ_cons, List.drop_zero]
  repeat (go_big_quiet_step (((go_at_call 28; exact TF_.out.fn.q))))
  refine wpQuiet_nil ?_
  rintro _ ⟨y, rfl⟩
  go_wp2_with (go_at_call 38; refine (HW_.out _).c (hr y) (ho y) ?_; intro w' hC hr' ho')
  go_end0
  exact ⟨rfl, (Chg.of_below (gr_below W y)).trans hC, hr', ho'⟩
theorem rest_fn (b : Nat) (m : Mach) (s : Int) : Mth Try.prog 29 b #[pt b, .int .i64 s] m (restM m s) (.bool true) := by
  intro w hr ho
  go_enter Try.func29, Try.ntmps29
  go_wp2
  go_ret
  exact ⟨rfl, ((Chg.refl (· = b) w).setCell (.inr rfl) _).setCell (.inr rfl) _, by simp [row_setCell, hr, restM], by simp [own_setCell, ho]⟩
/-- A call that looks at a machine. -/
def Rdm (P : Program) (f : FuncId) (b : Nat) (args : Array Value) (m : Mach) (v : Value) : Prop :=
  ∀ w, row? w b = mc m → Calls P f args w fun e w' => e = .returned v ∧ w = w'
theorem Rdm.c {P : Program} {f : FuncId} {b : Nat} {args : Array Value} {m : Mach} {v : Value} (h : Rdm P f b args m v) {w : World} {R : Ending → World → Prop} (hr : row? w b = mc m) (k : R (.returned v) w) : Calls P f args w R :=
  (h w hr).mono fun _ w' ⟨he, hw⟩ => by subst he hw; exact k
theorem state_fn (b : Nat) (m : Mach) : Rdm Try.prog 13 b #[pt b] m (.int .i64 m.s) := by
  intro w hr
  go_enter Try.func13, Try.ntmps13
  go_wp2
  go_ret
  exact ⟨rfl, rfl⟩
theorem until_fn (b : Nat) (m : Mach) : Rdm Try.prog 14 b #[pt b] m (.int .i64 m.u) := by
  intro w hr
  go_enter Try.func14, Try.ntmps14
  go_wp2
  go_ret
  exact ⟨rfl, rfl⟩
theorem hears_fn (b : Nat) (m : Mach) : Rdm Try.prog 27 b #[pt b] m (.bool (hearsM m)) := by
  intro w hr
  have e : hearsM m = (decide (m.s = 4) || decide (m.s = 7) || decide (m.s = 8) || decide (m.s = 9)) := rfl
  generalize hearsM m = v at *
  obtain ⟨e', o, so, s, u⟩ := m
  dsimp only at e hr ⊢
  subst e
  by_cases h4 : s = 4
  · subst h4
    go_enter Try.func27, Try.ntmps27
    go_wp2
    go_ret
    exact ⟨rfl, rfl⟩
  by_cases h7 : s = 7
  · subst h7
    go_enter Try.func27, Try.ntmps27
    go_wp2
    go_ret
    exact ⟨rfl, rfl⟩
  by_cases h8 : s = 8
  · subst h8
    go_enter Try.func27, Try.ntmps27
    go_wp2
    go_ret
    exact ⟨rfl, rfl⟩
  by_cases h9 : s = 9
  · subst h9
    go_enter Try.func27, Try.ntmps27
    go_wp2
    go_ret
    exact ⟨rfl, rfl⟩
  have b4 : (s == 4) = false := by simpa using h4
  have b7 : (s == 7) = false := by simpa using h7
  have b8 : (s == 8) = false := by simpa using h8
  have b9 : (s == 9) = false := by simpa using h9
  rw [decide_eq_false h4, decide_eq_false h7, decide_eq_false h8, decide_eq_false h9]
  clear h4 h7 h8 h9
  go_enter Try.func27, Try.ntmps27
  go_wp2
  go_ret
  exact ⟨rfl, rfl⟩
end Go.Proofs.Ytlbdinckbbaknaa
