/-
  The walks of package port: lead, pass, follow. No condition but that the machine is one.
-/
import Derived.Test.YtlbdinckbbaknaaPoC
namespace Go.Proofs.Ytlbdinckbbaknaa
open Go.RowKit

abbrev ora (c p n : Int) (sm : Bool) : Array Value := #[.int .i64 c, .int .i64 p, .int .i64 n, .bool sm]
def leadM (m : Mach) (c p n : Int) : Mach :=
  if m.s = 6 then m else if m.s = 5 then m
  else if m.so = true then iteM (m.so && m.s != 4) (anewM m 4 n) m
  else if c = 3 then waitM m 5 (tmI n + (clampI p + 1) * m.e)
  else waitM m 5 n
def passM (m : Mach) (n : Int) : Mach :=
  if m.s = 7 then m
  else if m.so = true then iteM (m.so && m.s != 4) (anewM m 4 n) m
  else anewM m 7 n
def followM (m : Mach) (n : Int) (sm : Bool) : Mach :=
  if sm = true ∧ (m.s = 9 ∨ m.s = 8) then m else anewM m 8 n
theorem alloc_mac {w : World} {b : Nat} {A : Array Value} {o : Obj} (hA : A ≠ #[]) (hr : row? w b = A) : row? (w.alloc o) b = A := by
  rw [row_alloc, if_neg (by have := row_lt (w := w) (b := b) (by rw [hr]; exact hA); omega), hr]
theorem alloc_own {w : World} {b : Nat} {o : Obj} (ho : own? w b = true) : own? (w.alloc o) b = true := by
  rw [own_alloc, if_neg (by have := own_lt ho; omega), ho]
theorem clamp_bd (n : Int) : 0 ≤ clampI n ∧ clampI n ≤ 255 := by
  unfold clampI
  split
  · omega
  · split <;> omega
set_option maxHeartbeats 1000000 in
theorem lead_fn (b : Nat) (m : Mach) (hm : m.ok) (c p n : Int) (sm : Bool) : Mth Try.prog 39 b #[pt b, .agg (ora c p n sm)] m (leadM m c p n) (.tuple #[]) := by
  intro w hr ho
  have hlt : b < w.heap.size := row_lt (by rw [hr]; simp)
  have hne : ¬ b = w.heap.size := by omega
  have hr1 := fun o => alloc_mac (o := o) (by simp) hr
  have ho1 := fun o => alloc_own (o := o) ho
  clear hlt
  by_cases h6 : m.s = 6
  · have e : leadM m c p n = m := by unfold leadM; rw [if_pos h6]
    rw [e]
    obtain ⟨e', o, so, s, u⟩ := m
    dsimp only at h6 hr
    subst h6
    clear e hm
    have HR1_ := hid hr1
    clear hr1
    have HO1_ := hid ho1
    clear ho1
    go_enter Try.func39, Try.ntmps39
    go_wp2
    go_end0
    exact ⟨rfl, (Chg.refl _ _).alloc _, HR1_.out _, HO1_.out _⟩
  by_cases h5 : m.s = 5
  · have e : leadM m c p n = m := by unfold leadM; rw [if_neg h6, if_pos h5]
    rw [e]
    obtain ⟨e', o, so, s, u⟩ := m
    dsimp only at h5 hr
    subst h5
    clear e hm h6
    have HR1_ := hid hr1
    clear hr1
    have HO1_ := hid ho1
    clear ho1
    go_enter Try.func39, Try.ntmps39
    go_wp2
    go_end0
    exact ⟨rfl, (Chg.refl _ _).alloc _, HR1_.out _, HO1_.out _⟩
  have b6 : (m.s == 6) = false := by simpa using h6
  have b5 : (m.s == 5) = false := by simpa using h5
  have hw := listen_fn b m hm n
  cases hso : m.so with
  | true =>
    have e : leadM m c p n = iteM (m.so && m.s != 4) (anewM m 4 n) m := by unfold leadM; rw [if_neg h6, if_neg h5, if_pos hso]
    rw [e]
    rw [hso] at hw ⊢
    generalize iteM (true && m.s != 4) (anewM m 4 n) m = m' at *
    obtain ⟨e', o, so, s, u⟩ := m
    dsimp only at hso hr b6 b5 hw
    subst hso
    clear e hm h6 h5
    have HR1_ := hid hr1
    clear hr1
    have HO1_ := hid ho1
    clear ho1
    have HW_ := hid hw
    clear hw
    go_enter Try.func39, Try.ntmps39
    go_wp2_with (go_at_call 43; refine HW_.out.c (HR1_.out _) (HO1_.out _) ?_; intro w' hC hr' ho')
    go_end0
    exact ⟨rfl, ((Chg.refl _ w).alloc _).trans hC, hr', ho'⟩
  | false =>
    rw [hso] at hw
    have e0 : iteM (false && m.s != 4) (anewM m 4 n) m = m := rfl
    rw [e0] at hw
    clear e0
    have up : ∀ w' : World, Chg (· = b) (w.alloc (.cells (ora c p n sm) 58)) w' → ∀ d, row? (gr w' d) w.heap.size = ora c p n sm := fun w' hC => by
      refine gr_row ?_ (Nat.lt_of_lt_of_le (by simp) hC.size)
      rw [hC.row (by simp) (by omega)]
      simp [row_alloc, rowOf]
    by_cases h3 : c = 3
    · have e : leadM m c p n = waitM m 5 (tmI n + (clampI p + 1) * m.e) := by unfold leadM; rw [if_neg h6, if_neg h5, if_neg (by simp [hso]), if_pos h3]
      rw [e]
      subst h3
      have hm1 := hm.e1
      have hm2 := hm.e2
      have hwt := fun x => wait_fn b m 5 x
      have tf := time_fn n
      have k1 := tmI_bd n
      obtain ⟨k1, k2⟩ := k1
      obtain ⟨c1, c2⟩ := clamp_bd p
      have m1 : 0 ≤ (clampI p + 1) * m.e := Int.mul_nonneg (by omega) (by omega)
      have m2 : (clampI p + 1) * m.e ≤ 256 * 1099511627776 := Int.mul_le_mul (by omega) hm2 (by omega) (by omega)
      have hcl : clampI p = if p < 0 then 0 else if p > 255 then 255 else p := rfl
      generalize tmI n = t at *
      generalize clampI p = q at *
      obtain ⟨e', o, so, s, u⟩ := m
      dsimp only at hso hr b6 b5 hw hwt m1 m2 hm1 hm2 ⊢
      subst hso
      clear e hm h6 h5
      have HR1_ := hid hr1
      clear hr1
      have HO1_ := hid ho1
      clear ho1
      have HW_ := hid hw
      clear hw
      have HWT_ := hid hwt
      clear hwt
      have TF_ := hid tf
      clear tf
      have UP_ := hid up
      clear up
      have HCL_ := hid hcl
      clear hcl
      by_cases hp : p < 0
      · have hq := HCL_.out
        rw [if_pos hp] at hq
        subst hq
        clear HCL_
        have hp2 : ¬ 0 ≤ p := by omega
        have hp3 : ¬ 0 < p := by omega
        clear hp
        go_enter Try.func39, Try.ntmps39
        go_wp2_with (go_at_call 43; refine HW_.out.c (HR1_.out _) (HO1_.out _) ?_; intro w' hC hr' ho'; rw [gr_self w']; have rb := UP_.out _ hC; have rm := gr_row hr' (row_lt (by rw [hr']; simp)); have om := gr_own ho')
        refine wp_region_gr_tail w' 15 (by kernel_rfl) (by kernel_rfl) ⟨_, rfl⟩ ?_
        simp only [List.take_succ_cons, List.take_zero, List.drop_succ_cons, List.drop_zero]
        repeat (go_big_quiet_step (((go_at_call 28; exact TF_.out.fn.q))))
        refine wpQuiet_nil ?_
        rintro _ ⟨y, rfl⟩
        go_wp2_with (go_at_call 38; refine (HWT_.out _).c (rm y) (om y) ?_; intro w2 hC2 hr2 ho2)
        go_end0
        exact ⟨rfl, (((Chg.refl _ w).alloc _).trans hC).trans ((Chg.of_below (gr_below w' y)).trans hC2), by first | exact hr2 | simpa using hr2, ho2⟩
      by_cases hp5 : p > 255
      · have hq := HCL_.out
        rw [if_neg hp, if_pos hp5] at hq
        subst hq
        clear HCL_
        have hp2 : 0 ≤ p := by omega
        clear hp
        go_enter Try.func39, Try.ntmps39
        go_wp2_with (go_at_call 43; refine HW_.out.c (HR1_.out _) (HO1_.out _) ?_; intro w' hC hr' ho'; rw [gr_self w']; have rb := UP_.out _ hC; have rm := gr_row hr' (row_lt (by rw [hr']; simp)); have om := gr_own ho')
        refine wp_region_gr_tail w' 15 (by kernel_rfl) (by kernel_rfl) ⟨_, rfl⟩ ?_
        simp only [List.take_succ_cons, List.take_zero, List.drop_succ_cons, List.drop_zero]
        repeat (go_big_quiet_step (((go_at_call 28; exact TF_.out.fn.q))))
        refine wpQuiet_nil ?_
        rintro _ ⟨y, rfl⟩
        go_wp2_with (go_at_call 38; refine (HWT_.out _).c (rm y) (om y) ?_; intro w2 hC2 hr2 ho2)
        go_end0
        exact ⟨rfl, (((Chg.refl _ w).alloc _).trans hC).trans ((Chg.of_below (gr_below w' y)).trans hC2), by first | exact hr2 | simpa using hr2, ho2⟩
      · have hq := HCL_.out
        rw [if_neg hp, if_neg hp5] at hq
        subst hq
        clear HCL_
        have hp2 : 0 ≤ q := by omega
        have hp3 : q ≤ 255 := by omega
        clear hp hp5
        go_enter Try.func39, Try.ntmps39
        go_wp2_with (go_at_call 43; refine HW_.out.c (HR1_.out _) (HO1_.out _) ?_; intro w' hC hr' ho'; rw [gr_self w']; have rb := UP_.out _ hC; have rm := gr_row hr' (row_lt (by rw [hr']; simp)); have om := gr_own ho')
        refine wp_region_gr_tail w' 15 (by kernel_rfl) (by kernel_rfl) ⟨_, rfl⟩ ?_
        simp only [List.take_succ_cons, List.take_zero, List.drop_succ_cons, List.drop_zero]
        repeat (go_big_quiet_step (((go_at_call 28; exact TF_.out.fn.q))))
        refine wpQuiet_nil ?_
        rintro _ ⟨y, rfl⟩
        go_wp2_with (go_at_call 38; refine (HWT_.out _).c (rm y) (om y) ?_; intro w2 hC2 hr2 ho2)
        go_end0
        exact ⟨rfl, (((Chg.refl _ w).alloc _).trans hC).trans ((Chg.of_below (gr_below w' y)).trans hC2), by first | exact hr2 | simpa using hr2, ho2⟩
    · have e : leadM m c p n = waitM m 5 n := by unfold leadM; rw [if_neg h6, if_neg h5, if_neg (by simp [hso]), if_neg h3]
      rw [e]
      have b3 : (c == 3) = false := by simpa using h3
      have hwt := wait_fn b m 5 n
      generalize waitM m 5 n = m' at *
      obtain ⟨e', o, so, s, u⟩ := m
      dsimp only at hso hr b6 b5 hw hwt ⊢
      subst hso
      clear e hm h6 h5 h3
      have HR1_ := hid hr1
      clear hr1
      have HO1_ := hid ho1
      clear ho1
      have HW_ := hid hw
      clear hw
      have HWT_ := hid hwt
      clear hwt
      have UP_ := hid up
      clear up
      go_enter Try.func39, Try.ntmps39
      go_wp2_with (first | (go_at_call 43; refine HW_.out.c (HR1_.out _) (HO1_.out _) ?_; intro w' hC hr' ho'; rw [gr_self w']; have rb := UP_.out _ hC; have rm := gr_row hr' (row_lt (by rw [hr']; simp)); have om := gr_own ho') | (go_at_call 38; refine HWT_.out.c (rm _) (om _) ?_; intro w2 hC2 hr2 ho2))
      go_end0
      exact ⟨rfl, (((Chg.refl _ w).alloc _).trans hC).trans ((Chg.of_below (gr_below w' _)).trans hC2), hr2, ho2⟩
set_option maxHeartbeats 1000000 in
theorem pass_fn (b : Nat) (m : Mach) (hm : m.ok) (c p n : Int) (sm : Bool) : Mth Try.prog 40 b #[pt b, .agg (ora c p n sm)] m (passM m n) (.tuple #[]) := by
  intro w hr ho
  have hlt : b < w.heap.size := row_lt (by rw [hr]; simp)
  have hne : ¬ b = w.heap.size := by omega
  have hr1 := fun o => alloc_mac (o := o) (by simp) hr
  have ho1 := fun o => alloc_own (o := o) ho
  clear hlt
  by_cases h7 : m.s = 7
  · have e : passM m n = m := by unfold passM; rw [if_pos h7]
    rw [e]
    obtain ⟨e', o, so, s, u⟩ := m
    dsimp only at h7 hr
    subst h7
    clear e hm
    have HR1_ := hid hr1
    clear hr1
    have HO1_ := hid ho1
    clear ho1
    go_enter Try.func40, Try.ntmps40
    go_wp2
    go_end0
    exact ⟨rfl, (Chg.refl _ _).alloc _, HR1_.out _, HO1_.out _⟩
  have b7 : (m.s != 7) = true := by simpa using h7
  have hw := listen_fn b m hm n
  cases hso : m.so with
  | true =>
    have e : passM m n = iteM (m.so && m.s != 4) (anewM m 4 n) m := by unfold passM; rw [if_neg h7, if_pos hso]
    rw [e]
    rw [hso] at hw ⊢
    generalize iteM (true && m.s != 4) (anewM m 4 n) m = m' at *
    obtain ⟨e', o, so, s, u⟩ := m
    dsimp only at hso hr b7 hw
    subst hso
    clear e hm h7
    have HR1_ := hid hr1
    clear hr1
    have HO1_ := hid ho1
    clear ho1
    have HW_ := hid hw
    clear hw
    go_enter Try.func40, Try.ntmps40
    go_wp2_with (go_at_call 43; refine HW_.out.c (HR1_.out _) (HO1_.out _) ?_; intro w' hC hr' ho')
    go_end0
    exact ⟨rfl, ((Chg.refl _ w).alloc _).trans hC, hr', ho'⟩
  | false =>
    rw [hso] at hw
    have e0 : iteM (false && m.s != 4) (anewM m 4 n) m = m := rfl
    rw [e0] at hw
    clear e0
    have up : ∀ w' : World, Chg (· = b) (w.alloc (.cells (ora c p n sm) 58)) w' → ∀ d, row? (gr w' d) w.heap.size = ora c p n sm := fun w' hC => by
      refine gr_row ?_ (Nat.lt_of_lt_of_le (by simp) hC.size)
      rw [hC.row (by simp) (by omega)]
      simp [row_alloc, rowOf]
    have e : passM m n = anewM m 7 n := by unfold passM; rw [if_neg h7, if_neg (by simp [hso])]
    rw [e]
    have hwt := anew_fn b m hm 7 n
    generalize anewM m 7 n = m' at *
    obtain ⟨e', o, so, s, u⟩ := m
    dsimp only at hso hr b7 hw hwt ⊢
    subst hso
    clear e hm h7
    have HR1_ := hid hr1
    clear hr1
    have HO1_ := hid ho1
    clear ho1
    have HW_ := hid hw
    clear hw
    have HWT_ := hid hwt
    clear hwt
    have UP_ := hid up
    clear up
    go_enter Try.func40, Try.ntmps40
    go_wp2_with (first | (go_at_call 43; refine HW_.out.c (HR1_.out _) (HO1_.out _) ?_; intro w' hC hr' ho'; rw [gr_self w']; have rb := UP_.out _ hC; have rm := gr_row hr' (row_lt (by rw [hr']; simp)); have om := gr_own ho') | (go_at_call 25; refine HWT_.out.c (rm _) (om _) ?_; intro w2 hC2 hr2 ho2))
    go_end0
    exact ⟨rfl, (((Chg.refl _ w).alloc _).trans hC).trans ((Chg.of_below (gr_below w' _)).trans hC2), hr2, ho2⟩
set_option maxHeartbeats 1000000 in
theorem follow_fn (b : Nat) (m : Mach) (hm : m.ok) (c p n : Int) (sm : Bool) : Mth Try.prog 41 b #[pt b, .agg (ora c p n sm)] m (followM m n sm) (.tuple #[]) := by
  intro w hr ho
  have hlt : b < w.heap.size := row_lt (by rw [hr]; simp)
  have hne : ¬ b = w.heap.size := by omega
  have hr1 := fun o => alloc_mac (o := o) (by simp) hr
  have ho1 := fun o => alloc_own (o := o) ho
  clear hlt
  have hwt := anew_fn b m hm 8 n
  cases sm with
  | false =>
    have e : followM m n false = anewM m 8 n := by unfold followM; rw [if_neg (by simp)]
    rw [e]
    generalize anewM m 8 n = m' at *
    clear e hm
    have HR1_ := hid hr1
    clear hr1
    have HO1_ := hid ho1
    clear ho1
    have HWT_ := hid hwt
    clear hwt
    go_enter Try.func41, Try.ntmps41
    go_wp2_with (go_at_call 25; refine HWT_.out.c (HR1_.out _) (HO1_.out _) ?_; intro w' hC hr' ho')
    go_end0
    exact ⟨rfl, ((Chg.refl _ w).alloc _).trans hC, hr', ho'⟩
  | true =>
    by_cases h9 : m.s = 9
    · have e : followM m n true = m := by unfold followM; rw [if_pos ⟨rfl, .inl h9⟩]
      rw [e]
      obtain ⟨e', o, so, s, u⟩ := m
      dsimp only at h9 hr
      subst h9
      clear e hm hwt
      have HR1_ := hid hr1
      clear hr1
      have HO1_ := hid ho1
      clear ho1
      go_enter Try.func41, Try.ntmps41
      go_wp2
      refine bodyPost_ret (results_none rfl _ _ _) rfl ?_
      exact ⟨rfl, (Chg.refl _ _).alloc _, HR1_.out _, HO1_.out _⟩
    by_cases h8 : m.s = 8
    · have e : followM m n true = m := by unfold followM; rw [if_pos ⟨rfl, .inr h8⟩]
      rw [e]
      obtain ⟨e', o, so, s, u⟩ := m
      dsimp only at h8 hr
      subst h8
      clear e hm hwt h9
      have HR1_ := hid hr1
      clear hr1
      have HO1_ := hid ho1
      clear ho1
      go_enter Try.func41, Try.ntmps41
      go_wp2
      refine bodyPost_ret (results_none rfl _ _ _) rfl ?_
      exact ⟨rfl, (Chg.refl _ _).alloc _, HR1_.out _, HO1_.out _⟩
    have e : followM m n true = anewM m 8 n := by unfold followM; rw [if_neg (by simp; omega)]
    rw [e]
    have b9 : (m.s == 9) = false := by simpa using h9
    have b8 : (m.s == 8) = false := by simpa using h8
    generalize anewM m 8 n = m' at *
    obtain ⟨e', o, so, s, u⟩ := m
    dsimp only at hr b9 b8 hwt ⊢
    clear e hm h9 h8
    have HR1_ := hid hr1
    clear hr1
    have HO1_ := hid ho1
    clear ho1
    have HWT_ := hid hwt
    clear hwt
    go_enter Try.func41, Try.ntmps41
    go_wp2_with (go_at_call 25; refine HWT_.out.c (HR1_.out _) (HO1_.out _) ?_; intro w' hC hr' ho')
    go_end0
    exact ⟨rfl, ((Chg.refl _ w).alloc _).trans hC, hr', ho'⟩
end Go.Proofs.Ytlbdinckbbaknaa
