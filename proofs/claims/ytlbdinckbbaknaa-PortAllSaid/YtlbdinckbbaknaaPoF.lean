/-
  The walks of package port's New and of the laws' one, does, alive. No condition but that the machine is one.
-/
import Derived.Test.YtlbdinckbbaknaaPoE
namespace Go.Proofs.Ytlbdinckbbaknaa
open Go.RowKit

def bI (v : Bool) : Int := if v then 1 else 0
theorem one_fn (v : Bool) : Sm Try.prog 36 #[.bool v] (.int .i64 (bI v)) := by
  intro w
  cases v
  · go_enter Try.func36, Try.ntmps36
    go_wp2
    go_ret
    exact ⟨rfl, rfl⟩
  · go_enter Try.func36, Try.ntmps36
    go_wp2
    go_ret
    exact ⟨rfl, rfl⟩
@[go_sem] theorem bldM (w : World) (e o : Int) (so : Bool) : (bld 51 #[(0, .int .i64 e), (1, .int .i64 o), (2, .bool so), (3, .int .i64 1)]).run Try.prog w = .ok (.agg (mc ⟨e, o, so, 1, 0⟩)) w := run_bld w (by kernel_rfl)
theorem new_no (e o : Int) (so : Bool) (h : e < 1 ∨ 1099511627776 < e ∨ o < 2 ∨ 10 < o) : Sm Try.prog 9 #[.int .i64 e, .int .i64 o, .bool so] (.tuple #[.pointer none, .int .i64 1]) := by
  intro w
  by_cases h1 : e < 1
  · clear h
    go_enter Try.func9, Try.ntmps9
    go_wp2
    go_ret2
    exact ⟨rfl, rfl⟩
  by_cases h2 : 1099511627776 < e
  · clear h h1
    have h1 : 1 ≤ e := by omega
    go_enter Try.func9, Try.ntmps9
    go_wp2
    go_ret2
    exact ⟨rfl, rfl⟩
  by_cases h3 : o < 2
  · clear h
    have b1 : 1 ≤ e := by omega
    have b2 : e ≤ 1099511627776 := by omega
    clear h1 h2
    go_enter Try.func9, Try.ntmps9
    go_wp2
    go_ret2
    exact ⟨rfl, rfl⟩
  have b4 : 10 < o := by omega
  have b1 : 1 ≤ e := by omega
  have b2 : e ≤ 1099511627776 := by omega
  have b3 : 2 ≤ o := by omega
  clear h h1 h2 h3
  go_enter Try.func9, Try.ntmps9
  go_wp2
  go_ret2
  exact ⟨rfl, rfl⟩
theorem new_yes (e o : Int) (so : Bool) (h1 : 1 ≤ e) (h2 : e ≤ 1099511627776) (h3 : 2 ≤ o) (h4 : o ≤ 10) (w : World) :
    Calls Try.prog 9 #[.int .i64 e, .int .i64 o, .bool so] w fun ε w' => ε = .returned (.tuple #[pt w.heap.size, .int .i64 0]) ∧ w.alloc (.cells (mc ⟨e, o, so, 1, 0⟩) 51) = w' := by
  go_enter Try.func9, Try.ntmps9
  go_wp2
  go_ret2
  exact ⟨rfl, rfl⟩
theorem Mth.at_eq {P : Program} {f : FuncId} {b : Nat} {args : Array Value} {m m' m2 : Mach} {v v2 : Value} (h : Mth P f b args m m' v) (e : m' = m2) (e2 : v = v2) : Mth P f b args m m2 v2 := by subst e e2; exact h
theorem Mth.gr {P : Program} {f : FuncId} {b : Nat} {args : Array Value} {m m' : Mach} {v : Value} (h : Mth P f b args m m' v) {W d : World} {R : Ending → World → Prop} (hr : ∀ d, row? (gr W d) b = mc m) (ho : ∀ d, own? (gr W d) b = true)
    (k : ∀ W1, Chg (· = b) (gr W d) W1 → (∀ d, row? (gr W1 d) b = mc m') → (∀ d, own? (gr W1 d) b = true) → R (.returned v) (gr W1 W1)) : Calls P f args (gr W d) R :=
  h.c (hr d) (ho d) fun w' hC hr' ho' => by
    have := k w' hC (gr_row hr' (row_lt (by rw [hr']; simp))) (gr_own ho')
    rwa [← gr_self w'] at this
/-- A machine that was made. -/
theorem new_gr (W0 m : World) (A : Array Value) (S : TypeId) :
    ∃ W1, (gr W0 m).alloc (.cells A S) = gr W1 W1 ∧ (∀ d, row? (gr W1 d) (gr W0 m).heap.size = A) ∧ (∀ d, own? (gr W1 d) (gr W0 m).heap.size = true) ∧ (∀ d, ∃ d', gr W1 d = gr W0 d') ∧ W0.heap.size ≤ (gr W0 m).heap.size := by
  refine ⟨(gr W0 m).alloc (.cells A S), gr_self _, gr_row (by simp [row_alloc, rowOf]) (by simp), gr_own (by simp [own_alloc, ownOf]), fun d => gr_ex (((gr_below W0 m).alloc (gr_below W0 m).size _).trans ((gr_below _ d).mono (by have := (gr_below W0 m).size; simp; omega))), (gr_below W0 m).size⟩
def mA : Mach := ⟨10, 3, false, 1, 0⟩
def mB : Mach := ⟨10, 3, false, 4, 35⟩
def mC : Mach := ⟨10, 3, false, 6, 0⟩
theorem okA : mA.ok := by constructor <;> decide
theorem okB : mB.ok := by constructor <;> decide
theorem startA (b : Nat) : Mth Try.prog 11 b #[pt b, .int .i64 5] mA mB (.bool true) := (start_fn b mA okA 5).at_eq rfl rfl
theorem tickA (b : Nat) : Mth Try.prog 16 b #[pt b, .int .i64 34] mB mB (.int .i64 0) := (tick_fn b mB okB 34).at_eq rfl rfl
theorem tickB (b : Nat) : Mth Try.prog 16 b #[pt b, .int .i64 35] mB mC (.int .i64 2) := (tick_fn b mB okB 35).at_eq rfl rfl
set_option maxHeartbeats 1000000 in
theorem alive_fn : Fn Try.prog 10 #[] (.bool true) := by
  intro w
  rw [gr_self w]
  go_enter Try.func10, Try.ntmps10
  go_wp2_with fail
  refine (new_yes 10 3 false (by omega) (by omega) (by omega) (by omega) _).mono ?_
  rintro e w' ⟨rfl, rfl⟩
  dsimp only
  obtain ⟨W1, hE, r1, o1, u1, hz⟩ := new_gr w w (mc mA) 51
  have hE' : (gr w w).alloc (.cells (mc ⟨10, 3, false, 1, 0⟩) 51) = gr W1 W1 := hE
  rw [hE']
  clear hE hE'
  have hb := upb u1 (gr_below w)
  generalize (gr w w).heap.size = b at *
  go_wp2_with fail
  refine (startA b).gr r1 o1 fun W2 hC2 r2 o2 => ?_
  dsimp only
  go_wp2_with (go_at_call 14; refine (until_fn _ mB).c (r2 _) ?_)
  refine (tickA b).gr r2 o2 fun W3 hC3 r3 o3 => ?_
  dsimp only
  go_wp2_with fail
  refine (tickB b).gr r3 o3 fun W4 hC4 r4 o4 => ?_
  dsimp only
  go_wp2_with (first | (go_at_call 14; refine (until_fn _ mC).c (r4 _) ?_) | (go_at_call 13; refine (state_fn _ mC).c (r4 _) ?_))
  go_ret
  refine ⟨rfl, ?_⟩
  rw [← gr_self w]
  replace hb := hC2.upb hb (hb _).size (by rintro k hk rfl; omega)
  replace hb := hC3.upb hb (hb _).size (by rintro k hk rfl; omega)
  replace hb := hC4.upb hb (hb _).size (by rintro k hk rfl; omega)
  exact hb _
theorem do_0 (m : Mach) (x : Opp) (h : x.k = 0) : doM m x = (iteM (m.s == 1) (anewM m 4 x.n) m, bI (m.s == 1)) := by
  unfold doM iteM bI
  rw [h]
  by_cases h : (m.s == 1) = true
  · rw [if_pos h, if_pos h]; simp at h; simp [h]
  · rw [if_neg h, if_neg h]; simp at h; simp [h]
theorem do_1 (m : Mach) (x : Opp) (h : x.k = 1) : doM m x = (iteM (m.s != 2 && m.s != 3) (restM m 2) m, bI (m.s != 2 && m.s != 3)) := by
  unfold doM iteM bI
  rw [h]
  by_cases h : (m.s != 2 && m.s != 3) = true
  · rw [if_pos h, if_pos h]; simp at h; simp [h]
  · rw [if_neg h, if_neg h]; simp at h; simp; omega
theorem do_2 (m : Mach) (x : Opp) (h : x.k = 2) : doM m x = (iteM (m.s == 2) (restM m 1) m, bI (m.s == 2)) := by
  unfold doM iteM bI
  rw [h]
  by_cases h : (m.s == 2) = true
  · rw [if_pos h, if_pos h]; simp at h; simp [h]
  · rw [if_neg h, if_neg h]; simp at h; simp [h]
theorem do_3 (m : Mach) (x : Opp) (h : x.k = 3) : doM m x = (iteM (m.s != 3) (restM m 3) m, bI (m.s != 3)) := by
  unfold doM iteM bI
  rw [h]
  by_cases h : (m.s != 3) = true
  · rw [if_pos h, if_pos h]; simp at h; simp [h]
  · rw [if_neg h, if_neg h]; simp at h; simp [h]
theorem do_4 (m : Mach) (x : Opp) (h : x.k = 4) : doM m x = (iteM (m.s == 3) (restM m 1) m, bI (m.s == 3)) := by
  unfold doM iteM bI
  rw [h]
  by_cases h : (m.s == 3) = true
  · rw [if_pos h, if_pos h]; simp at h; simp [h]
  · rw [if_neg h, if_neg h]; simp at h; simp [h]
theorem do_5 (m : Mach) (x : Opp) (h : x.k = 5) : doM m x = (iteM (m.s == 8) { m with s := 9 } m, bI (m.s == 8)) := by
  unfold doM iteM bI
  rw [h]
  by_cases h : (m.s == 8) = true
  · rw [if_pos h, if_pos h]; simp at h; simp [h]
  · rw [if_neg h, if_neg h]; simp at h; simp [h]
theorem do_6 (m : Mach) (x : Opp) (h : x.k = 6) : doM m x = (iteM (m.s == 9) { m with s := 8 } m, bI (m.s == 9)) := by
  unfold doM iteM bI
  rw [h]
  by_cases h : (m.s == 9) = true
  · rw [if_pos h, if_pos h]; simp at h; simp [h]
  · rw [if_neg h, if_neg h]; simp at h; simp [h]
theorem do_7 (m : Mach) (x : Opp) (h : x.k = 7) : doM m x = (iteM (hearsM m) (anewM m m.s x.n) m, 0) := by
  unfold doM iteM
  rw [h]
  cases hearsM m <;> simp
theorem do_8 (m : Mach) (x : Opp) (h : x.k = 8) : doM m x = (decM m x.c x.p x.n x.sm, 0) := by
  unfold doM
  rw [h]
  simp
theorem do_9 (m : Mach) (x : Opp) (h : x.k = 9) : doM m x = tickM m x.n := by
  unfold doM
  rw [h]
  simp
theorem do_no (m : Mach) (x : Opp) (h : x.k < 0 ∨ 9 < x.k) : doM m x = (m, 0) := by
  unfold doM
  rw [if_neg (by omega), if_neg (by omega), if_neg (by omega), if_neg (by omega), if_neg (by omega), if_neg (by omega), if_neg (by omega), if_neg (by omega), if_neg (by omega), if_neg (by omega)]
set_option maxHeartbeats 2000000 in
theorem does_fn (b : Nat) (m : Mach) (hm : m.ok) (x : Opp) : Mth Try.prog 20 b #[pt b, .agg (oa x)] m (doM m x).1 (.int .i64 (doM m x).2) := by
  intro w hr ho
  have hlt : b < w.heap.size := row_lt (by rw [hr]; simp)
  have hne : ¬ b = w.heap.size := by omega
  have hr1 := fun o => alloc_mac (o := o) (by simp) hr
  have ho1 := fun o => alloc_own (o := o) ho
  clear hlt
  by_cases h0 : x.k = 0
  · rw [do_0 m x h0]
    dsimp only
    have hw := start_fn b m hm x.n
    have hone := one_fn (m.s == 1)
    generalize iteM (m.s == 1) (anewM m 4 x.n) m = m' at *
    generalize (m.s == 1) = v at *
    obtain ⟨k, c, p, n, sm⟩ := x
    dsimp only at *
    subst h0
    clear hm
    have HR1_ := hid hr1
    clear hr1
    have HO1_ := hid ho1
    clear ho1
    have HW_ := hid hw
    clear hw
    have HONE_ := hid hone
    clear hone
    go_enter Try.func20, Try.ntmps20
    go_wp2_with (first | (go_at_call 11; refine HW_.out.c (HR1_.out _) (HO1_.out _) ?_; intro w' hC hr' ho') | (go_at_call 36; refine HONE_.out.c ?_))
    go_ret
    exact ⟨rfl, ((Chg.refl _ w).alloc _).trans hC, hr', ho'⟩
  by_cases h1 : x.k = 1
  · rw [do_1 m x h1]
    dsimp only
    have hw := fault_fn b m
    have hone := one_fn (m.s != 2 && m.s != 3)
    generalize iteM (m.s != 2 && m.s != 3) (restM m 2) m = m' at *
    generalize (m.s != 2 && m.s != 3) = v at *
    obtain ⟨k, c, p, n, sm⟩ := x
    dsimp only at *
    subst h1
    clear hm
    have HR1_ := hid hr1
    clear hr1
    have HO1_ := hid ho1
    clear ho1
    have HW_ := hid hw
    clear hw
    have HONE_ := hid hone
    clear hone
    go_enter Try.func20, Try.ntmps20
    go_wp2_with (first | (go_at_call 22; refine HW_.out.c (HR1_.out _) (HO1_.out _) ?_; intro w' hC hr' ho') | (go_at_call 36; refine HONE_.out.c ?_))
    go_ret
    exact ⟨rfl, ((Chg.refl _ w).alloc _).trans hC, hr', ho'⟩
  by_cases h2 : x.k = 2
  · rw [do_2 m x h2]
    dsimp only
    have hw := clear_fn b m
    have hone := one_fn (m.s == 2)
    generalize iteM (m.s == 2) (restM m 1) m = m' at *
    generalize (m.s == 2) = v at *
    obtain ⟨k, c, p, n, sm⟩ := x
    dsimp only at *
    subst h2
    clear hm
    have HR1_ := hid hr1
    clear hr1
    have HO1_ := hid ho1
    clear ho1
    have HW_ := hid hw
    clear hw
    have HONE_ := hid hone
    clear hone
    go_enter Try.func20, Try.ntmps20
    go_wp2_with (first | (go_at_call 21; refine HW_.out.c (HR1_.out _) (HO1_.out _) ?_; intro w' hC hr' ho') | (go_at_call 36; refine HONE_.out.c ?_))
    go_ret
    exact ⟨rfl, ((Chg.refl _ w).alloc _).trans hC, hr', ho'⟩
  by_cases h3 : x.k = 3
  · rw [do_3 m x h3]
    dsimp only
    have hw := disable_fn b m
    have hone := one_fn (m.s != 3)
    generalize iteM (m.s != 3) (restM m 3) m = m' at *
    generalize (m.s != 3) = v at *
    obtain ⟨k, c, p, n, sm⟩ := x
    dsimp only at *
    subst h3
    clear hm
    have HR1_ := hid hr1
    clear hr1
    have HO1_ := hid ho1
    clear ho1
    have HW_ := hid hw
    clear hw
    have HONE_ := hid hone
    clear hone
    go_enter Try.func20, Try.ntmps20
    go_wp2_with (first | (go_at_call 23; refine HW_.out.c (HR1_.out _) (HO1_.out _) ?_; intro w' hC hr' ho') | (go_at_call 36; refine HONE_.out.c ?_))
    go_ret
    exact ⟨rfl, ((Chg.refl _ w).alloc _).trans hC, hr', ho'⟩
  by_cases h4 : x.k = 4
  · rw [do_4 m x h4]
    dsimp only
    have hw := enable_fn b m
    have hone := one_fn (m.s == 3)
    generalize iteM (m.s == 3) (restM m 1) m = m' at *
    generalize (m.s == 3) = v at *
    obtain ⟨k, c, p, n, sm⟩ := x
    dsimp only at *
    subst h4
    clear hm
    have HR1_ := hid hr1
    clear hr1
    have HO1_ := hid ho1
    clear ho1
    have HW_ := hid hw
    clear hw
    have HONE_ := hid hone
    clear hone
    go_enter Try.func20, Try.ntmps20
    go_wp2_with (first | (go_at_call 24; refine HW_.out.c (HR1_.out _) (HO1_.out _) ?_; intro w' hC hr' ho') | (go_at_call 36; refine HONE_.out.c ?_))
    go_ret
    exact ⟨rfl, ((Chg.refl _ w).alloc _).trans hC, hr', ho'⟩
  by_cases h5 : x.k = 5
  · rw [do_5 m x h5]
    dsimp only
    have hw := lock_fn b m
    have hone := one_fn (m.s == 8)
    generalize iteM (m.s == 8) { m with s := 9 } m = m' at *
    generalize (m.s == 8) = v at *
    obtain ⟨k, c, p, n, sm⟩ := x
    dsimp only at *
    subst h5
    clear hm
    have HR1_ := hid hr1
    clear hr1
    have HO1_ := hid ho1
    clear ho1
    have HW_ := hid hw
    clear hw
    have HONE_ := hid hone
    clear hone
    go_enter Try.func20, Try.ntmps20
    go_wp2_with (first | (go_at_call 17; refine HW_.out.c (HR1_.out _) (HO1_.out _) ?_; intro w' hC hr' ho') | (go_at_call 36; refine HONE_.out.c ?_))
    go_ret
    exact ⟨rfl, ((Chg.refl _ w).alloc _).trans hC, hr', ho'⟩
  by_cases h6 : x.k = 6
  · rw [do_6 m x h6]
    dsimp only
    have hw := unlock_fn b m
    have hone := one_fn (m.s == 9)
    generalize iteM (m.s == 9) { m with s := 8 } m = m' at *
    generalize (m.s == 9) = v at *
    obtain ⟨k, c, p, n, sm⟩ := x
    dsimp only at *
    subst h6
    clear hm
    have HR1_ := hid hr1
    clear hr1
    have HO1_ := hid ho1
    clear ho1
    have HW_ := hid hw
    clear hw
    have HONE_ := hid hone
    clear hone
    go_enter Try.func20, Try.ntmps20
    go_wp2_with (first | (go_at_call 37; refine HW_.out.c (HR1_.out _) (HO1_.out _) ?_; intro w' hC hr' ho') | (go_at_call 36; refine HONE_.out.c ?_))
    go_ret
    exact ⟨rfl, ((Chg.refl _ w).alloc _).trans hC, hr', ho'⟩
  by_cases h7 : x.k = 7
  · rw [do_7 m x h7]
    dsimp only
    have hw := heard_fn b m hm x.n
    generalize iteM (hearsM m) (anewM m m.s x.n) m = m' at *
    obtain ⟨k, c, p, n, sm⟩ := x
    dsimp only at *
    subst h7
    clear hm
    have HR1_ := hid hr1
    clear hr1
    have HO1_ := hid ho1
    clear ho1
    have HW_ := hid hw
    clear hw
    go_enter Try.func20, Try.ntmps20
    go_wp2_with (go_at_call 15; refine HW_.out.c (HR1_.out _) (HO1_.out _) ?_; intro w' hC hr' ho')
    go_ret
    exact ⟨rfl, ((Chg.refl _ w).alloc _).trans hC, hr', ho'⟩
  by_cases h8 : x.k = 8
  · rw [do_8 m x h8]
    dsimp only
    have hw := decide_fn b m hm x.c x.p x.n x.sm
    generalize decM m x.c x.p x.n x.sm = m' at *
    obtain ⟨k, c, p, n, sm⟩ := x
    dsimp only at *
    subst h8
    clear hm
    have HR1_ := hid hr1
    clear hr1
    have HO1_ := hid ho1
    clear ho1
    have HW_ := hid hw
    clear hw
    go_enter Try.func20, Try.ntmps20
    go_wp2_with (go_at_call 12; refine HW_.out.c (HR1_.out _) (HO1_.out _) ?_; intro w' hC hr' ho')
    go_ret
    exact ⟨rfl, ((Chg.refl _ w).alloc _).trans hC, hr', ho'⟩
  by_cases h9 : x.k = 9
  · rw [do_9 m x h9]
    have hw := tick_fn b m hm x.n
    generalize tickM m x.n = r at *
    obtain ⟨m', v⟩ := r
    obtain ⟨k, c, p, n, sm⟩ := x
    dsimp only at *
    subst h9
    clear hm
    have HR1_ := hid hr1
    clear hr1
    have HO1_ := hid ho1
    clear ho1
    have HW_ := hid hw
    clear hw
    go_enter Try.func20, Try.ntmps20
    go_wp2_with (go_at_call 16; refine HW_.out.c (HR1_.out _) (HO1_.out _) ?_; intro w' hC hr' ho')
    go_ret
    exact ⟨rfl, ((Chg.refl _ w).alloc _).trans hC, hr', ho'⟩
  rw [do_no m x (by omega)]
  obtain ⟨k, c, p, n, sm⟩ := x
  dsimp only at *
  have b0 : (k == 0) = false := by simpa using h0
  have b1 : (k == 1) = false := by simpa using h1
  have b2 : (k == 2) = false := by simpa using h2
  have b3 : (k == 3) = false := by simpa using h3
  have b4 : (k == 4) = false := by simpa using h4
  have b5 : (k == 5) = false := by simpa using h5
  have b6 : (k == 6) = false := by simpa using h6
  have b7 : (k == 7) = false := by simpa using h7
  have b8 : (k == 8) = false := by simpa using h8
  have b9 : (k == 9) = false := by simpa using h9
  clear h0 h1 h2 h3 h4 h5 h6 h7 h8 h9 hm
  have HR1_ := hid hr1
  clear hr1
  have HO1_ := hid ho1
  clear ho1
  go_enter Try.func20, Try.ntmps20
  go_wp2
  go_ret
  exact ⟨rfl, (Chg.refl _ _).alloc _, HR1_.out _, HO1_.out _⟩
end Go.Proofs.Ytlbdinckbbaknaa
