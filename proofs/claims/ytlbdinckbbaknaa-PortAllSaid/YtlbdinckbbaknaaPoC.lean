/-
  The walks of package port: Start, Fault, Clear, Disable, Enable, swap, Lock, Unlock, Heard, listen. No condition but that the machine is one.
-/
import Derived.Test.YtlbdinckbbaknaaPoB
namespace Go.Proofs.Ytlbdinckbbaknaa
open Go.RowKit

def iteM (c : Bool) (m' m : Mach) : Mach := if c then m' else m
theorem start_fn (b : Nat) (m : Mach) (hm : m.ok) (n : Int) : Mth Try.prog 11 b #[pt b, .int .i64 n] m (iteM (m.s == 1) (anewM m 4 n) m) (.bool (m.s == 1)) := by
  intro w hr ho
  have hw := anew_fn b m hm 4 n
  clear hm
  generalize anewM m 4 n = m' at *
  obtain ⟨e, o, so, s, u⟩ := m
  dsimp only at hr hw ⊢
  by_cases h : s = 1
  · subst h
    have HW_ := hid hw
    clear hw
    go_enter Try.func11, Try.ntmps11
    go_wp2_with (go_at_call 25; refine HW_.out.c hr ho ?_; intro w' hC hr' ho')
    go_ret
    exact ⟨rfl, hC, hr', ho'⟩
  · have b1 : (s == 1) = false := by simpa using h
    have b2 : (s != 1) = true := by simpa using h
    rw [b1]
    clear h b1 hw
    go_enter Try.func11, Try.ntmps11
    go_wp2
    go_ret
    exact ⟨rfl, Chg.refl _ _, hr, ho⟩
theorem fault_fn (b : Nat) (m : Mach) : Mth Try.prog 22 b #[pt b] m (iteM (m.s != 2 && m.s != 3) (restM m 2) m) (.bool (m.s != 2 && m.s != 3)) := by
  intro w hr ho
  have hw := rest_fn b m 2
  generalize restM m 2 = m' at *
  obtain ⟨e, o, so, s, u⟩ := m
  dsimp only at hr hw ⊢
  by_cases h2 : s = 2
  · subst h2
    clear hw
    go_enter Try.func22, Try.ntmps22
    go_wp2
    go_ret
    exact ⟨rfl, Chg.refl _ _, hr, ho⟩
  by_cases h3 : s = 3
  · subst h3
    clear hw
    go_enter Try.func22, Try.ntmps22
    go_wp2
    go_ret
    exact ⟨rfl, Chg.refl _ _, hr, ho⟩
  have b2 : (s != 2) = true := by simpa using h2
  have b3 : (s != 3) = true := by simpa using h3
  have e : (s != 2 && s != 3) = true := by rw [b2, b3]; rfl
  rw [e]
  have HW_ := hid hw
  clear hw
  have E_ := hid e
  clear e
  have H2_ := hid h2
  clear h2
  have H3_ := hid h3
  clear h3
  go_enter Try.func22, Try.ntmps22
  go_wp2_with (go_at_call 29; refine HW_.out.c hr ho ?_; intro w' hC hr' ho')
  go_ret
  exact ⟨rfl, hC, hr', ho'⟩
theorem clear_fn (b : Nat) (m : Mach) : Mth Try.prog 21 b #[pt b] m (iteM (m.s == 2) (restM m 1) m) (.bool (m.s == 2)) := by
  intro w hr ho
  have hw := rest_fn b m 1
  generalize restM m 1 = m' at *
  obtain ⟨e, o, so, s, u⟩ := m
  dsimp only at hr hw ⊢
  by_cases h2 : s = 2
  · subst h2
    have HW_ := hid hw
    clear hw
    go_enter Try.func21, Try.ntmps21
    go_wp2_with (go_at_call 29; refine HW_.out.c hr ho ?_; intro w' hC hr' ho')
    go_ret
    exact ⟨rfl, hC, hr', ho'⟩
  have b2 : (s == 2) = false := by simpa using h2
  have e : (s == 2) = false := b2
  rw [e]
  clear hw e h2
  go_enter Try.func21, Try.ntmps21
  go_wp2
  go_ret
  exact ⟨rfl, Chg.refl _ _, hr, ho⟩
theorem disable_fn (b : Nat) (m : Mach) : Mth Try.prog 23 b #[pt b] m (iteM (m.s != 3) (restM m 3) m) (.bool (m.s != 3)) := by
  intro w hr ho
  have hw := rest_fn b m 3
  generalize restM m 3 = m' at *
  obtain ⟨e, o, so, s, u⟩ := m
  dsimp only at hr hw ⊢
  by_cases h2 : s = 3
  · subst h2
    clear hw
    go_enter Try.func23, Try.ntmps23
    go_wp2
    go_ret
    exact ⟨rfl, Chg.refl _ _, hr, ho⟩
  have b2 : (s != 3) = true := by simpa using h2
  rw [b2]
  have HW_ := hid hw
  clear hw
  clear h2
  go_enter Try.func23, Try.ntmps23
  go_wp2_with (go_at_call 29; refine HW_.out.c hr ho ?_; intro w' hC hr' ho')
  go_ret
  exact ⟨rfl, hC, hr', ho'⟩
theorem enable_fn (b : Nat) (m : Mach) : Mth Try.prog 24 b #[pt b] m (iteM (m.s == 3) (restM m 1) m) (.bool (m.s == 3)) := by
  intro w hr ho
  have hw := rest_fn b m 1
  generalize restM m 1 = m' at *
  obtain ⟨e, o, so, s, u⟩ := m
  dsimp only at hr hw ⊢
  by_cases h2 : s = 3
  · subst h2
    have HW_ := hid hw
    clear hw
    go_enter Try.func24, Try.ntmps24
    go_wp2_with (go_at_call 29; refine HW_.out.c hr ho ?_; intro w' hC hr' ho')
    go_ret
    exact ⟨rfl, hC, hr', ho'⟩
  have b2 : (s == 3) = false := by simpa using h2
  rw [b2]
  clear hw h2
  go_enter Try.func24, Try.ntmps24
  go_wp2
  go_ret
  exact ⟨rfl, Chg.refl _ _, hr, ho⟩
theorem swap_fn (b : Nat) (m : Mach) (x y : Int) : Mth Try.prog 30 b #[pt b, .int .i64 x, .int .i64 y] m (iteM (m.s == x) { m with s := y } m) (.bool (m.s == x)) := by
  intro w hr ho
  obtain ⟨e, o, so, s, u⟩ := m
  dsimp only at hr ⊢
  by_cases h : s = x
  · subst h
    have b1 : (s == s) = true := by simp
    rw [b1]
    go_enter Try.func30, Try.ntmps30
    go_wp2
    go_ret
    exact ⟨rfl, (Chg.refl (· = b) w).setCell (.inr rfl) _, by simp [row_setCell, hr, iteM], by simp [own_setCell, ho]⟩
  · have b1 : (s == x) = false := by simpa using h
    have b2 : (s != x) = true := by simpa using h
    rw [b1]
    clear h b1
    go_enter Try.func30, Try.ntmps30
    go_wp2
    go_ret
    exact ⟨rfl, Chg.refl _ _, hr, ho⟩
theorem lock_fn (b : Nat) (m : Mach) : Mth Try.prog 17 b #[pt b] m (iteM (m.s == 8) { m with s := 9 } m) (.bool (m.s == 8)) := by
  intro w hr ho
  have hw := swap_fn b m 8 9
  generalize iteM (m.s == 8) { m with s := 9 } m = m' at *
  generalize (m.s == 8) = v at *
  have HW_ := hid hw
  clear hw
  go_enter Try.func17, Try.ntmps17
  go_wp2_with (go_at_call 30; refine HW_.out.c hr ho ?_; intro w' hC hr' ho')
  go_ret
  exact ⟨rfl, hC, hr', ho'⟩
theorem unlock_fn (b : Nat) (m : Mach) : Mth Try.prog 37 b #[pt b] m (iteM (m.s == 9) { m with s := 8 } m) (.bool (m.s == 9)) := by
  intro w hr ho
  have hw := swap_fn b m 9 8
  generalize iteM (m.s == 9) { m with s := 8 } m = m' at *
  generalize (m.s == 9) = v at *
  have HW_ := hid hw
  clear hw
  go_enter Try.func37, Try.ntmps37
  go_wp2_with (go_at_call 30; refine HW_.out.c hr ho ?_; intro w' hC hr' ho')
  go_ret
  exact ⟨rfl, hC, hr', ho'⟩
theorem heard_fn (b : Nat) (m : Mach) (hm : m.ok) (n : Int) : Mth Try.prog 15 b #[pt b, .int .i64 n] m (iteM (hearsM m) (anewM m m.s n) m) (.tuple #[]) := by
  intro w hr ho
  have hw := anew_fn b m hm m.s n
  have hh := hears_fn b m
  clear hm
  generalize anewM m m.s n = m' at *
  generalize hearsM m = v at *
  have HW_ := hid hw
  clear hw
  have HH_ := hid hh
  clear hh
  cases v
  · go_enter Try.func15, Try.ntmps15
    go_wp2_with (go_at_call 27; refine HH_.out.c hr ?_)
    go_end0
    exact ⟨rfl, Chg.refl _ _, hr, ho⟩
  · go_enter Try.func15, Try.ntmps15
    go_wp2_with (first | (go_at_call 27; refine HH_.out.c hr ?_) | (go_at_call 25; refine HW_.out.c hr ho ?_; intro w2 hC2 hr2 ho2))
    go_end0
    exact ⟨rfl, hC2, hr2, ho2⟩
theorem listen_fn (b : Nat) (m : Mach) (hm : m.ok) (n : Int) : Mth Try.prog 43 b #[pt b, .int .i64 n] m (iteM (m.so && m.s != 4) (anewM m 4 n) m) (.bool m.so) := by
  intro w hr ho
  have hw := anew_fn b m hm 4 n
  have hso : (anewM m 4 n).so = m.so := rfl
  clear hm
  generalize anewM m 4 n = m' at *
  obtain ⟨e, o, so, s, u⟩ := m
  dsimp only at hr hw hso ⊢
  cases so
  · clear hw hso
    go_enter Try.func43, Try.ntmps43
    go_wp2
    go_ret
    exact ⟨rfl, Chg.refl _ _, hr, ho⟩
  by_cases h : s = 4
  · subst h
    clear hw hso
    go_enter Try.func43, Try.ntmps43
    go_wp2
    go_ret
    exact ⟨rfl, Chg.refl _ _, hr, ho⟩
  have b2 : (s != 4) = true := by simpa using h
  rw [b2]
  clear h
  obtain ⟨e', o', so', s', u'⟩ := m'
  dsimp only at hso hw
  subst hso
  have HW_ := hid hw
  clear hw
  go_enter Try.func43, Try.ntmps43
  go_wp2_with (go_at_call 25; refine HW_.out.c hr ho ?_; intro w' hC hr' ho')
  go_ret
  exact ⟨rfl, hC, hr', ho'⟩
end Go.Proofs.Ytlbdinckbbaknaa
