/-
  The walks of package port: codes, Decide, Tick. No condition but that the machine is one.
-/
import Derived.Test.YtlbdinckbbaknaaPoD
import Derived.MapKept
namespace Go.Proofs.Ytlbdinckbbaknaa
open Go.RowKit

theorem decM_lead {m : Mach} {c p n : Int} {sm : Bool} (hs : 4 ≤ m.s) (h1 : 1 ≤ c) (h2 : c ≤ 3) : decM m c p n sm = leadM m c p n := by
  unfold decM leadM iteM waitM
  rw [if_neg (by omega), if_neg (by omega), if_neg (by omega)]
  by_cases h6 : m.s = 6
  · rw [if_pos ⟨by omega, .inr h6⟩, if_pos h6]
  by_cases h5 : m.s = 5
  · rw [if_pos ⟨by omega, .inl h5⟩, if_neg h6, if_pos h5]
  rw [if_neg (by omega), if_neg h6, if_neg h5]
  cases hso : m.so with
  | true =>
    by_cases h4 : m.s = 4
    · simp [h4]
    · simp [h4]
  | false => simp [show ¬ 4 < c by omega]
theorem decM_follow {m : Mach} {p n : Int} {sm : Bool} (hs : 4 ≤ m.s) : decM m 4 p n sm = followM m n sm := by
  unfold decM followM
  rw [if_neg (by omega), if_pos rfl]
  cases sm <;> simp [or_comm]
theorem decM_pass {m : Mach} {c p n : Int} {sm : Bool} (hs : 4 ≤ m.s) (h1 : 5 ≤ c) (h2 : c ≤ 6) : decM m c p n sm = passM m n := by
  unfold decM passM iteM
  rw [if_neg (by omega), if_neg (by omega)]
  by_cases h7 : m.s = 7
  · rw [if_pos ⟨by omega, h7⟩, if_pos h7]
  rw [if_neg (by omega), if_neg (by omega), if_neg h7]
  cases hso : m.so with
  | true =>
    by_cases h4 : m.s = 4
    · simp [h4]
    · simp [h4]
  | false => simp [show 4 < c by omega]
abbrev fv (f : Nat) : Value := .func (.func f) #[] #[]
abbrev en (k : Int) (f : Nat) (n : Nat) : MapEntry := { key := .int .i64 k, val := fv f, born := n }
def codesE : Array MapEntry := #[en 1 39 0, en 2 39 1, en 3 39 2, en 5 40 3, en 6 40 4, en 4 41 5]
theorem alloc_put (w : World) (o o' : Obj) : ({ (w.alloc o) with heap := (w.alloc o).heap.setIfInBounds w.heap.size o' } : World) = w.alloc o' := by
  have e : (w.heap.push o).setIfInBounds w.heap.size o' = w.heap.push o' := by
    apply Array.ext_getElem?
    intro i
    simp only [Array.getElem?_setIfInBounds, Array.getElem?_push, Array.size_push]
    by_cases h : w.heap.size = i
    · subst h; simp
    · simp [h, Ne.symm h]
  show ({ w with heap := (w.heap.push o).setIfInBounds w.heap.size o' } : World) = { w with heap := w.heap.push o' }
  rw [e]
theorem new_map (w : World) (es : Array MapEntry) (c : Nat) : (w.alloc (.map es c)).heap[w.heap.size]? = some (.map es c) := by
  show (w.heap.push _)[w.heap.size]? = _
  simp
theorem keyI (k : Int) : Go.MapKept.IsKey (.int .i64) (.int .i64 k) := rfl
theorem run_ins {P : Program} {t kt et : TypeId} (ht : P.underlying t = some (.map kt et)) (hk : P.underlying kt = some (.int .i64)) (w : World) (es : Array MapEntry) (c : Nat) (k : Int) (v : Value)
    (hf : Instr.findNow (.int .i64) (.int .i64 k) es.toList 0 = some none) :
    (Instr.mapUpdate t (.map (some w.heap.size)) (.int .i64 k) v).run P (w.alloc (.map es c)) = .ok () (w.alloc (.map (es.push { key := .int .i64 k, val := v, born := c }) (c + 1))) := by
  unfold Instr.mapUpdate
  simp only [Sem.run_bind, run_underlying ht, Result.andThen_ok, Go.MapKept.run_getObj_map (new_map w es c), Go.MapKept.run_checkKey hk (keyI k), Go.MapKept.run_findKey hk hf, Go.MapKept.run_setObj_map _ (new_map w es c), alloc_put]
theorem run_look {P : Program} {t kt et : TypeId} (ht : P.underlying t = some (.map kt et)) (hk : P.underlying kt = some (.int .i64)) (w : World) (es : Array MapEntry) (c : Nat) (k : Int) (i : Nat) (v : Value)
    (hf : Instr.findNow (.int .i64) (.int .i64 k) es.toList 0 = some (some (i, v))) :
    (Instr.lookup t (.map (some w.heap.size)) (.int .i64 k) true).run P (w.alloc (.map es c)) = .ok (.tuple #[v, .bool true]) (w.alloc (.map es c)) := by
  unfold Instr.lookup
  simp [Sem.run_bind, run_underlying ht, Go.MapKept.run_getObj_map (new_map w es c), Go.MapKept.run_checkKey hk (keyI k), Go.MapKept.run_findKey hk hf]
theorem run_look_no {P : Program} {t kt et : TypeId} {z : Value} (ht : P.underlying t = some (.map kt et)) (hk : P.underlying kt = some (.int .i64)) (hz : ∀ w, (zeroValue et).run P w = .ok z w) (w : World) (es : Array MapEntry) (c : Nat) (k : Int)
    (hf : Instr.findNow (.int .i64) (.int .i64 k) es.toList 0 = some none) :
    (Instr.lookup t (.map (some w.heap.size)) (.int .i64 k) true).run P (w.alloc (.map es c)) = .ok (.tuple #[z, .bool false]) (w.alloc (.map es c)) := by
  unfold Instr.lookup
  simp [Sem.run_bind, run_underlying ht, Go.MapKept.run_getObj_map (new_map w es c), Go.MapKept.run_checkKey hk (keyI k), Go.MapKept.run_findKey hk hf, hz]
theorem zeroF (w : World) : (zeroValue 53).run Try.prog w = .ok Value.nilFunc w := by kernel_rfl
theorem codes_fn (w : World) : Calls Try.prog 26 #[] w fun e w' => e = .returned (.map (some w.heap.size)) ∧ w.alloc (.map codesE 6) = w' := by
  have hmm := @run_makeMap Try.prog
  have i0 := run_ins (P := Try.prog) Try.underlying55 Try.underlying3 w #[] 0 1 (fv 39) rfl
  have i1 := run_ins (P := Try.prog) Try.underlying55 Try.underlying3 w #[en 1 39 0] 1 2 (fv 39) rfl
  have i2 := run_ins (P := Try.prog) Try.underlying55 Try.underlying3 w #[en 1 39 0, en 2 39 1] 2 3 (fv 39) rfl
  have i3 := run_ins (P := Try.prog) Try.underlying55 Try.underlying3 w #[en 1 39 0, en 2 39 1, en 3 39 2] 3 5 (fv 40) rfl
  have i4 := run_ins (P := Try.prog) Try.underlying55 Try.underlying3 w #[en 1 39 0, en 2 39 1, en 3 39 2, en 5 40 3] 4 6 (fv 40) rfl
  have i5 := run_ins (P := Try.prog) Try.underlying55 Try.underlying3 w #[en 1 39 0, en 2 39 1, en 3 39 2, en 5 40 3, en 6 40 4] 5 4 (fv 41) rfl
  go_enter Try.func26, Try.ntmps26
  go_wp2
  go_ret
  exact ⟨rfl, rfl⟩
def kindF (c : Int) : Nat := if c ≤ 3 then 39 else if c = 4 then 41 else 40
theorem look_yes (c : Int) (h1 : 1 ≤ c) (h2 : c ≤ 6) (w : World) : (Instr.lookup 55 (.map (some w.heap.size)) (.int .i64 c) true).run Try.prog (w.alloc (.map codesE 6)) = .ok (.tuple #[fv (kindF c), .bool true]) (w.alloc (.map codesE 6)) := by
  have h : c = 1 ∨ c = 2 ∨ c = 3 ∨ c = 4 ∨ c = 5 ∨ c = 6 := by omega
  rcases h with rfl | rfl | rfl | rfl | rfl | rfl
  · exact run_look Try.underlying55 Try.underlying3 w codesE 6 1 0 (fv 39) rfl
  · exact run_look Try.underlying55 Try.underlying3 w codesE 6 2 1 (fv 39) rfl
  · exact run_look Try.underlying55 Try.underlying3 w codesE 6 3 2 (fv 39) rfl
  · exact run_look Try.underlying55 Try.underlying3 w codesE 6 4 5 (fv 41) rfl
  · exact run_look Try.underlying55 Try.underlying3 w codesE 6 5 3 (fv 40) rfl
  · exact run_look Try.underlying55 Try.underlying3 w codesE 6 6 4 (fv 40) rfl
theorem look_no (c : Int) (h : c < 1 ∨ 6 < c) (w : World) : (Instr.lookup 55 (.map (some w.heap.size)) (.int .i64 c) true).run Try.prog (w.alloc (.map codesE 6)) = .ok (.tuple #[.nilFunc, .bool false]) (w.alloc (.map codesE 6)) := by
  refine run_look_no Try.underlying55 Try.underlying3 zeroF w codesE 6 c ?_
  have e : ∀ k : Int, 1 ≤ k → k ≤ 6 → (c == k) = false := fun k a b => by simp; omega
  simp [codesE, Instr.findNow, Instr.sameNow, e 1 (by omega) (by omega), e 2 (by omega) (by omega), e 3 (by omega) (by omega), e 4 (by omega) (by omega), e 5 (by omega) (by omega), e 6 (by omega) (by omega)]
@[go_sem] theorem bldO (w : World) (c p n : Int) (sm : Bool) : (bld 58 #[(0, .int .i64 c), (1, .int .i64 p), (2, .int .i64 n), (3, .bool sm)]).run Try.prog w = .ok (.agg (ora c p n sm)) w := run_bld w (by kernel_rfl)
set_option maxHeartbeats 1000000 in
theorem decide_fn (b : Nat) (m : Mach) (hm : m.ok) (c p n : Int) (sm : Bool) : Mth Try.prog 12 b #[pt b, .int .i64 c, .int .i64 p, .int .i64 n, .bool sm] m (decM m c p n sm) (.tuple #[]) := by
  intro w hr ho
  have hr1 := fun o => alloc_mac (o := o) (by simp) hr
  have ho1 := fun o => alloc_own (o := o) ho
  have hlt : b < w.heap.size := row_lt (by rw [hr]; simp)
  have hne : ¬ b = w.heap.size := by omega
  clear hlt
  by_cases hc : c < 1 ∨ 6 < c
  · have e : decM m c p n sm = m := by unfold decM; rw [if_pos (by omega)]
    rw [e]
    have lk := look_no c hc w
    clear e hc hm
    have HR1_ := hid hr1
    clear hr1
    have HO1_ := hid ho1
    clear ho1
    go_enter Try.func12, Try.ntmps12
    go_wp2_with (go_at_call 26; refine (codes_fn _).mono ?_; rintro e w' ⟨rfl, rfl⟩)
    refine bodyPost_ret (results_none rfl _ _ _) rfl ?_
    exact ⟨rfl, (Chg.refl _ _).alloc _, HR1_.out _, HO1_.out _⟩
  have lk := look_yes c (by omega) (by omega) w
  by_cases hs : m.s < 4
  · have e : decM m c p n sm = m := by unfold decM; rw [if_pos (.inl hs)]
    rw [e]
    have h := hm.s1
    have hs3 : m.s = 1 ∨ m.s = 2 ∨ m.s = 3 := by omega
    obtain ⟨e', o, so, s, u⟩ := m
    dsimp only at hr hs3
    clear e hc hm h hs
    generalize fv (kindF c) = v at *
    have HR1_ := hid hr1
    clear hr1
    have HO1_ := hid ho1
    clear ho1
    rcases hs3 with rfl | rfl | rfl
    · go_enter Try.func12, Try.ntmps12
      go_wp2_with (go_at_call 26; refine (codes_fn _).mono ?_; rintro e w' ⟨rfl, rfl⟩)
      refine bodyPost_ret (results_none rfl _ _ _) rfl ?_
      exact ⟨rfl, (Chg.refl _ _).alloc _, HR1_.out _, HO1_.out _⟩
    · go_enter Try.func12, Try.ntmps12
      go_wp2_with (go_at_call 26; refine (codes_fn _).mono ?_; rintro e w' ⟨rfl, rfl⟩)
      refine bodyPost_ret (results_none rfl _ _ _) rfl ?_
      exact ⟨rfl, (Chg.refl _ _).alloc _, HR1_.out _, HO1_.out _⟩
    · go_enter Try.func12, Try.ntmps12
      go_wp2_with (go_at_call 26; refine (codes_fn _).mono ?_; rintro e w' ⟨rfl, rfl⟩)
      refine bodyPost_ret (results_none rfl _ _ _) rfl ?_
      exact ⟨rfl, (Chg.refl _ _).alloc _, HR1_.out _, HO1_.out _⟩
  have b1 : (m.s == 1) = false := by simp; omega
  have b2 : (m.s == 2) = false := by simp; omega
  have b3 : (m.s == 3) = false := by simp; omega
  have hk : kindF c = 39 ∧ c ≤ 3 ∨ kindF c = 41 ∧ c = 4 ∨ kindF c = 40 ∧ 5 ≤ c := by unfold kindF; split; exact .inl ⟨rfl, by omega⟩; split; exact .inr (.inl ⟨rfl, by omega⟩); exact .inr (.inr ⟨rfl, by omega⟩)
  rcases hk with ⟨ek, h⟩ | ⟨ek, rfl⟩ | ⟨ek, h⟩
  · rw [ek] at lk
    rw [decM_lead (by omega) (by omega) h]
    have hw := lead_fn b m hm c p n sm
    generalize leadM m c p n = m' at *
    obtain ⟨e', o, so, s, u⟩ := m
    dsimp only at hr b1 b2 b3
    clear ek hc hm h hs
    have HR1_ := hid hr1
    clear hr1
    have HO1_ := hid ho1
    clear ho1
    have HW_ := hid hw
    clear hw
    go_enter Try.func12, Try.ntmps12
    go_wp2_with (first | (go_at_call 26; refine (codes_fn _).mono ?_; rintro e w' ⟨rfl, rfl⟩) | (go_at_call 39; refine HW_.out.c (HR1_.out _) (HO1_.out _) ?_; intro w' hC hr' ho'))
    go_end0
    exact ⟨rfl, ((Chg.refl _ w).alloc _).trans hC, hr', ho'⟩
  · rw [ek] at lk
    rw [decM_follow (by omega)]
    have hw := follow_fn b m hm 4 p n sm
    generalize followM m n sm = m' at *
    obtain ⟨e', o, so, s, u⟩ := m
    dsimp only at hr b1 b2 b3
    clear ek hc hm hs
    have HR1_ := hid hr1
    clear hr1
    have HO1_ := hid ho1
    clear ho1
    have HW_ := hid hw
    clear hw
    go_enter Try.func12, Try.ntmps12
    go_wp2_with (first | (go_at_call 26; refine (codes_fn _).mono ?_; rintro e w' ⟨rfl, rfl⟩) | (go_at_call 41; refine HW_.out.c (HR1_.out _) (HO1_.out _) ?_; intro w' hC hr' ho'))
    go_end0
    exact ⟨rfl, ((Chg.refl _ w).alloc _).trans hC, hr', ho'⟩
  · rw [ek] at lk
    rw [decM_pass (by omega) h (by omega)]
    have hw := pass_fn b m hm c p n sm
    generalize passM m n = m' at *
    obtain ⟨e', o, so, s, u⟩ := m
    dsimp only at hr b1 b2 b3
    clear ek hc hm h hs
    have HR1_ := hid hr1
    clear hr1
    have HO1_ := hid ho1
    clear ho1
    have HW_ := hid hw
    clear hw
    go_enter Try.func12, Try.ntmps12
    go_wp2_with (first | (go_at_call 26; refine (codes_fn _).mono ?_; rintro e w' ⟨rfl, rfl⟩) | (go_at_call 40; refine HW_.out.c (HR1_.out _) (HO1_.out _) ?_; intro w' hC hr' ho'))
    go_end0
    exact ⟨rfl, ((Chg.refl _ w).alloc _).trans hC, hr', ho'⟩
theorem tick_fn (b : Nat) (m : Mach) (hm : m.ok) (n : Int) : Mth Try.prog 16 b #[pt b, .int .i64 n] m (tickM m n).1 (.int .i64 (tickM m n).2) := by
  refine Mth.of_gr fun W hr ho => ?_
  have tf := (time_fn n).fn
  have hh := hears_fn b m
  have hrs := rest_fn b m 6
  have han := anew_fn b m hm 4 n
  have e : tickM m n = if (m.s ≠ 5 ∧ hearsM m = false) ∨ tmI n < m.u then (m, 0) else if m.s = 5 then (restM m 6, 1) else if m.so = true then (anewM m 4 n, 2) else (restM m 6, 2) := rfl
  generalize tickM m n = r at *
  generalize hearsM m = hv at *
  generalize tmI n = t at *
  generalize restM m 6 = mr at *
  generalize anewM m 4 n = ma at *
  obtain ⟨e', o, so, s, u⟩ := m
  dsimp only at e hr
  clear hm
  have TF_ := hid tf
  clear tf
  have HH_ := hid hh
  clear hh
  have HRS_ := hid hrs
  clear hrs
  have HAN_ := hid han
  clear han
  by_cases h5 : s = 5
  · subst h5
    by_cases hu : t < u
    · rw [if_pos (.inr hu)] at e
      subst e
      have hd : decide (t < u) = true := by simpa using hu
      go_enter Try.func16, Try.ntmps16
      go_wp2_with fail
      refine wp_region_gr W (by kernel_rfl) (by kernel_rfl) ⟨_, rfl⟩ ?_
      repeat (go_big_quiet_step ((go_at_call 28; exact TF_.out.q)))
      refine wpQuiet_nil ?_
      rintro _ ⟨y, rfl⟩
      go_wp2
      go_ret
      exact ⟨rfl, .of_below (gr_below W y), hr y, ho y⟩
    · rw [if_neg (by simp; omega), if_pos rfl] at e
      subst e
      have hu2 : u ≤ t := by omega
      go_enter Try.func16, Try.ntmps16
      go_wp2_with fail
      refine wp_region_gr W (by kernel_rfl) (by kernel_rfl) ⟨_, rfl⟩ ?_
      repeat (go_big_quiet_step ((go_at_call 28; exact TF_.out.q)))
      refine wpQuiet_nil ?_
      rintro _ ⟨y, rfl⟩
      go_wp2_with (go_at_call 29; refine HRS_.out.c (hr y) (ho y) ?_; intro w' hC hr' ho')
      go_ret
      exact ⟨rfl, (Chg.of_below (gr_below W y)).trans hC, hr', ho'⟩
  have b5 : (s == 5) = false := by simpa using h5
  cases hv with
  | false =>
    rw [if_pos (.inl ⟨h5, rfl⟩)] at e
    subst e
    clear h5
    go_enter Try.func16, Try.ntmps16
    go_wp2_with (go_at_call 27; refine HH_.out.c (hr _) ?_)
    refine wp_region_gr W (by kernel_rfl) (by kernel_rfl) ⟨_, rfl⟩ ?_
    repeat (go_big_quiet_step ((go_at_call 28; exact TF_.out.q)))
    refine wpQuiet_nil ?_
    rintro _ ⟨y, rfl⟩
    go_wp2
    go_ret
    exact ⟨rfl, .of_below (gr_below W y), hr y, ho y⟩
  | true =>
    by_cases hu : t < u
    · rw [if_pos (.inr hu)] at e
      subst e
      have hd : decide (t < u) = true := by simpa using hu
      clear h5
      go_enter Try.func16, Try.ntmps16
      go_wp2_with (go_at_call 27; refine HH_.out.c (hr _) ?_)
      refine wp_region_gr W (by kernel_rfl) (by kernel_rfl) ⟨_, rfl⟩ ?_
      repeat (go_big_quiet_step ((go_at_call 28; exact TF_.out.q)))
      refine wpQuiet_nil ?_
      rintro _ ⟨y, rfl⟩
      go_wp2
      go_ret
      exact ⟨rfl, .of_below (gr_below W y), hr y, ho y⟩
    · rw [if_neg (by simp; omega), if_neg h5] at e
      have hu2 : u ≤ t := by omega
      clear h5 hu
      cases so with
      | true =>
        rw [if_pos rfl] at e
        subst e
        go_enter Try.func16, Try.ntmps16
        go_wp2_with (go_at_call 27; refine HH_.out.c (hr _) ?_)
        refine wp_region_gr W (by kernel_rfl) (by kernel_rfl) ⟨_, rfl⟩ ?_
        repeat (go_big_quiet_step ((go_at_call 28; exact TF_.out.q)))
        refine wpQuiet_nil ?_
        rintro _ ⟨y, rfl⟩
        go_wp2_with (go_at_call 25; refine HAN_.out.c (hr y) (ho y) ?_; intro w' hC hr' ho')
        go_ret
        exact ⟨rfl, (Chg.of_below (gr_below W y)).trans hC, hr', ho'⟩
      | false =>
        rw [if_neg (by simp)] at e
        subst e
        go_enter Try.func16, Try.ntmps16
        go_wp2_with (go_at_call 27; refine HH_.out.c (hr _) ?_)
        refine wp_region_gr W (by kernel_rfl) (by kernel_rfl) ⟨_, rfl⟩ ?_
        repeat (go_big_quiet_step ((go_at_call 28; exact TF_.out.q)))
        refine wpQuiet_nil ?_
        rintro _ ⟨y, rfl⟩
        go_wp2_with (go_at_call 29; refine HRS_.out.c (hr y) (ho y) ?_; intro w' hC hr' ho')
        go_ret
        exact ⟨rfl, (Chg.of_below (gr_below W y)).trans hC, hr', ho'⟩
end Go.Proofs.Ytlbdinckbbaknaa
