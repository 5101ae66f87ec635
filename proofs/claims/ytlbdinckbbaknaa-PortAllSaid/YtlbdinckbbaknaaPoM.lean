/-
  The walks of the reference's Tick, Decide, Do. No condition but that the machine is one.
-/
import Derived.Test.YtlbdinckbbaknaaPoL
namespace Go.Proofs.Ytlbdinckbbaknaa
open Go.RowKit

set_option maxHeartbeats 1000000 in
theorem rtick_fn (m : Mach) (hm : m.ok) (n : Int) : Fn Try.prog 35 #[.agg (mc m), .int .i64 n] (.tuple #[.agg (mc (tickM m n).1), .int .i64 (tickM m n).2]) := by
  intro w
  have tf := (rtime_fn n).fn
  have hh := rhears_fn m
  have hrs := rrest_fn m 6
  have han := ranew_fn m hm 4 n
  have e : tickM m n = if (m.s ≠ 5 ∧ hearsM m = false) ∨ tmI n < m.u then (m, 0) else if m.s = 5 then (restM m 6, 1) else if m.so = true then (anewM m 4 n, 2) else (restM m 6, 2) := rfl
  generalize tickM m n = r at *
  generalize hearsM m = hv at *
  generalize tmI n = t at *
  generalize restM m 6 = mr at *
  generalize anewM m 4 n = ma at *
  obtain ⟨e', o, so, s, u⟩ := m
  dsimp only at e hh hrs han ⊢
  clear hm
  have TF_ := hid tf
  clear tf
  have HH_ := hid hh
  clear hh
  have HRS_ := hid hrs
  clear hrs
  have HAN_ := hid han
  clear han
  by_cases h5 : s = 5
  · subst h5
    by_cases hu : t < u
    · rw [if_pos (.inr hu)] at e
      subst e
      have hd : decide (t < u) = true := by simpa using hu
      go_enter Try.func35, Try.ntmps35
      go_wp2_with fail
      refine cut_box2 fun W g1 o1 g2 o2 hz hB => ?_
      refine wp_region_gr W (by kernel_rfl) (by kernel_rfl) ⟨_, rfl⟩ ?_
      repeat (go_big_quiet_step ((first | (go_at_call 42; exact TF_.out.q) | (go_at_call 33; exact HH_.out.q))))
      refine wpQuiet_nil ?_
      rintro _ ⟨y, rfl⟩
      go_wp2
      refine post_ct (p := 4) (u := 5) rfl agg39 siz39 (w.heap.size + 1) (mc ⟨e', o, _, _, u⟩) (.int .i64 0) rfl rfl rfl ?_ (by simp) ⟨rfl, ?_⟩
      · simp [row_setRow, g2]
      · exact below_setRow (hB _) (by omega) _
    · rw [if_neg (by simp; omega), if_pos rfl] at e
      subst e
      have hu2 : u ≤ t := by omega
      have hd : decide (t < u) = false := by simpa using hu2
      go_enter Try.func35, Try.ntmps35
      go_wp2_with fail
      refine cut_box2 fun W g1 o1 g2 o2 hz hB => ?_
      refine wp_region_gr W (by kernel_rfl) (by kernel_rfl) ⟨_, rfl⟩ ?_
      repeat (go_big_quiet_step ((first | (go_at_call 42; exact TF_.out.q) | (go_at_call 33; exact HH_.out.q))))
      refine wpQuiet_nil ?_
      rintro _ ⟨y, rfl⟩
      go_wp2_with fail
      refine HRS_.out.c fun m => ?_
      dsimp only
      go_wp2
      refine post_ct (p := 4) (u := 5) rfl agg39 siz39 (w.heap.size + 1) (mc mr) (.int .i64 1) rfl rfl rfl ?_ (by simp) ⟨rfl, ?_⟩
      · simp [row_setRow, g2]
      · exact below_setRow (hB _) (by omega) _
  have b5 : (s != 5) = true := by simpa using h5
  have c5 : (s == 5) = false := by simpa using h5
  cases hv with
  | false =>
    rw [if_pos (.inl ⟨h5, rfl⟩)] at e
    subst e
    clear h5
    go_enter Try.func35, Try.ntmps35
    go_wp2_with fail
    refine cut_box2 fun W g1 o1 g2 o2 hz hB => ?_
    refine wp_region_gr W (by kernel_rfl) (by kernel_rfl) ⟨_, rfl⟩ ?_
    repeat (go_big_quiet_step ((first | (go_at_call 42; exact TF_.out.q) | (go_at_call 33; exact HH_.out.q))))
    refine wpQuiet_nil ?_
    rintro _ ⟨y, rfl⟩
    go_wp2
    refine post_ct (p := 4) (u := 5) rfl agg39 siz39 (w.heap.size + 1) (mc ⟨e', o, _, _, u⟩) (.int .i64 0) rfl rfl rfl ?_ (by simp) ⟨rfl, ?_⟩
    · simp [row_setRow, g2]
    · exact below_setRow (hB _) (by omega) _
  | true =>
    by_cases hu : t < u
    · rw [if_pos (.inr hu)] at e
      subst e
      have hd : decide (t < u) = true := by simpa using hu
      clear h5
      go_enter Try.func35, Try.ntmps35
      go_wp2_with fail
      refine cut_box2 fun W g1 o1 g2 o2 hz hB => ?_
      refine wp_region_gr W (by kernel_rfl) (by kernel_rfl) ⟨_, rfl⟩ ?_
      repeat (go_big_quiet_step ((first | (go_at_call 42; exact TF_.out.q) | (go_at_call 33; exact HH_.out.q))))
      refine wpQuiet_nil ?_
      rintro _ ⟨y, rfl⟩
      go_wp2
      refine post_ct (p := 4) (u := 5) rfl agg39 siz39 (w.heap.size + 1) (mc ⟨e', o, _, _, u⟩) (.int .i64 0) rfl rfl rfl ?_ (by simp) ⟨rfl, ?_⟩
      · simp [row_setRow, g2]
      · exact below_setRow (hB _) (by omega) _
    · rw [if_neg (by simp; omega), if_neg h5] at e
      have hu2 : u ≤ t := by omega
      have hd : decide (t < u) = false := by simpa using hu2
      clear h5 hu
      cases so with
      | true =>
        rw [if_pos rfl] at e
        subst e
        go_enter Try.func35, Try.ntmps35
        go_wp2_with fail
        refine cut_box2 fun W g1 o1 g2 o2 hz hB => ?_
        refine wp_region_gr W (by kernel_rfl) (by kernel_rfl) ⟨_, rfl⟩ ?_
        repeat (go_big_quiet_step ((first | (go_at_call 42; exact TF_.out.q) | (go_at_call 33; exact HH_.out.q))))
        refine wpQuiet_nil ?_
        rintro _ ⟨y, rfl⟩
        go_wp2_with fail
        refine HAN_.out.c fun m => ?_
        dsimp only
        go_wp2
        refine post_ct (p := 4) (u := 5) rfl agg39 siz39 (w.heap.size + 1) (mc ma) (.int .i64 2) rfl rfl rfl ?_ (by simp) ⟨rfl, ?_⟩
        · simp [row_setRow, g2]
        · exact below_setRow (hB _) (by omega) _
      | false =>
        rw [if_neg (by simp)] at e
        subst e
        go_enter Try.func35, Try.ntmps35
        go_wp2_with fail
        refine cut_box2 fun W g1 o1 g2 o2 hz hB => ?_
        refine wp_region_gr W (by kernel_rfl) (by kernel_rfl) ⟨_, rfl⟩ ?_
        repeat (go_big_quiet_step ((first | (go_at_call 42; exact TF_.out.q) | (go_at_call 33; exact HH_.out.q))))
        refine wpQuiet_nil ?_
        rintro _ ⟨y, rfl⟩
        go_wp2_with fail
        refine HRS_.out.c fun m => ?_
        dsimp only
        go_wp2
        refine post_ct (p := 4) (u := 5) rfl agg39 siz39 (w.heap.size + 1) (mc mr) (.int .i64 2) rfl rfl rfl ?_ (by simp) ⟨rfl, ?_⟩
        · simp [row_setRow, g2]
        · exact below_setRow (hB _) (by omega) _
end Go.Proofs.Ytlbdinckbbaknaa
