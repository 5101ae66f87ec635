/-
  The walk of the reference's Do. No condition but that the machine is one.
-/
import Derived.Test.YtlbdinckbbaknaaPoN
namespace Go.Proofs.Ytlbdinckbbaknaa
open Go.RowKit

set_option maxRecDepth 100000 in
set_option maxHeartbeats 4000000 in
theorem rdo_fn (m : Mach) (hm : m.ok) (x : Opp) : Fn Try.prog 19 #[.agg (mc m), .agg (oa x)] (.tuple #[.agg (mc (doM m x).1), .int .i64 (doM m x).2]) := by
  intro w
  by_cases h0 : x.k = 0
  · rw [do_0 m x h0]
    dsimp only
    have hw := ranew_fn m hm 4 x.n
    by_cases hs : m.s = 1
    · have e : (m.s == 1) = true := by simp [hs]
      rw [e]
      unfold iteM bI
      rw [if_pos rfl, if_pos rfl]
      clear e
      generalize anewM m 4 x.n = ma at *
      obtain ⟨k, c, p, n, sm⟩ := x
      obtain ⟨e', o, so, s, u⟩ := m
      dsimp only at *
      subst h0
      subst hs
      clear hm
      have HW_ := hid hw
      clear hw
      go_enter Try.func19, Try.ntmps19
      go_wp2_with fail
      refine cutc_box3 fun W g1 o1 g2 o2 g3 o3 hz hB => ?_
      refine HW_.out.c fun m => ?_
      dsimp only
      go_wp2
      refine post_ct (p := 4) (u := 5) rfl agg39 siz39 (w.heap.size + 2) (mc ma) (.int .i64 1) rfl rfl rfl ?_ (by simp) ⟨rfl, ?_⟩
      · simp [row_setRow, g3]
      · exact below_setRow (hB _) (by omega) _
    · have e : (m.s == 1) = false := by simp [hs]
      rw [e]
      unfold iteM bI
      rw [if_neg (by simp), if_neg (by simp)]
      clear e
      obtain ⟨k, c, p, n, sm⟩ := x
      obtain ⟨e', o, so, s, u⟩ := m
      dsimp only at *
      subst h0
      have b1 : (s == 1) = false := by simpa using hs
      clear hs
      clear hm hw
      go_enter Try.func19, Try.ntmps19
      go_wp2
      refine post_ct (p := 4) (u := 5) rfl agg39 siz39 (w.heap.size + 2) (mc ⟨e', o, so, s, u⟩) (.int .i64 0) rfl rfl rfl ?_ (by simp) ⟨rfl, ?_⟩
      · simp [row_setRow, row_alloc, rowOf]
      · exact below_setRow ((((Below.refl _ _).alloc (Nat.le_refl _) _).alloc (by simp) _).alloc (by simp; omega) _) (by omega) _
  by_cases h1 : x.k = 1
  · rw [do_1 m x h1]
    dsimp only
    have hw := rrest_fn m 2
    by_cases hs : m.s = 2 ∨ m.s = 3
    · have e : (m.s != 2 && m.s != 3) = false := by rcases hs with h | h <;> simp [h]
      rw [e]
      unfold iteM bI
      rw [if_neg (by simp), if_neg (by simp)]
      clear e hw
      obtain ⟨k, c, p, n, sm⟩ := x
      obtain ⟨e', o, so, s, u⟩ := m
      dsimp only at *
      subst h1
      clear hm
      rcases hs with rfl | rfl
      · go_enter Try.func19, Try.ntmps19
        go_wp2
        refine post_ct (p := 4) (u := 5) rfl agg39 siz39 (w.heap.size + 2) (mc ⟨e', o, so, 2, u⟩) (.int .i64 0) rfl rfl rfl ?_ (by simp) ⟨rfl, ?_⟩
        · simp [row_setRow, row_alloc, rowOf]
        · exact below_setRow ((((Below.refl _ _).alloc (Nat.le_refl _) _).alloc (by simp) _).alloc (by simp; omega) _) (by omega) _
      · go_enter Try.func19, Try.ntmps19
        go_wp2
        refine post_ct (p := 4) (u := 5) rfl agg39 siz39 (w.heap.size + 2) (mc ⟨e', o, so, 3, u⟩) (.int .i64 0) rfl rfl rfl ?_ (by simp) ⟨rfl, ?_⟩
        · simp [row_setRow, row_alloc, rowOf]
        · exact below_setRow ((((Below.refl _ _).alloc (Nat.le_refl _) _).alloc (by simp) _).alloc (by simp; omega) _) (by omega) _
    · have e : (m.s != 2 && m.s != 3) = true := by simp; omega
      rw [e]
      unfold iteM bI
      rw [if_pos rfl, if_pos rfl]
      clear e
      generalize restM m 2 = ma at *
      obtain ⟨k, c, p, n, sm⟩ := x
      obtain ⟨e', o, so, s, u⟩ := m
      dsimp only at *
      subst h1
      have b2 : (s != 2) = true := by simp; omega
      have b3 : (s != 3) = true := by simp; omega
      clear hm hs
      have HW_ := hid hw
      clear hw
      go_enter Try.func19, Try.ntmps19
      go_wp2_with fail
      refine cutc_box3 fun W g1 o1 g2 o2 g3 o3 hz hB => ?_
      refine HW_.out.c fun m => ?_
      dsimp only
      go_wp2
      refine post_ct (p := 4) (u := 5) rfl agg39 siz39 (w.heap.size + 2) (mc ma) (.int .i64 1) rfl rfl rfl ?_ (by simp) ⟨rfl, ?_⟩
      · simp [row_setRow, g3]
      · exact below_setRow (hB _) (by omega) _
  by_cases h2 : x.k = 2
  · rw [do_2 m x h2]
    dsimp only
    have hw := rrest_fn m 1
    by_cases hs : m.s = 2
    · have e : (m.s == 2) = true := by simp [hs]
      rw [e]
      unfold iteM bI
      rw [if_pos rfl, if_pos rfl]
      clear e
      generalize restM m 1 = ma at *
      obtain ⟨k, c, p, n, sm⟩ := x
      obtain ⟨e', o, so, s, u⟩ := m
      dsimp only at *
      subst h2
      subst hs
      clear hm
      have HW_ := hid hw
      clear hw
      go_enter Try.func19, Try.ntmps19
      go_wp2_with fail
      refine cutc_box3 fun W g1 o1 g2 o2 g3 o3 hz hB => ?_
      refine HW_.out.c fun m => ?_
      dsimp only
      go_wp2
      refine post_ct (p := 4) (u := 5) rfl agg39 siz39 (w.heap.size + 2) (mc ma) (.int .i64 1) rfl rfl rfl ?_ (by simp) ⟨rfl, ?_⟩
      · simp [row_setRow, g3]
      · exact below_setRow (hB _) (by omega) _
    · have e : (m.s == 2) = false := by simp [hs]
      rw [e]
      unfold iteM bI
      rw [if_neg (by simp), if_neg (by simp)]
      clear e
      obtain ⟨k, c, p, n, sm⟩ := x
      obtain ⟨e', o, so, s, u⟩ := m
      dsimp only at *
      subst h2
      have b1 : (s == 2) = false := by simpa using hs
      clear hs
      clear hm hw
      go_enter Try.func19, Try.ntmps19
      go_wp2
      refine post_ct (p := 4) (u := 5) rfl agg39 siz39 (w.heap.size + 2) (mc ⟨e', o, so, s, u⟩) (.int .i64 0) rfl rfl rfl ?_ (by simp) ⟨rfl, ?_⟩
      · simp [row_setRow, row_alloc, rowOf]
      · exact below_setRow ((((Below.refl _ _).alloc (Nat.le_refl _) _).alloc (by simp) _).alloc (by simp; omega) _) (by omega) _
  by_cases h3 : x.k = 3
  · rw [do_3 m x h3]
    dsimp only
    have hw := rrest_fn m 3
    by_cases hs : m.s = 3
    · have e : (m.s != 3) = false := by simp [hs]
      rw [e]
      unfold iteM bI
      rw [if_neg (by simp), if_neg (by simp)]
      clear e
      obtain ⟨k, c, p, n, sm⟩ := x
      obtain ⟨e', o, so, s, u⟩ := m
      dsimp only at *
      subst h3
      subst hs
      clear hm hw
      go_enter Try.func19, Try.ntmps19
      go_wp2
      refine post_ct (p := 4) (u := 5) rfl agg39 siz39 (w.heap.size + 2) (mc ⟨e', o, so, 3, u⟩) (.int .i64 0) rfl rfl rfl ?_ (by simp) ⟨rfl, ?_⟩
      · simp [row_setRow, row_alloc, rowOf]
      · exact below_setRow ((((Below.refl _ _).alloc (Nat.le_refl _) _).alloc (by simp) _).alloc (by simp; omega) _) (by omega) _
    · have e : (m.s != 3) = true := by simp [hs]
      rw [e]
      unfold iteM bI
      rw [if_pos rfl, if_pos rfl]
      clear e
      generalize restM m 3 = ma at *
      obtain ⟨k, c, p, n, sm⟩ := x
      obtain ⟨e', o, so, s, u⟩ := m
      dsimp only at *
      subst h3
      have b1 : (s != 3) = true := by simpa using hs
      clear hs
      clear hm
      have HW_ := hid hw
      clear hw
      go_enter Try.func19, Try.ntmps19
      go_wp2_with fail
      refine cutc_box3 fun W g1 o1 g2 o2 g3 o3 hz hB => ?_
      refine HW_.out.c fun m => ?_
      dsimp only
      go_wp2
      refine post_ct (p := 4) (u := 5) rfl agg39 siz39 (w.heap.size + 2) (mc ma) (.int .i64 1) rfl rfl rfl ?_ (by simp) ⟨rfl, ?_⟩
      · simp [row_setRow, g3]
      · exact below_setRow (hB _) (by omega) _
  by_cases h4 : x.k = 4
  · rw [do_4 m x h4]
    dsimp only
    have hw := rrest_fn m 1
    by_cases hs : m.s = 3
    · have e : (m.s == 3) = true := by simp [hs]
      rw [e]
      unfold iteM bI
      rw [if_pos rfl, if_pos rfl]
      clear e
      generalize restM m 1 = ma at *
      obtain ⟨k, c, p, n, sm⟩ := x
      obtain ⟨e', o, so, s, u⟩ := m
      dsimp only at *
      subst h4
      subst hs
      clear hm
      have HW_ := hid hw
      clear hw
      go_enter Try.func19, Try.ntmps19
      go_wp2_with fail
      refine cutc_box3 fun W g1 o1 g2 o2 g3 o3 hz hB => ?_
      refine HW_.out.c fun m => ?_
      dsimp only
      go_wp2
      refine post_ct (p := 4) (u := 5) rfl agg39 siz39 (w.heap.size + 2) (mc ma) (.int .i64 1) rfl rfl rfl ?_ (by simp) ⟨rfl, ?_⟩
      · simp [row_setRow, g3]
      · exact below_setRow (hB _) (by omega) _
    · have e : (m.s == 3) = false := by simp [hs]
      rw [e]
      unfold iteM bI
      rw [if_neg (by simp), if_neg (by simp)]
      clear e
      obtain ⟨k, c, p, n, sm⟩ := x
      obtain ⟨e', o, so, s, u⟩ := m
      dsimp only at *
      subst h4
      have b1 : (s == 3) = false := by simpa using hs
      clear hs
      clear hm hw
      go_enter Try.func19, Try.ntmps19
      go_wp2
      refine post_ct (p := 4) (u := 5) rfl agg39 siz39 (w.heap.size + 2) (mc ⟨e', o, so, s, u⟩) (.int .i64 0) rfl rfl rfl ?_ (by simp) ⟨rfl, ?_⟩
      · simp [row_setRow, row_alloc, rowOf]
      · exact below_setRow ((((Below.refl _ _).alloc (Nat.le_refl _) _).alloc (by simp) _).alloc (by simp; omega) _) (by omega) _
  by_cases h5 : x.k = 5
  · rw [do_5 m x h5]
    dsimp only
    by_cases hs : m.s = 8
    · have e : (m.s == 8) = true := by simp [hs]
      rw [e]
      unfold iteM bI
      rw [if_pos rfl, if_pos rfl]
      clear e
      obtain ⟨k, c, p, n, sm⟩ := x
      obtain ⟨e', o, so, s, u⟩ := m
      dsimp only at *
      subst h5
      subst hs
      clear hm
      go_enter Try.func19, Try.ntmps19
      go_wp2
      refine post_ct (p := 4) (u := 5) rfl agg39 siz39 (w.heap.size + 2) (mc ⟨e', o, so, 9, u⟩) (.int .i64 1) rfl rfl rfl ?_ (by simp) ⟨rfl, ?_⟩
      · simp [row_setRow, row_alloc, rowOf]
      · exact below_setRow ((((Below.refl _ _).alloc (Nat.le_refl _) _).alloc (by simp) _).alloc (by simp; omega) _) (by omega) _
    · have e : (m.s == 8) = false := by simp [hs]
      rw [e]
      unfold iteM bI
      rw [if_neg (by simp), if_neg (by simp)]
      clear e
      obtain ⟨k, c, p, n, sm⟩ := x
      obtain ⟨e', o, so, s, u⟩ := m
      dsimp only at *
      subst h5
      have b1 : (s == 8) = false := by simpa using hs
      clear hs
      clear hm
      go_enter Try.func19, Try.ntmps19
      go_wp2
      refine post_ct (p := 4) (u := 5) rfl agg39 siz39 (w.heap.size + 2) (mc ⟨e', o, so, s, u⟩) (.int .i64 0) rfl rfl rfl ?_ (by simp) ⟨rfl, ?_⟩
      · simp [row_setRow, row_alloc, rowOf]
      · exact below_setRow ((((Below.refl _ _).alloc (Nat.le_refl _) _).alloc (by simp) _).alloc (by simp; omega) _) (by omega) _
  by_cases h6 : x.k = 6
  · rw [do_6 m x h6]
    dsimp only
    by_cases hs : m.s = 9
    · have e : (m.s == 9) = true := by simp [hs]
      rw [e]
      unfold iteM bI
      rw [if_pos rfl, if_pos rfl]
      clear e
      obtain ⟨k, c, p, n, sm⟩ := x
      obtain ⟨e', o, so, s, u⟩ := m
      dsimp only at *
      subst h6
      subst hs
      clear hm
      go_enter Try.func19, Try.ntmps19
      go_wp2
      refine post_ct (p := 4) (u := 5) rfl agg39 siz39 (w.heap.size + 2) (mc ⟨e', o, so, 8, u⟩) (.int .i64 1) rfl rfl rfl ?_ (by simp) ⟨rfl, ?_⟩
      · simp [row_setRow, row_alloc, rowOf]
      · exact below_setRow ((((Below.refl _ _).alloc (Nat.le_refl _) _).alloc (by simp) _).alloc (by simp; omega) _) (by omega) _
    · have e : (m.s == 9) = false := by simp [hs]
      rw [e]
      unfold iteM bI
      rw [if_neg (by simp), if_neg (by simp)]
      clear e
      obtain ⟨k, c, p, n, sm⟩ := x
      obtain ⟨e', o, so, s, u⟩ := m
      dsimp only at *
      subst h6
      have b1 : (s == 9) = false := by simpa using hs
      clear hs
      clear hm
      go_enter Try.func19, Try.ntmps19
      go_wp2
      refine post_ct (p := 4) (u := 5) rfl agg39 siz39 (w.heap.size + 2) (mc ⟨e', o, so, s, u⟩) (.int .i64 0) rfl rfl rfl ?_ (by simp) ⟨rfl, ?_⟩
      · simp [row_setRow, row_alloc, rowOf]
      · exact below_setRow ((((Below.refl _ _).alloc (Nat.le_refl _) _).alloc (by simp) _).alloc (by simp; omega) _) (by omega) _
  by_cases h7 : x.k = 7
  · rw [do_7 m x h7]
    dsimp only
    have hh := rhears_fn m
    have hw := ranew_fn m hm m.s x.n
    generalize anewM m m.s x.n = ma at *
    cases hv : hearsM m with
    | true =>
      rw [hv] at hh
      unfold iteM
      rw [if_pos rfl]
      obtain ⟨k, c, p, n, sm⟩ := x
      obtain ⟨e', o, so, s, u⟩ := m
      dsimp only at *
      subst h7
      clear hm hv
      have HH_ := hid hh
      clear hh
      have HW_ := hid hw
      clear hw
      go_enter Try.func19, Try.ntmps19
      go_wp2_with fail
      refine cutc_box3 fun W g1 o1 g2 o2 g3 o3 hz hB => ?_
      refine HH_.out.c fun m => ?_
      dsimp only
      go_wp2_with fail
      refine HW_.out.c fun m => ?_
      dsimp only
      go_wp2
      have h2 : ∀ d X, row? ((gr W d).setRow w.heap.size X) (w.heap.size + 2) ≠ #[] := fun d X => by rw [row_setRow _ _ _ _ (by simp [g1])]; simp [g3]
      refine post_ct (p := 4) (u := 5) rfl agg39 siz39 (w.heap.size + 2) (mc ma) (.int .i64 0) rfl rfl rfl ?_ (by simp) ⟨rfl, ?_⟩
      · simp [row_setRow, h2]
      · exact below_setRow (below_setRow (hB _) (by omega) _) (by omega) _
    | false =>
      rw [hv] at hh
      unfold iteM
      rw [if_neg (by simp)]
      obtain ⟨k, c, p, n, sm⟩ := x
      obtain ⟨e', o, so, s, u⟩ := m
      dsimp only at *
      subst h7
      clear hm hv hw
      have HH_ := hid hh
      clear hh
      go_enter Try.func19, Try.ntmps19
      go_wp2_with fail
      refine cutc_box3 fun W g1 o1 g2 o2 g3 o3 hz hB => ?_
      refine HH_.out.c fun m => ?_
      dsimp only
      go_wp2
      refine post_ct (p := 4) (u := 5) rfl agg39 siz39 (w.heap.size + 2) (mc ⟨e', o, so, s, u⟩) (.int .i64 0) rfl rfl rfl ?_ (by simp) ⟨rfl, ?_⟩
      · simp [row_setRow, g3]
      · exact below_setRow (hB _) (by omega) _
  by_cases h8 : x.k = 8
  · rw [do_8 m x h8]
    dsimp only
    have hw := rdec_fn m hm x.c x.p x.n x.sm
    generalize decM m x.c x.p x.n x.sm = ma at *
    obtain ⟨k, c, p, n, sm⟩ := x
    obtain ⟨e', o, so, s, u⟩ := m
    dsimp only at *
    subst h8
    clear hm
    have HW_ := hid hw
    clear hw
    go_enter Try.func19, Try.ntmps19
    go_wp2_with fail
    refine cutc_box3 fun W g1 o1 g2 o2 g3 o3 hz hB => ?_
    refine HW_.out.c fun m => ?_
    dsimp only
    go_wp2
    have h2 : ∀ d X, row? ((gr W d).setRow w.heap.size X) (w.heap.size + 2) ≠ #[] := fun d X => by rw [row_setRow _ _ _ _ (by simp [g1])]; simp [g3]
    refine post_ct (p := 4) (u := 5) rfl agg39 siz39 (w.heap.size + 2) (mc ma) (.int .i64 0) rfl rfl rfl ?_ (by simp) ⟨rfl, ?_⟩
    · simp [row_setRow, h2]
    · exact below_setRow (below_setRow (hB _) (by omega) _) (by omega) _
  by_cases h9 : x.k = 9
  · rw [do_9 m x h9]
    have hw := rtick_fn m hm x.n
    generalize tickM m x.n = r at *
    obtain ⟨ma, v⟩ := r
    obtain ⟨k, c, p, n, sm⟩ := x
    obtain ⟨e', o, so, s, u⟩ := m
    dsimp only at *
    subst h9
    clear hm
    have HW_ := hid hw
    clear hw
    go_enter Try.func19, Try.ntmps19
    go_wp2_with fail
    refine cutc_box3 fun W g1 o1 g2 o2 g3 o3 hz hB => ?_
    refine HW_.out.c fun m => ?_
    dsimp only
    go_wp2
    refine post_ct (p := 4) (u := 5) rfl agg39 siz39 (w.heap.size + 2) (mc ma) (.int .i64 v) rfl rfl rfl ?_ (by simp) ⟨rfl, ?_⟩
    · simp [row_setRow, g3]
    · exact below_setRow (hB _) (by omega) _
  rw [do_no m x (by omega)]
  obtain ⟨k, c, p, n, sm⟩ := x
  obtain ⟨e', o, so, s, u⟩ := m
  dsimp only at *
  have b0 : (k == 0) = false := by simpa using h0
  have b1 : (k == 1) = false := by simpa using h1
  have b2 : (k == 2) = false := by simpa using h2
  have b3 : (k == 3) = false := by simpa using h3
  have b4 : (k == 4) = false := by simpa using h4
  have b5 : (k == 5) = false := by simpa using h5
  have b6 : (k == 6) = false := by simpa using h6
  have b7 : (k == 7) = false := by simpa using h7
  have b8 : (k == 8) = false := by simpa using h8
  have b9 : (k == 9) = false := by simpa using h9
  clear h0 h1 h2 h3 h4 h5 h6 h7 h8 h9 hm
  go_enter Try.func19, Try.ntmps19
  go_wp2
  refine post_ct (p := 4) (u := 5) rfl agg39 siz39 (w.heap.size + 2) (mc ⟨e', o, so, s, u⟩) (.int .i64 0) rfl rfl rfl ?_ (by simp) ⟨rfl, ?_⟩
  · simp [row_setRow, row_alloc, rowOf]
  · exact below_setRow ((((Below.refl _ _).alloc (Nat.le_refl _) _).alloc (by simp) _).alloc (by simp; omega) _) (by omega) _
end Go.Proofs.Ytlbdinckbbaknaa
