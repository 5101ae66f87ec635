/-
  The walk of the reference's Decide. No condition but that the machine is one.
-/
import Derived.Test.YtlbdinckbbaknaaPoM
namespace Go.Proofs.Ytlbdinckbbaknaa
open Go.RowKit

set_option maxHeartbeats 4000000 in
theorem rdec_fn (m : Mach) (hm : m.ok) (c p n : Int) (sm : Bool) : Fn Try.prog 34 #[.agg (mc m), .int .i64 c, .int .i64 p, .int .i64 n, .bool sm] (.agg (mc (decM m c p n sm))) := by
  intro w
  have a8 := ranew_fn m hm 8 n
  have a4 := ranew_fn m hm 4 n
  have a7 := ranew_fn m hm 7 n
  have m1 : ∀ q : Int, 0 ≤ q → q ≤ 255 → 0 ≤ (q + 1) * m.e ∧ (q + 1) * m.e ≤ 256 * 1099511627776 := fun q h1 h2 =>
    ⟨Int.mul_nonneg (by omega) (by have := hm.e1; omega), Int.mul_le_mul (by omega) hm.e2 (by have := hm.e1; omega) (by omega)⟩
  by_cases hs : m.s < 4
  · have e : decM m c p n sm = m := by unfold decM; rw [if_pos (.inl hs)]
    rw [e]
    obtain ⟨e', o, so, s, u⟩ := m
    dsimp only at hs ⊢
    clear a8 a4 a7 m1 hm e
    go_enter Try.func34, Try.ntmps34
    go_wp2
    refine post_c (p := 10) rfl agg39 siz39 (w.heap.size + 1) (mc ⟨e', o, so, s, u⟩) rfl rfl ?_ (by simp) ⟨rfl, ?_⟩
    · simp [row_setRow, row_alloc, rowOf]
    · exact below_setRow (((Below.refl _ _).alloc (Nat.le_refl _) _).alloc (by simp) _) (by omega) _
  have s4 : 4 ≤ m.s := by omega
  by_cases hc : c < 1
  · have e : decM m c p n sm = m := by unfold decM; rw [if_pos (.inr (.inl hc))]
    rw [e]
    obtain ⟨e', o, so, s, u⟩ := m
    dsimp only at hs s4 ⊢
    clear a8 a4 a7 m1 hm e
    go_enter Try.func34, Try.ntmps34
    go_wp2
    refine post_c (p := 10) rfl agg39 siz39 (w.heap.size + 1) (mc ⟨e', o, so, s, u⟩) rfl rfl ?_ (by simp) ⟨rfl, ?_⟩
    · simp [row_setRow, row_alloc, rowOf]
    · exact below_setRow (((Below.refl _ _).alloc (Nat.le_refl _) _).alloc (by simp) _) (by omega) _
  have c1 : 1 ≤ c := by omega
  by_cases hc6 : 6 < c
  · have e : decM m c p n sm = m := by unfold decM; rw [if_pos (.inr (.inr hc6))]
    rw [e]
    obtain ⟨e', o, so, s, u⟩ := m
    dsimp only at hs s4 ⊢
    clear a8 a4 a7 m1 hm e
    go_enter Try.func34, Try.ntmps34
    go_wp2
    refine post_c (p := 10) rfl agg39 siz39 (w.heap.size + 1) (mc ⟨e', o, so, s, u⟩) rfl rfl ?_ (by simp) ⟨rfl, ?_⟩
    · simp [row_setRow, row_alloc, rowOf]
    · exact below_setRow (((Below.refl _ _).alloc (Nat.le_refl _) _).alloc (by simp) _) (by omega) _
  have c6 : c ≤ 6 := by omega
  by_cases h4 : c = 4
  · subst h4
    by_cases h : sm = true ∧ (m.s = 8 ∨ m.s = 9)
    · have e : decM m 4 p n sm = m := by unfold decM; rw [if_neg (by omega), if_pos rfl, if_pos h]
      rw [e]
      obtain ⟨rfl, h⟩ := h
      obtain ⟨e', o, so, s, u⟩ := m
      dsimp only at hs s4 h ⊢
      clear a8 a4 a7 m1 hm e hs s4
      rcases h with rfl | rfl
      · go_enter Try.func34, Try.ntmps34
        go_wp2
        refine post_c (p := 10) rfl agg39 siz39 (w.heap.size + 1) (mc ⟨e', o, so, 8, u⟩) rfl rfl ?_ (by simp) ⟨rfl, ?_⟩
        · simp [row_setRow, row_alloc, rowOf]
        · exact below_setRow (((Below.refl _ _).alloc (Nat.le_refl _) _).alloc (by simp) _) (by omega) _
      · go_enter Try.func34, Try.ntmps34
        go_wp2
        refine post_c (p := 10) rfl agg39 siz39 (w.heap.size + 1) (mc ⟨e', o, so, 9, u⟩) rfl rfl ?_ (by simp) ⟨rfl, ?_⟩
        · simp [row_setRow, row_alloc, rowOf]
        · exact below_setRow (((Below.refl _ _).alloc (Nat.le_refl _) _).alloc (by simp) _) (by omega) _
    · have e : decM m 4 p n sm = anewM m 8 n := by unfold decM; rw [if_neg (by omega), if_pos rfl, if_neg h]
      rw [e]
      generalize anewM m 8 n = ma at *
      obtain ⟨e', o, so, s, u⟩ := m
      dsimp only at hs s4 h a8 ⊢
      clear a4 a7 m1 hm e hs
      have A8_ := hid a8
      clear a8
      cases sm with
      | false =>
        clear h
        go_enter Try.func34, Try.ntmps34
        go_wp2_with fail
        refine cutc_box2 fun W g1 o1 g2 o2 hz hB => ?_
        refine A8_.out.c fun m => ?_
        dsimp only
        go_wp2
        refine post_c (p := 10) rfl agg39 siz39 (w.heap.size + 1) (mc ma) rfl rfl ?_ (by simp) ⟨rfl, ?_⟩
        · simp [row_setRow, g2]
        · exact below_setRow (hB _) (by omega) _
      | true =>
        have b8 : (s == 8) = false := by simp; exact fun e => h ⟨rfl, .inl e⟩
        have b9 : (s == 9) = false := by simp; exact fun e => h ⟨rfl, .inr e⟩
        clear h
        go_enter Try.func34, Try.ntmps34
        go_wp2_with fail
        refine cutc_box2 fun W g1 o1 g2 o2 hz hB => ?_
        refine A8_.out.c fun m => ?_
        dsimp only
        go_wp2
        refine post_c (p := 10) rfl agg39 siz39 (w.heap.size + 1) (mc ma) rfl rfl ?_ (by simp) ⟨rfl, ?_⟩
        · simp [row_setRow, g2]
        · exact below_setRow (hB _) (by omega) _
  have n4 : (c == 4) = false := by simpa using h4
  clear a8
  by_cases h5 : 4 < c
  · have g4 : ¬ c < 4 := by omega
    by_cases h7 : m.s = 7
    · have e : decM m c p n sm = m := by unfold decM; rw [if_neg (by omega), if_neg h4, if_pos ⟨h5, h7⟩]
      rw [e]
      obtain ⟨e', o, so, s, u⟩ := m
      dsimp only at hs s4 h7 ⊢
      subst h7
      clear a4 a7 m1 hm e hs s4 h4
      go_enter Try.func34, Try.ntmps34
      go_wp2
      refine post_c (p := 10) rfl agg39 siz39 (w.heap.size + 1) (mc ⟨e', o, so, 7, u⟩) rfl rfl ?_ (by simp) ⟨rfl, ?_⟩
      · simp [row_setRow, row_alloc, rowOf]
      · exact below_setRow (((Below.refl _ _).alloc (Nat.le_refl _) _).alloc (by simp) _) (by omega) _
    have b7 : (m.s == 7) = false := by simpa using h7
    cases hso : m.so with
    | true =>
      by_cases hs4 : m.s = 4
      · have e : decM m c p n sm = m := by unfold decM; rw [if_neg (by omega), if_neg h4, if_neg (by omega), if_neg (by omega), if_pos hso, if_pos hs4]
        rw [e]
        obtain ⟨e', o, so, s, u⟩ := m
        dsimp only at hs s4 hs4 hso ⊢
        subst hs4 hso
        clear a4 a7 m1 hm e hs s4 h4 h7 b7
        go_enter Try.func34, Try.ntmps34
        go_wp2
        refine post_c (p := 10) rfl agg39 siz39 (w.heap.size + 1) (mc ⟨e', o, true, 4, u⟩) rfl rfl ?_ (by simp) ⟨rfl, ?_⟩
        · simp [row_setRow, row_alloc, rowOf]
        · exact below_setRow (((Below.refl _ _).alloc (Nat.le_refl _) _).alloc (by simp) _) (by omega) _
      · have e : decM m c p n sm = anewM m 4 n := by unfold decM; rw [if_neg (by omega), if_neg h4, if_neg (by omega), if_neg (by omega), if_pos hso, if_neg hs4]
        rw [e]
        have b4 : (m.s == 4) = false := by simpa using hs4
        generalize anewM m 4 n = ma at *
        obtain ⟨e', o, so, s, u⟩ := m
        dsimp only at hs s4 hso b4 b7 a4 ⊢
        subst hso
        clear a7 m1 hm e hs h4 h7 hs4
        have A4_ := hid a4
        clear a4
        go_enter Try.func34, Try.ntmps34
        go_wp2_with fail
        refine cutc_box2 fun W g1 o1 g2 o2 hz hB => ?_
        refine A4_.out.c fun m => ?_
        dsimp only
        go_wp2
        refine post_c (p := 10) rfl agg39 siz39 (w.heap.size + 1) (mc ma) rfl rfl ?_ (by simp) ⟨rfl, ?_⟩
        · simp [row_setRow, g2]
        · exact below_setRow (hB _) (by omega) _
    | false =>
      have e : decM m c p n sm = anewM m 7 n := by unfold decM; rw [if_neg (by omega), if_neg h4, if_neg (by omega), if_neg (by omega), if_neg (by simp [hso]), if_pos h5]
      rw [e]
      generalize anewM m 7 n = ma at *
      obtain ⟨e', o, so, s, u⟩ := m
      dsimp only at hs s4 hso b7 a7 ⊢
      subst hso
      clear a4 m1 hm e hs h4 h7
      have A7_ := hid a7
      clear a7
      go_enter Try.func34, Try.ntmps34
      go_wp2_with fail
      refine cutc_box2 fun W g1 o1 g2 o2 hz hB => ?_
      refine A7_.out.c fun m => ?_
      dsimp only
      go_wp2
      refine post_c (p := 10) rfl agg39 siz39 (w.heap.size + 1) (mc ma) rfl rfl ?_ (by simp) ⟨rfl, ?_⟩
      · simp [row_setRow, g2]
      · exact below_setRow (hB _) (by omega) _
  clear a7
  have g4 : c < 4 := by omega
  by_cases h5' : m.s = 5
  · have e : decM m c p n sm = m := by unfold decM; rw [if_neg (by omega), if_neg h4, if_neg (by omega), if_pos ⟨g4, .inl h5'⟩]
    rw [e]
    obtain ⟨e', o, so, s, u⟩ := m
    dsimp only at hs s4 h5' ⊢
    subst h5'
    clear a4 m1 hm e hs s4 h4
    go_enter Try.func34, Try.ntmps34
    go_wp2
    refine post_c (p := 10) rfl agg39 siz39 (w.heap.size + 1) (mc ⟨e', o, so, 5, u⟩) rfl rfl ?_ (by simp) ⟨rfl, ?_⟩
    · simp [row_setRow, row_alloc, rowOf]
    · exact below_setRow (((Below.refl _ _).alloc (Nat.le_refl _) _).alloc (by simp) _) (by omega) _
  by_cases h6 : m.s = 6
  · have e : decM m c p n sm = m := by unfold decM; rw [if_neg (by omega), if_neg h4, if_neg (by omega), if_pos ⟨g4, .inr h6⟩]
    rw [e]
    obtain ⟨e', o, so, s, u⟩ := m
    dsimp only at hs s4 h6 ⊢
    subst h6
    clear a4 m1 hm e hs s4 h4 h5'
    go_enter Try.func34, Try.ntmps34
    go_wp2
    refine post_c (p := 10) rfl agg39 siz39 (w.heap.size + 1) (mc ⟨e', o, so, 6, u⟩) rfl rfl ?_ (by simp) ⟨rfl, ?_⟩
    · simp [row_setRow, row_alloc, rowOf]
    · exact below_setRow (((Below.refl _ _).alloc (Nat.le_refl _) _).alloc (by simp) _) (by omega) _
  have b5 : (m.s == 5) = false := by simpa using h5'
  have b6 : (m.s == 6) = false := by simpa using h6
  cases hso : m.so with
  | true =>
    by_cases hs4 : m.s = 4
    · have e : decM m c p n sm = m := by unfold decM; rw [if_neg (by omega), if_neg h4, if_neg (by omega), if_neg (by omega), if_pos hso, if_pos hs4]
      rw [e]
      obtain ⟨e', o, so, s, u⟩ := m
      dsimp only at hs s4 hs4 hso ⊢
      subst hs4 hso
      clear a4 m1 hm e hs s4 h4 h5' h6 b5 b6
      go_enter Try.func34, Try.ntmps34
      go_wp2
      refine post_c (p := 10) rfl agg39 siz39 (w.heap.size + 1) (mc ⟨e', o, true, 4, u⟩) rfl rfl ?_ (by simp) ⟨rfl, ?_⟩
      · simp [row_setRow, row_alloc, rowOf]
      · exact below_setRow (((Below.refl _ _).alloc (Nat.le_refl _) _).alloc (by simp) _) (by omega) _
    · have e : decM m c p n sm = anewM m 4 n := by unfold decM; rw [if_neg (by omega), if_neg h4, if_neg (by omega), if_neg (by omega), if_pos hso, if_neg hs4]
      rw [e]
      have b4 : (m.s == 4) = false := by simpa using hs4
      generalize anewM m 4 n = ma at *
      obtain ⟨e', o, so, s, u⟩ := m
      dsimp only at hs s4 hso b4 b5 b6 a4 ⊢
      subst hso
      clear m1 hm e hs h4 h5' h6 hs4
      have A4_ := hid a4
      clear a4
      go_enter Try.func34, Try.ntmps34
      go_wp2_with fail
      refine cutc_box2 fun W g1 o1 g2 o2 hz hB => ?_
      refine A4_.out.c fun m => ?_
      dsimp only
      go_wp2
      refine post_c (p := 10) rfl agg39 siz39 (w.heap.size + 1) (mc ma) rfl rfl ?_ (by simp) ⟨rfl, ?_⟩
      · simp [row_setRow, g2]
      · exact below_setRow (hB _) (by omega) _
  | false =>
    clear a4
    by_cases h3 : c = 3
    · have e : decM m c p n sm = { m with s := 5, u := tmI (tmI n + (clampI p + 1) * m.e) } := by unfold decM; rw [if_neg (by omega), if_neg h4, if_neg (by omega), if_neg (by omega), if_neg (by simp [hso]), if_neg (by omega), if_pos h3]
      rw [e]
      subst h3
      obtain ⟨q1, q2⟩ := clamp_bd p
      obtain ⟨x1, x2⟩ := m1 _ q1 q2
      obtain ⟨t1, t2⟩ := tmI_bd n
      have f1 := rtime_fn n
      have f2 := rtime_fn (tmI n + (clampI p + 1) * m.e)
      have hcl : clampI p = if p < 0 then 0 else if 255 < p then 255 else p := rfl
      have hv : ∃ v, tmI (tmI n + (clampI p + 1) * m.e) = v := ⟨_, rfl⟩
      obtain ⟨v, hv⟩ := hv
      rw [hv] at f2 ⊢
      clear hv
      generalize tmI n = t at *
      generalize clampI p = q at *
      obtain ⟨e', o, so, s, u⟩ := m
      dsimp only at hs s4 hso b5 b6 f2 x1 x2 ⊢
      subst hso
      clear m1 hm e hs h5' h6 h4
      by_cases hp : p < 0
      · rw [if_pos hp] at hcl
        subst hcl
        rw [Int.zero_add, Int.one_mul] at *
        have hp2 : ¬ 255 < p := by omega
        have F1_ := hid f1
        clear f1
        have F2_ := hid f2
        clear f2
        go_enter Try.func34, Try.ntmps34
        go_wp2_with (go_at_call 42; refine F1_.out.c ?_)
        refine cut_box2 fun W g1 o1 g2 o2 hz hB => ?_
        refine wp_region_gr_tail W 10 (by kernel_rfl) (by kernel_rfl) ⟨_, rfl⟩ ?_
        simp only [List.take_succ_cons, List.take_zero, List.drop_succ_cons, List.drop_zero]
        repeat (go_big_quiet_step (((go_at_call 42; first | with_reducible exact F1_.out.fn.q | with_reducible exact F2_.out.fn.q))))
        refine wpQuiet_nil ?_
        rintro _ ⟨y, rfl⟩
        go_wp2
        refine post_c (p := 10) rfl agg39 siz39 (w.heap.size + 1) (mc ⟨e', o, false, 5, v⟩) rfl rfl ?_ (by simp) ⟨rfl, ?_⟩
        · simp [row_setRow, row_setCell, g2]
        · exact below_setRow ((hB y).setCell (Nat.le_refl _) _) (by omega) _
      by_cases hp5 : 255 < p
      · rw [if_neg hp, if_pos hp5] at hcl
        subst hcl
        rw [show (255 : Int) + 1 = 256 from rfl] at *
        have hp2 : 0 ≤ p := by omega
        have F1_ := hid f1
        clear f1
        have F2_ := hid f2
        clear f2
        go_enter Try.func34, Try.ntmps34
        go_wp2_with (go_at_call 42; refine F1_.out.c ?_)
        refine cut_box2 fun W g1 o1 g2 o2 hz hB => ?_
        refine wp_region_gr_tail W 10 (by kernel_rfl) (by kernel_rfl) ⟨_, rfl⟩ ?_
        simp only [List.take_succ_cons, List.take_zero, List.drop_succ_cons, List.drop_zero]
        repeat (go_big_quiet_step (((go_at_call 42; first | with_reducible exact F1_.out.fn.q | with_reducible exact F2_.out.fn.q))))
        refine wpQuiet_nil ?_
        rintro _ ⟨y, rfl⟩
        go_wp2
        refine post_c (p := 10) rfl agg39 siz39 (w.heap.size + 1) (mc ⟨e', o, false, 5, v⟩) rfl rfl ?_ (by simp) ⟨rfl, ?_⟩
        · simp [row_setRow, row_setCell, g2]
        · exact below_setRow ((hB y).setCell (Nat.le_refl _) _) (by omega) _
      · rw [if_neg hp, if_neg hp5] at hcl
        subst hcl
        have hp2 : 0 ≤ q := by omega
        have hp3 : q ≤ 255 := by omega
        have F1_ := hid f1
        clear f1
        have F2_ := hid f2
        clear f2
        go_enter Try.func34, Try.ntmps34
        go_wp2_with (go_at_call 42; refine F1_.out.c ?_)
        refine cut_box2 fun W g1 o1 g2 o2 hz hB => ?_
        refine wp_region_gr_tail W 10 (by kernel_rfl) (by kernel_rfl) ⟨_, rfl⟩ ?_
        simp only [List.take_succ_cons, List.take_zero, List.drop_succ_cons, List.drop_zero]
        repeat (go_big_quiet_step (((go_at_call 42; first | with_reducible exact F1_.out.fn.q | with_reducible exact F2_.out.fn.q))))
        refine wpQuiet_nil ?_
        rintro _ ⟨y, rfl⟩
        go_wp2
        refine post_c (p := 10) rfl agg39 siz39 (w.heap.size + 1) (mc ⟨e', o, false, 5, v⟩) rfl rfl ?_ (by simp) ⟨rfl, ?_⟩
        · simp [row_setRow, row_setCell, g2]
        · exact below_setRow ((hB y).setCell (Nat.le_refl _) _) (by omega) _
    · have e : decM m c p n sm = { m with s := 5, u := tmI n } := by unfold decM; rw [if_neg (by omega), if_neg h4, if_neg (by omega), if_neg (by omega), if_neg (by simp [hso]), if_neg (by omega), if_neg h3]
      rw [e]
      have b3 : (c == 3) = false := by simpa using h3
      have f1 := rtime_fn n
      generalize tmI n = t at *
      obtain ⟨e', o, so, s, u⟩ := m
      dsimp only at hs s4 hso b5 b6 ⊢
      subst hso
      clear m1 hm e hs h5' h6 h4 h3
      have F1_ := hid f1
      clear f1
      go_enter Try.func34, Try.ntmps34
      go_wp2_with (go_at_call 42; refine F1_.out.c ?_)
      refine post_c (p := 10) rfl agg39 siz39 (w.heap.size + 1) (mc ⟨e', o, false, 5, t⟩) rfl rfl ?_ (by simp) ⟨rfl, ?_⟩
      · simp [row_setRow, row_alloc, rowOf]
      · exact below_setRow (((Below.refl _ _).alloc (Nat.le_refl _) _).alloc (by simp) _) (by omega) _
end Go.Proofs.Ytlbdinckbbaknaa
