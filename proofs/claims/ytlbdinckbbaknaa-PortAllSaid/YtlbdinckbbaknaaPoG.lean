/-
  The law PortWaits: it answers true. No condition.
-/
import Derived.Test.YtlbdinckbbaknaaPoR
namespace Go.Proofs.Ytlbdinckbbaknaa
open Go.RowKit

theorem Rdm.q {P : Program} {f : FuncId} {b : Nat} {args : Array Value} {m : Mach} {v : Value} (h : Rdm P f b args m v) {W d : World} (hr : ∀ d, row? (gr W d) b = mc m) :
    Calls P f args (gr W d) fun e w'' => e = .returned v ∧ ∃ m, w'' = gr W m :=
  (h _ (hr d)).mono fun _ _ ⟨he, hw⟩ => ⟨he, d, hw.symm⟩
/-- At a law's begin: an argument's box, and a machine that was made. -/
theorem begin2 (w : World) (A B : Array Value) (S T : TypeId) :
    ∃ W c, ((gr w w).alloc (.cells A S)).alloc (.cells B T) = gr W W ∧ (gr w w).heap.size = c ∧ (∀ d, row? (gr W d) c = A) ∧ (∀ d, row? (gr W d) (c + 1) = B) ∧ (∀ d, own? (gr W d) (c + 1) = true) ∧ (∀ d, Below w.heap.size w (gr W d)) ∧ w.heap.size ≤ c := by
  obtain ⟨W1, h1, r1, o1, u1, z1⟩ := new_gr w w A S
  obtain ⟨W2, h2, r2, o2, u2, z2⟩ := new_gr W1 W1 B T
  have e : (gr w w).heap.size + 1 = (gr W1 W1).heap.size := by rw [← h1]; simp
  refine ⟨W2, _, ?_, rfl, upr u2 r1, ?_, ?_, upb u2 (upb u1 (gr_below w)), z1⟩
  · rw [h1, h2]
  · rw [e]; exact r2
  · rw [e]; exact o2
theorem Fn.b {P : Program} {f : FuncId} {args : Array Value} {v : Value} (h : Fn P f args v) {w W0 : World} {B : Nat} (hb : Below B W0 w) (hB : B ≤ w.heap.size) {R : Ending → World → Prop}
    (k : ∀ w', Below B W0 w' → R (.returned v) w') : Calls P f args w R :=
  (h w).mono fun _ w' ⟨he, hb'⟩ => by subst he; exact k w' (hb.trans (hb'.mono hB))
set_option maxHeartbeats 2000000 in
theorem waits_fn (k : Knd) (p n : Int) : Fn Try.prog 3 #[.agg (ka k), .int .i64 p, .int .i64 n] (.bool true) := by
  intro w
  obtain ⟨e, o, so⟩ := k
  have b1 : ∀ A S, Below w.heap.size w (w.alloc (.cells A S)) := fun A S => (Below.refl _ _).alloc (Nat.le_refl _) _
  have b2 : ∀ A S B T, Below w.heap.size w ((w.alloc (.cells A S)).alloc (.cells B T)) := fun A S B T => (b1 A S).alloc (by simp) _
  have B1_ := hid b1
  clear b1
  have B2_ := hid b2
  clear b2
  by_cases hk : e < 1 ∨ 1099511627776 < e ∨ o < 2 ∨ 10 < o
  · have hn := new_no e o false hk
    clear hk
    have HN_ := hid hn
    clear hn
    go_enter Try.func3, Try.ntmps3
    go_wp2_with (first | (go_at_call 9; refine HN_.out.c ?_) | (go_at_call 10; refine alive_fn.b (B1_.out _ _) (by simp) fun w' hb => ?_))
    go_ret
    exact ⟨rfl, hb⟩
  have e1 : 1 ≤ e := by omega
  have e2 : e ≤ 1099511627776 := by omega
  have o1 : 2 ≤ o := by omega
  have o2 : o ≤ 10 := by omega
  have hn := new_yes e o false e1 e2 o1 o2
  clear hk
  have HN_ := hid hn
  clear hn
  by_cases h1 : n < 0
  · go_enter Try.func3, Try.ntmps3
    go_wp2_with (first | (go_at_call 9; refine (HN_.out _).mono ?_; rintro e w' ⟨rfl, rfl⟩) | (go_at_call 10; refine alive_fn.b (B2_.out _ _ _ _) (by simp <;> omega) fun w' hb => ?_))
    go_ret
    exact ⟨rfl, hb⟩
  by_cases h2 : 1125899906842624 < n
  · go_enter Try.func3, Try.ntmps3
    go_wp2_with (first | (go_at_call 9; refine (HN_.out _).mono ?_; rintro e w' ⟨rfl, rfl⟩) | (go_at_call 10; refine alive_fn.b (B2_.out _ _ _ _) (by simp <;> omega) fun w' hb => ?_))
    go_ret
    exact ⟨rfl, hb⟩
  have n1 : 0 ≤ n := by omega
  have n2 : n ≤ 1125899906842624 := by omega
  clear h1 h2
  by_cases h1 : p < 0
  · go_enter Try.func3, Try.ntmps3
    go_wp2_with (first | (go_at_call 9; refine (HN_.out _).mono ?_; rintro e w' ⟨rfl, rfl⟩) | (go_at_call 10; refine alive_fn.b (B2_.out _ _ _ _) (by simp <;> omega) fun w' hb => ?_))
    go_ret
    exact ⟨rfl, hb⟩
  by_cases h2 : 255 < p
  · go_enter Try.func3, Try.ntmps3
    go_wp2_with (first | (go_at_call 9; refine (HN_.out _).mono ?_; rintro e w' ⟨rfl, rfl⟩) | (go_at_call 10; refine alive_fn.b (B2_.out _ _ _ _) (by simp <;> omega) fun w' hb => ?_))
    go_ret
    exact ⟨rfl, hb⟩
  have p1 : 0 ≤ p := by omega
  have p2 : p ≤ 255 := by omega
  clear h1 h2 B1_ B2_
  have m1 : 1 ≤ (p + 1) * e := Int.mul_pos (by omega) (by omega)
  have m2 : (p + 1) * e ≤ 256 * 1099511627776 := Int.mul_le_mul (by omega) e2 (by omega) (by omega)
  have hm : Mach.ok ⟨e, o, false, 1, 0⟩ := ⟨e1, e2, o1, o2, by simp, by simp, by simp, by simp⟩
  have hmA := hm.anew (s := 4) (by omega) (by omega) n
  have hU1 : 0 ≤ n + (p + 1) * e := by omega
  have hU2 : n + (p + 1) * e ≤ 4611686018427387904 := by omega
  have eD : decM (anewM ⟨e, o, false, 1, 0⟩ 4 n) 3 p n false = ⟨e, o, false, 5, n + (p + 1) * e⟩ := by
    have hc : clampI p = p := by unfold clampI; rw [if_neg (by omega), if_neg (by omega)]
    simp [decM, anewM, hc, tmI_of n1 (by omega), tmI_of hU1 hU2]
  have hB : Mach.ok ⟨e, o, false, 5, n + (p + 1) * e⟩ := ⟨e1, e2, o1, o2, by simp, by simp, hU1, hU2⟩
  have eH : iteM (hearsM ⟨e, o, false, 5, n + (p + 1) * e⟩) (anewM ⟨e, o, false, 5, n + (p + 1) * e⟩ 5 (n + 1)) ⟨e, o, false, 5, n + (p + 1) * e⟩ = ⟨e, o, false, 5, n + (p + 1) * e⟩ := rfl
  have eT1 : tickM ⟨e, o, false, 5, n + (p + 1) * e⟩ (n + (p + 1) * e - 1) = (⟨e, o, false, 5, n + (p + 1) * e⟩, 0) := by
    unfold tickM
    rw [tmI_of (by omega) (by omega), if_pos (.inr (by dsimp only; omega))]
  have eT2 : tickM ⟨e, o, false, 5, n + (p + 1) * e⟩ (n + (p + 1) * e) = (⟨e, o, false, 6, 0⟩, 1) := by
    unfold tickM
    rw [tmI_of hU1 hU2, if_neg (by simp), if_pos rfl]
    rfl
  have c1 := fun b => (start_fn b _ hm n).at_eq (m2 := anewM ⟨e, o, false, 1, 0⟩ 4 n) (v2 := .bool true) rfl rfl
  have c2 := fun b => (decide_fn b _ hmA 3 p n false).at_eq eD rfl
  have c3 := fun b => (heard_fn b _ hB (n + 1)).at_eq eH rfl
  have c4 := fun b => (tick_fn b _ hB (n + (p + 1) * e - 1)).at_eq (congrArg Prod.fst eT1) (congrArg (fun x => Value.int .i64 x.2) eT1)
  have c5 := fun b => (tick_fn b _ hB (n + (p + 1) * e)).at_eq (congrArg Prod.fst eT2) (congrArg (fun x => Value.int .i64 x.2) eT2)
  have C1_ := hid c1
  clear c1
  have C2_ := hid c2
  clear c2
  have C3_ := hid c3
  clear c3
  have C4_ := hid c4
  clear c4
  have C5_ := hid c5
  clear c5
  clear eD eH eT1 eT2 hm hmA hB
  have d1 : decide (1099511627776 < e) = false := decide_eq_false (by omega)
  have d2 : decide (n < 0) = false := decide_eq_false (by omega)
  have d3 : decide (1125899906842624 < n) = false := decide_eq_false (by omega)
  have d4 : decide (p < 0) = false := decide_eq_false (by omega)
  have d5 : decide (255 < p) = false := decide_eq_false (by omega)
  rw [gr_self w]
  go_enter Try.func3, Try.ntmps3
  go_wp2_with fail
  refine (HN_.out _).mono ?_
  rintro _ _ ⟨rfl, rfl⟩
  obtain ⟨W, c, hE, ec, r1, r2, q2, hb, hz⟩ := begin2 w (ka ⟨e, o, so⟩) (mc ⟨e, o, false, 1, 0⟩) 23 51
  dsimp only
  rw [hE]
  simp only [World.size_alloc, ec]
  clear hE ec
  go_wp2_with fail
  clear d1 d2 d3 d4 d5
  refine (C1_.out _).gr r2 q2 fun W2 hC r2' q2' => ?_
  dsimp only
  replace r1 := hC.up r1 (by omega) (by simp)
  replace hb := hC.upb hb (hb _).size (by rintro k hk rfl; omega)
  clear hC r2 q2
  go_wp2_with fail
  refine (C2_.out _).gr r2' q2' fun W3 hC r2 q2 => ?_
  dsimp only
  replace r1 := hC.up r1 (by omega) (by simp)
  replace hb := hC.upb hb (hb _).size (by rintro k hk rfl; omega)
  clear hC r2' q2'
  go_wp2_with fail
  refine wp_region_gr W3 (by kernel_rfl) (by kernel_rfl) ⟨_, rfl⟩ ?_
  repeat (go_big_quiet_step ((first | (go_at_call 13; exact (state_fn _ _).q r2) | (go_at_call 14; exact (until_fn _ _).q r2))))
  refine wpQuiet_nil ?_
  rintro _ ⟨y, rfl⟩
  go_wp2_with fail
  refine (C3_.out _).gr r2 q2 fun W4 hC r2' q2' => ?_
  dsimp only
  replace hb := hC.upb hb (hb _).size (by rintro k hk rfl; omega)
  clear hC r2 q2 r1
  go_wp2_with fail
  refine alive_fn.c fun m => ?_
  dsimp only
  go_wp2_with (go_at_call 14; refine (until_fn _ _).c (r2' _) ?_)
  refine (C4_.out _).gr r2' q2' fun W5 hC r2 q2 => ?_
  dsimp only
  replace hb := hC.upb hb (hb _).size (by rintro k hk rfl; omega)
  clear hC r2' q2'
  go_wp2_with (go_at_call 14; refine (until_fn _ _).c (r2 _) ?_)
  refine (C5_.out _).gr r2 q2 fun W6 hC r2' q2' => ?_
  dsimp only
  replace hb := hC.upb hb (hb _).size (by rintro k hk rfl; omega)
  clear hC r2 q2
  go_wp2_with (go_at_call 13; refine (state_fn _ _).c (r2' _) ?_)
  go_ret
  exact ⟨rfl, by rw [← gr_self w]; exact hb _⟩
end Go.Proofs.Ytlbdinckbbaknaa
