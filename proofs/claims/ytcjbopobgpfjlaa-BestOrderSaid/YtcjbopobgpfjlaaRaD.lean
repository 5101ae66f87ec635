/-
  The walks of the reference of layer 7: Grand, Turn, Compare, Less. No condition.
-/
import Derived.Test.YtcjbopobgpfjlaaRaC
namespace Go.Proofs.Ytcjbopobgpfjlaa
open Go.RowKit

def numsS (p : Sett) : List Int := [p.a, p.x, p.y, p.z, p.b]
theorem grandI_eq (p q : Sett) : grandI p q = if cmpL (numsS p) (numsS q) = 0 then cmpC p.g q.g else cmpL (numsS p) (numsS q) := by
  unfold grandI grandL numsS
  simp only [cmpL, firstNZ, cmpI_zero]
  by_cases h1 : p.a = q.a <;> by_cases h2 : p.x = q.x <;> by_cases h3 : p.y = q.y <;> by_cases h4 : p.z = q.z <;> by_cases h5 : p.b = q.b <;> simp [h1, h2, h3, h4, h5, cmpI_zero] <;> exact fun h => h.symm
theorem nums_c (p : Sett) {W d : World} {R : Ending → World → Prop} (k : ∀ W1 g, (∀ d, row? (gr W1 d) g = il (numsS p)) → (∀ d, ∃ d', gr W1 d = gr W d') → R (.returned (.slice (some ⟨g, 0, none⟩) 5 5)) (gr W1 W1)) :
    Calls Try.prog 43 #[.agg (sa p)] (gr W d) R := by
  go_enter Try.func43, Try.ntmps43
  go_wp2
  obtain ⟨W1, e, ht⟩ := two_alloc W d (A := sa p) (B := il (numsS p)) (S := 29) (T := 3)
  have e2 : ((gr W d).alloc (.cells (sa p) 29)).heap.size = (gr W d).heap.size + 1 := by simp
  rw [e2] at ht
  have := k W1 _ ht.rc ht.up
  rw [← e] at this
  exact this

set_option maxHeartbeats 800000 in
theorem rgrand_fn (p q : Sett) : Fn Try.prog 19 #[.agg (sa p), .agg (sa q)] (.int .i64 (grandI p q)) := by
  intro w
  have eG := grandI_eq p q
  generalize grandI p q = v at *
  have EG := hid eG
  clear eG
  go_enter Try.func19, Try.ntmps19
  go_wp2_with fail
  refine cutc_box2 fun W g1 _ g2 _ _ hB => ?_
  refine nums_c p fun W1 b r1 u1 => ?_
  dsimp only
  replace g1 := upr u1 g1
  replace g2 := upr u1 g2
  replace hB := upb u1 hB
  go_wp2_with fail
  refine nums_c q fun W2 c r2 u2 => ?_
  dsimp only
  replace g1 := upr u2 g1
  replace g2 := upr u2 g2
  replace hB := upb u2 hB
  replace r1 := upr u2 r1
  clear u1 u2
  have l1 : (numsS p).length = 5 := rfl
  have l2 : (numsS q).length = 5 := rfl
  have z1 : (il (numsS p)).size = 5 := rfl
  have z2 : (il (numsS q)).size = 5 := rfl
  generalize numsS p = l at *
  generalize numsS q = m at *
  go_wp2_with fail
  go_loopw [7] (fun i wr => ∃ (k : Nat) (x : World), k ≤ 5 ∧ i = .int .i64 k ∧ cmpL (l.drop k) (m.drop k) = cmpL l m ∧ wr = gr W2 x) (fun i _ => 5 - (intOf i).toNat)
  case atStart => exact ⟨0, W2, by omega, rfl, by simp, rfl⟩
  case round =>
    obtain ⟨k, x, hk, rfl, hcmp, rfl⟩ := hrel
    by_cases hlt : k < 5
    · have hs := cmpL_drop l m (by rw [l1, l2]) k (by omega)
      rw [hcmp] at hs
      have HS_ := hid hs
      clear hs
      clear hcmp
      have d1 := fun h => il_at l (k := k) h
      have d2 := fun h => il_at m (k := k) h
      generalize l.getD k 0 = a at *
      generalize m.getD k 0 = b at *
      by_cases h1 : a < b
      · go_wp2
        refine wp_region_gr W2 (by kernel_rfl) (by kernel_rfl) ⟨_, rfl⟩ ?_
        repeat (go_big_quiet_step (fail))
        refine wpQuiet_nil ?_
        rintro _ ⟨y, rfl⟩
        go_wp2
        go_ret
        have e1 : cmpL l m = -1 := by rw [HS_.out, if_neg (by omega), cmpI, if_pos h1]
        exact ⟨ret_int (by rw [EG.out, e1]; rfl), hB _⟩
      · by_cases h2 : b < a
        · go_wp2
          refine wp_region_gr W2 (by kernel_rfl) (by kernel_rfl) ⟨_, rfl⟩ ?_
          repeat (go_big_quiet_step (fail))
          refine wpQuiet_nil ?_
          rintro _ ⟨y, rfl⟩
          go_wp2
          refine wp_region_gr W2 (by kernel_rfl) (by kernel_rfl) ⟨_, rfl⟩ ?_
          repeat (go_big_quiet_step (fail))
          refine wpQuiet_nil ?_
          rintro _ ⟨z, rfl⟩
          go_wp2
          go_ret
          have e1 : cmpL l m = 1 := by rw [HS_.out, if_neg (by omega), cmpI, if_neg (by omega), if_pos h2]
          exact ⟨ret_int (by rw [EG.out, e1]; rfl), hB _⟩
        · have e : a = b := by omega
          subst e
          go_wp2
          refine wp_region_gr W2 (by kernel_rfl) (by kernel_rfl) ⟨_, rfl⟩ ?_
          repeat (go_big_quiet_step (fail))
          refine wpQuiet_nil ?_
          rintro _ ⟨y, rfl⟩
          go_wp2
          refine wp_region_gr W2 (by kernel_rfl) (by kernel_rfl) ⟨_, rfl⟩ ?_
          repeat (go_big_quiet_step (fail))
          refine wpQuiet_nil ?_
          rintro _ ⟨z, rfl⟩
          go_wp2
          go_roundw
          case rel => exact ⟨k+1, _, by omega, by go_num, by rw [HS_.out]; simp, rfl⟩
          case measure => simp [intOf]; omega
    · have hk8 : k = 5 := by omega
      subst hk8
      rw [List.drop_of_length_le (by omega), List.drop_of_length_le (by omega)] at hcmp
      have HCMP_ := hid hcmp
      clear hcmp
      go_wp2_with fail
      refine (rcmpC_fn _ _).c fun m => ?_
      dsimp only
      go_wp2
      go_ret
      exact ⟨ret_int (by rw [EG.out, ← HCMP_.out]; rfl), hB _⟩
theorem rturn_fn (n : Int) : Fn Try.prog 23 #[.int .i64 n] (.int .i64 (turnI n)) := by
  intro w
  go_enter Try.func23, Try.ntmps23
  by_cases h1 : n = 1
  · subst h1
    go_wp2
    go_ret
    exact ⟨rfl, Below.refl _ _⟩
  by_cases h2 : n = 2
  · subst h2
    go_wp2
    go_ret
    exact ⟨rfl, Below.refl _ _⟩
  by_cases h3 : n = 3
  · subst h3
    go_wp2
    go_ret
    exact ⟨rfl, Below.refl _ _⟩
  by_cases h4 : n = 4
  · subst h4
    go_wp2
    go_ret
    exact ⟨rfl, Below.refl _ _⟩
  have b1 : (n == 1) = false := by simpa using h1
  have b2 : (n == 2) = false := by simpa using h2
  have b3 : (n == 3) = false := by simpa using h3
  have b4 : (n == 4) = false := by simpa using h4
  have e : turnI n = n := by simp [turnI, h1, h2, h3, h4]
  have H1_ := hid h1
  clear h1
  have H2_ := hid h2
  clear h2
  have H3_ := hid h3
  clear h3
  have H4_ := hid h4
  clear h4
  have E_ := hid e
  clear e
  go_wp2
  go_ret
  exact ⟨by rw [E_.out]; rfl, Below.refl _ _⟩
theorem first2 (a b : Int) : firstNZ [a, b] = if a = 0 then b else a := by
  simp only [firstNZ]
  split
  · split <;> simp_all
  · rfl
/-- Where the first one is not the nearer one. -/
theorem rcmp_ge (p q : Sett) (hp : inR p.n) (hq : inR q.n) (h0 : ¬ (p.g = q.g ∧ p.n < q.n)) : Fn Try.prog 17 #[.agg (sa p), .agg (sa q)] (.int .i64 (cmpS p q)) := by
  intro w
  have e : cmpS p q = if p.g = q.g then wayI p q else if grandI p q < 0 then 1 else 3 := rfl
  generalize cmpS p q = v at *
  have n1 : ∀ h, (sa p)[13]'h = .int .i64 p.n := sa_at13 p
  have n2 : ∀ h, (sa q)[13]'h = .int .i64 q.n := sa_at13 q
  obtain ⟨p1, p2⟩ := hp
  obtain ⟨q1, q2⟩ := hq
  have f2 := rgrand_fn p q
  by_cases h : p.g = q.g
  · rw [if_pos h] at e
    have h3 : ¬ p.n < q.n := fun x => h0 ⟨h, x⟩
    clear h0 f2
    unfold wayI at e
    by_cases h1 : q.n < p.n
    · rw [if_pos h1] at e
      by_cases h2 : q.n < p.n - 1
      · rw [if_pos h2] at e
        subst e
        have hb : (p.n - 1 != q.n) = true := by simp; omega
        go_enter Try.func17, Try.ntmps17
        go_wp2
        go_ret
        exact ⟨rfl, below2 _ _ _⟩
      · rw [if_neg h2] at e
        have hb : (p.n - 1 != q.n) = false := by simp; omega
        unfold nearI at e
        have f1 := rcmpC_fn p.r.c p.s.c
        have bd := cmpC_bd p.r.c p.s.c
        generalize cmpC p.r.c p.s.c = n at *
        obtain ⟨bd1, bd2⟩ := bd
        clear h2
        have F1_ := hid f1
        clear f1
        have BD1_ := hid bd1
        clear bd1
        have BD2_ := hid bd2
        clear bd2
        have E_ := hid e
        clear e
        go_enter Try.func17, Try.ntmps17
        go_wp2_with fail
        refine cutc_box2 fun W g1 _ g2 _ _ hB => ?_
        refine F1_.out.c fun m => ?_
        dsimp only
        by_cases k1 : n < 0
        · obtain rfl : n = -1 := by have := BD1_.out; omega
          go_wp2
          go_ret
          exact ⟨by rw [E_.out]; rfl, hB _⟩
        by_cases k2 : 0 < n
        · obtain rfl : n = 1 := by have := BD2_.out; omega
          go_wp2
          go_ret
          exact ⟨by rw [E_.out]; rfl, hB _⟩
        obtain rfl : n = 0 := by omega
        go_wp2
        go_ret
        exact ⟨by rw [E_.out]; rfl, hB _⟩
    · rw [if_neg h1, if_neg h3, first2] at e
      have f1 := rcmpP_fn p.s q.s
      have bd := cmpP_bd p.s q.s
      generalize cmpP p.s q.s = n at *
      obtain ⟨bd1, bd2⟩ := bd
      have m1 : ∀ h, (sa p)[31]'h = .int .i64 p.r.n := sa_at31 p
      have m2 : ∀ h, (sa q)[31]'h = .int .i64 q.r.n := sa_at31 q
      generalize p.r.n = x at *
      generalize q.r.n = y at *
      have F1_ := hid f1
      clear f1
      have BD1_ := hid bd1
      clear bd1
      have BD2_ := hid bd2
      clear bd2
      have E_ := hid e
      clear e
      go_enter Try.func17, Try.ntmps17
      go_wp2_with fail
      refine cutc_box2 fun W g1 _ g2 _ _ hB => ?_
      refine F1_.out.c fun m => ?_
      dsimp only
      by_cases k1 : n < 0
      · obtain rfl : n = -1 := by have := BD1_.out; omega
        go_wp2
        go_ret
        exact ⟨by rw [E_.out]; rfl, hB _⟩
      by_cases k2 : 0 < n
      · obtain rfl : n = 1 := by have := BD2_.out; omega
        go_wp2
        go_ret
        exact ⟨by rw [E_.out]; rfl, hB _⟩
      obtain rfl : n = 0 := by omega
      by_cases k3 : x < y
      · go_wp2
        go_ret
        exact ⟨by rw [E_.out]; simp [cmpI, k3], hB _⟩
      by_cases k4 : y < x
      · go_wp2
        go_ret
        exact ⟨by rw [E_.out]; simp [cmpI, k3, k4], hB _⟩
      go_wp2
      go_ret
      exact ⟨by rw [E_.out, show cmpI x y = 0 by unfold cmpI; rw [if_neg (by omega), if_neg (by omega)]]; rfl, hB _⟩
  · rw [if_neg h] at e
    clear h0
    generalize grandI p q = n at *
    have F2_ := hid f2
    clear f2
    go_enter Try.func17, Try.ntmps17
    go_wp2_with fail
    refine cutc_box2 fun W g1 _ g2 _ _ hB => ?_
    refine F2_.out.c fun m => ?_
    dsimp only
    by_cases hn : n < 0
    · rw [if_pos hn] at e
      subst e
      go_wp2
      go_ret
      exact ⟨rfl, hB _⟩
    · rw [if_neg hn] at e
      subst e
      go_wp2
      go_ret
      exact ⟨rfl, hB _⟩
theorem rcmp_fn (p q : Sett) (hp : inR p.n) (hq : inR q.n) : Fn Try.prog 17 #[.agg (sa p), .agg (sa q)] (.int .i64 (cmpS p q)) := by
  by_cases h0 : p.g = q.g ∧ p.n < q.n
  · obtain ⟨h, hlt⟩ := h0
    intro w
    have f1 := rcmp_ge q p hq hp (fun x => by omega)
    have e : turnI (cmpS q p) = cmpS p q := by
      have e1 : wayI q p = if p.n < q.n - 1 then 3 else nearI q := by unfold wayI; rw [if_pos hlt]
      have e2 : wayI p q = if p.n < q.n - 1 then 1 else turnI (nearI q) := by unfold wayI; rw [if_neg (by omega), if_pos hlt]
      unfold cmpS
      rw [if_pos h.symm, if_pos h, e1, e2]
      split <;> rfl
    generalize cmpS p q = v at *
    generalize cmpS q p = u at *
    subst e
    have n1 : ∀ h, (sa p)[13]'h = .int .i64 p.n := sa_at13 p
    have n2 : ∀ h, (sa q)[13]'h = .int .i64 q.n := sa_at13 q
    clear hp hq
    have F1_ := hid f1
    clear f1
    go_enter Try.func17, Try.ntmps17
    go_wp2_with fail
    refine cutc_box2 fun W g1 _ g2 _ _ hB => ?_
    refine F1_.out.c fun m => ?_
    dsimp only
    go_wp2_with fail
    refine (rturn_fn u).c fun m => ?_
    dsimp only
    go_wp2
    go_ret
    exact ⟨rfl, hB _⟩
  · exact rcmp_ge p q hp hq h0
theorem rlessS_fn (p q : Sett) (hp : inR p.n) (hq : inR q.n) : Fn Try.prog 21 #[.agg (sa p), .agg (sa q)] (.bool (lessS p q)) := by
  intro w
  have f1 := rcmp_fn p q hp hq
  have e : lessS p q = (decide (cmpS p q = 1) || decide (cmpS p q = 2)) := rfl
  generalize lessS p q = v at *
  generalize cmpS p q = n at *
  clear hp hq
  have F1_ := hid f1
  clear f1
  have E_ := hid e
  clear e
  go_enter Try.func21, Try.ntmps21
  go_wp2_with fail
  refine cutc_box2 fun W g1 _ g2 _ _ hB => ?_
  refine F1_.out.c fun m => ?_
  dsimp only
  by_cases h1 : n = 1
  · subst h1
    go_wp2
    go_ret
    exact ⟨by rw [E_.out]; rfl, hB _⟩
  by_cases h2 : n = 2
  · subst h2
    go_wp2
    go_ret
    exact ⟨by rw [E_.out]; rfl, hB _⟩
  have b1 : (n == 1) = false := by simpa using h1
  have b2 : (n == 2) = false := by simpa using h2
  have e' := E_.out
  rw [decide_eq_false h1, decide_eq_false h2] at e'
  subst e'
  clear E_ h1 h2
  go_wp2
  go_ret
  exact ⟨rfl, hB _⟩
end Go.Proofs.Ytcjbopobgpfjlaa
