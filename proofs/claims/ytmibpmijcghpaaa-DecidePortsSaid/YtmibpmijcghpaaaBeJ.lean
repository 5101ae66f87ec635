/-
  The walk of the reference's Port. No condition but the numbers' range, and that there are at most 1000.
-/
import Derived.Test.YtmibpmijcghpaaaBeI
namespace Go.Proofs.Ytmibpmijcghpaaa
open Go.RowKit

set_option maxRecDepth 100000 in
set_option maxHeartbeats 4000000 in
theorem rport_fn (me : Sett) (xs : List Cho) (hl : xs.length ≤ 1000) (hR : ∀ k, k < xs.length → inR (xs.getD k zeroCh).s.n) (hM : inR me.n) {W : World} {a : Option Addr} {cap : Nat} (hX : ∀ d, RowsIn cha zeroCh 33 (gr W d) a xs) (k st : Int) :
    Fg Try.prog 17 #[.agg (sa me), .slice a xs.length cap, .int .i64 k, .int .i64 st] (.int .i64 (portC me xs k st)) W := by
  intro d
  by_cases h1 : k < 0
  · have hv : portC me xs k st = 0 := by unfold portC; rw [if_pos (.inl h1)]
    rw [hv]
    clear hR hX hM hv
    go_enter Try.func17, Try.ntmps17
    go_upto_region 1 with (fail)
    obtain ⟨W0, c, hE, ec, r4, u0⟩ := alloc1 W d (sa me) 29
    rw [hE]
    simp only [ec]
    clear hE ec
    go_wp2
    go_ret
    exact ⟨rfl, u0 _⟩
  · by_cases h2 : (xs.length : Int) ≤ k
    · have hv : portC me xs k st = 0 := by unfold portC; rw [if_pos (.inr (.inl h2))]
      rw [hv]
      clear hR hX hM hv
      go_enter Try.func17, Try.ntmps17
      go_upto_region 1 with (fail)
      obtain ⟨W0, c, hE, ec, r4, u0⟩ := alloc1 W d (sa me) 29
      rw [hE]
      simp only [ec]
      clear hE ec
      go_wp2
      go_ret
      exact ⟨rfl, u0 _⟩
    · obtain ⟨n, rfl⟩ : ∃ n : Nat, k = n := ⟨k.toNat, by omega⟩
      have hn : n < xs.length := by omega
      have hn2 : (n : Int) < (xs.length : Int) := by omega
      have h0 : xs ≠ [] := by intro e; rw [e] at hn; simp at hn
      obtain ⟨b, off, rfl, _⟩ := (hX W).at h0
      have hA : ∀ d, RowsAt cha zeroCh 33 (gr W d) b off xs := fun d => by
        obtain ⟨c', off', e, hs⟩ := (hX d).at h0
        cases e
        exact hs
      have hp := hR n hn
      have hv : portC me xs n st = if st = 1 ∨ st = 2 ∨ st = 3 then 0 else if st = 4 ∧ (xs.getD n zeroCh).is = false then 0 else if leadsC me then (if betterC ⟨me, true⟩ (xs.getD n zeroCh) then 1 else 5) else if betterC ⟨me, true⟩ (bestC xs) then 2 else if allC xs = (n : Int) then 4 else if byWayC (bestC xs) (xs.getD n zeroCh) then 6 else 3 := by
        unfold portC codeC
        simp only [h1, h2, false_or, Int.toNat_natCast]
      generalize portC me xs n st = v at *
      have hlead : leadsC me = (decide (1 ≤ me.x) && decide (me.x ≤ 127)) := rfl
      have HV_ := hid hv
      clear hv
      have HLEAD_ := hid hlead
      clear hlead
      go_enter Try.func17, Try.ntmps17
      go_upto_region 1 with (fail)
      obtain ⟨W0, c, hE, ec, r4, u0⟩ := alloc1 W d (sa me) 29
      rw [hE]
      simp only [ec]
      clear hE ec
      have hx : ∀ d, (row? (gr W0 d) c)[2]? = some (.int .i64 me.x) := fun d => by rw [r4, sa_2]
      by_cases t1 : st = 1
      · clear hA hX hR
        subst t1
        go_wp2
        go_ret
        exact ⟨by rw [HV_.out]; simp, u0 _⟩
      by_cases t2 : st = 2
      · clear hA hX hR
        subst t2
        go_wp2
        go_ret
        exact ⟨by rw [HV_.out]; simp, u0 _⟩
      by_cases t3 : st = 3
      · clear hA hX hR
        subst t3
        go_wp2
        go_ret
        exact ⟨by rw [HV_.out]; simp, u0 _⟩
      have t0 : (st == 1 || st == 2 || st == 3) = false := by simp [t1, t2, t3]
      have HX_ := hid hX
      clear hX
      have HR_ := hid hR
      clear hR
      have HA_ := hid hA
      clear hA
      have U0_ := hid u0
      clear u0
      go_upto_region 3 with (fail)
      go_upto_region 4 with (fail)
      obtain ⟨W1, hE, r9, _, u1, _⟩ := newblk W0 W0 (cha zeroCh) (cha ⟨me, true⟩) 45 (by simp)
      rw [hE]
      clear hE
      generalize (gr W0 W0).heap.size = b9 at *
      have hX1 := upX u1 (upX U0_.out HX_.out)
      have u1' := up2 u1 U0_.out
      have s1 := fun d => ((show RowsAt cha zeroCh 33 (gr W1 d) b off xs from by obtain ⟨c', off', e, hs⟩ := (hX1 d).at h0; cases e; exact hs) n hn).1
      have s2 := fun d => ((show RowsAt cha zeroCh 33 (gr W1 d) b off xs from by obtain ⟨c', off', e, hs⟩ := (hX1 d).at h0; cases e; exact hs) n hn).2
      have r4 := upr u1 r4
      generalize xs.getD n zeroCh = p at *
      have HX1_ := hid hX1
      clear hX1
      have U1'_ := hid u1'
      clear u1'
      clear U0_ HX_ HA_ u1 hx
      go_upto_region 5 with (fail)
      obtain ⟨W2, hE, r10, _, u2, _⟩ := newblk W1 W1 (cha zeroCh) (cha p) 45 (by simp)
      rw [hE]
      clear hE s1 s2
      generalize (gr W1 W1).heap.size = b10 at *
      have hX2 := upX u2 HX1_.out
      have u3 := up2 u2 U1'_.out
      have r4 := upr u2 r4
      have r9 := upr u2 r9
      clear U1'_ HX1_ u2
      have hx : ∀ d, (row? (gr W2 d) c)[2]? = some (.int .i64 me.x) := fun d => by rw [r4, sa_2]
      have e1 : ∀ d, (row? (gr W2 d) b10)[32]? = some (.bool p.is) := fun d => by rw [r10, cha_32]
      have HX2_ := hid hX2
      clear hX2
      have U3_ := hid u3
      clear u3
      have f1 := rbetter_fn ⟨me, true⟩ p hM hp
      have hf := rall_fn xs hl HR_.out (some ⟨b, off, none⟩) cap HX2_.out
      have F1_ := hid f1
      clear f1
      have HF_ := hid hf
      clear hf
      by_cases t4 : st = 4 ∧ p.is = false
      · obtain ⟨t4, t5⟩ := t4
        rw [t5] at e1
        subst t4
        clear t1 t2 t3 t0
        go_wp2
        go_ret
        exact ⟨by rw [HV_.out]; simp [t5], U3_.out _⟩
      have hcase : (st = 4 ∧ p.is = true) ∨ ¬ st = 4 := by
        by_cases h : st = 4
        · exact .inl ⟨h, by cases hi : p.is <;> simp_all⟩
        · exact .inr h
      clear t4
      rcases hcase with ⟨t4, t5⟩ | t4
      · rw [t5] at e1
        subst t4
        clear t1 t2 t3 t0
        by_cases l1 : 1 ≤ me.x
        · by_cases l2 : me.x ≤ 127
          · have el : leadsC me = true := by rw [HLEAD_.out]; simp [l1, l2]
            have hv := HV_.out
            rw [el] at hv
            have f1 := F1_.out
            generalize betterC ⟨me, true⟩ p = b1 at *
            clear el HV_ HF_ HX2_ HR_ HLEAD_ F1_
            have HV_ := hid hv
            clear hv
            have F1_ := hid f1
            clear f1
            go_wp2_with fail
            refine F1_.out.c fun m => ?_
            dsimp only
            cases b1 with
            | true =>
              go_wp2
              go_ret
              exact ⟨by rw [HV_.out]; simp [t5], U3_.out _⟩
            | false =>
              go_wp2
              go_ret
              exact ⟨by rw [HV_.out]; simp [t5], U3_.out _⟩
          · have el : leadsC me = false := by rw [HLEAD_.out]; simp [l2]
            rcases allC_spec xs with ⟨ea, _⟩ | ⟨j, hj, ea, _⟩
            · have eb : bestC xs = zeroCh := by unfold bestC; rw [if_pos (by omega)]
              have hf := HF_.out
              rw [ea] at hf
              have hv := HV_.out
              rw [el, eb, ea] at hv
              clear el eb ea HF_ HV_ HR_
              have HF_ := hid hf
              clear hf
              have HV_ := hid hv
              clear hv
              go_wp2_with fail
              refine HF_.out.c fun m => ?_
              dsimp only
              go_upto_region 12 with (fail)
              refine wp_region_gr W2 (by kernel_rfl) (by kernel_rfl) ⟨_, rfl⟩ ?_
              repeat (go_big_quiet_step (fail))
              refine wpQuiet_nil ?_
              rintro _ ⟨y, rfl⟩
              go_wp2
              go_ret
              exact ⟨by rw [HV_.out]; simp [t5, betterC, zeroCh], U3_.out _⟩
            · have eb : bestC xs = xs.getD j zeroCh := by unfold bestC; rw [ea, if_neg (by omega)]; rfl
              have hf := HF_.out
              rw [ea] at hf
              have hv := HV_.out
              rw [el, eb, ea] at hv
              have j0 : decide ((j : Int) < 0) = false := by simp
              have hj2 : (j : Int) < (xs.length : Int) := by omega
              have hq := HR_.out j hj
              have z1 := fun d => ((show RowsAt cha zeroCh 33 (gr W2 d) b off xs from by obtain ⟨c', off', e, hs⟩ := (HX2_.out d).at h0; cases e; exact hs) j hj).1
              have z2 := fun d => ((show RowsAt cha zeroCh 33 (gr W2 d) b off xs from by obtain ⟨c', off', e, hs⟩ := (HX2_.out d).at h0; cases e; exact hs) j hj).2
              generalize xs.getD j zeroCh = q at *
              have f2 := rbetter_fn ⟨me, true⟩ q hM hq
              have f3 := rbyWay_fn q p hq hp
              generalize betterC ⟨me, true⟩ q = b2 at *
              generalize byWayC q p = b3 at *
              clear el eb ea HF_ HV_ HR_ HX2_ F1_
              have HF_ := hid hf
              clear hf
              have HV_ := hid hv
              clear hv
              have F2_ := hid f2
              clear f2
              have F3_ := hid f3
              clear f3
              go_wp2_with fail
              refine HF_.out.c fun m => ?_
              dsimp only
              go_upto_region 12 with (fail)
              refine wp_region_gr W2 (by kernel_rfl) (by kernel_rfl) ⟨_, rfl⟩ ?_
              repeat (go_big_quiet_step (((go_at_call 18; exact F2_.out.q))))
              refine wpQuiet_nil ?_
              rintro _ ⟨y, rfl⟩
              cases b2 with
              | true =>
                go_wp2
                go_ret
                exact ⟨by rw [HV_.out]; simp [t5], U3_.out _⟩
              | false =>
                by_cases h9 : (j : Int) = (n : Int)
                · obtain rfl : j = n := by omega
                  go_wp2
                  go_ret
                  exact ⟨by rw [HV_.out]; simp [t5], U3_.out _⟩
                · have h10 : ¬ j = n := fun e => h9 (by omega)
                  go_upto_region 16 with (fail)
                  refine wp_region_gr W2 (by kernel_rfl) (by kernel_rfl) ⟨_, rfl⟩ ?_
                  repeat (go_big_quiet_step (((go_at_call 21; exact F3_.out.q))))
                  refine wpQuiet_nil ?_
                  rintro _ ⟨y, rfl⟩
                  cases b3 with
                  | true =>
                    go_wp2
                    go_ret
                    exact ⟨by rw [HV_.out]; simp [t5, h9, h10], U3_.out _⟩
                  | false =>
                    go_wp2
                    go_ret
                    exact ⟨by rw [HV_.out]; simp [t5, h9, h10], U3_.out _⟩
        · have el : leadsC me = false := by rw [HLEAD_.out]; simp [l1]
          rcases allC_spec xs with ⟨ea, _⟩ | ⟨j, hj, ea, _⟩
          · have eb : bestC xs = zeroCh := by unfold bestC; rw [if_pos (by omega)]
            have hf := HF_.out
            rw [ea] at hf
            have hv := HV_.out
            rw [el, eb, ea] at hv
            clear el eb ea HF_ HV_ HR_
            have HF_ := hid hf
            clear hf
            have HV_ := hid hv
            clear hv
            go_wp2_with fail
            refine HF_.out.c fun m => ?_
            dsimp only
            go_upto_region 12 with (fail)
            refine wp_region_gr W2 (by kernel_rfl) (by kernel_rfl) ⟨_, rfl⟩ ?_
            repeat (go_big_quiet_step (fail))
            refine wpQuiet_nil ?_
            rintro _ ⟨y, rfl⟩
            go_wp2
            go_ret
            exact ⟨by rw [HV_.out]; simp [t5, betterC, zeroCh], U3_.out _⟩
          · have eb : bestC xs = xs.getD j zeroCh := by unfold bestC; rw [ea, if_neg (by omega)]; rfl
            have hf := HF_.out
            rw [ea] at hf
            have hv := HV_.out
            rw [el, eb, ea] at hv
            have j0 : decide ((j : Int) < 0) = false := by simp
            have hj2 : (j : Int) < (xs.length : Int) := by omega
            have hq := HR_.out j hj
            have z1 := fun d => ((show RowsAt cha zeroCh 33 (gr W2 d) b off xs from by obtain ⟨c', off', e, hs⟩ := (HX2_.out d).at h0; cases e; exact hs) j hj).1
            have z2 := fun d => ((show RowsAt cha zeroCh 33 (gr W2 d) b off xs from by obtain ⟨c', off', e, hs⟩ := (HX2_.out d).at h0; cases e; exact hs) j hj).2
            generalize xs.getD j zeroCh = q at *
            have f2 := rbetter_fn ⟨me, true⟩ q hM hq
            have f3 := rbyWay_fn q p hq hp
            generalize betterC ⟨me, true⟩ q = b2 at *
            generalize byWayC q p = b3 at *
            clear el eb ea HF_ HV_ HR_ HX2_ F1_
            have HF_ := hid hf
            clear hf
            have HV_ := hid hv
            clear hv
            have F2_ := hid f2
            clear f2
            have F3_ := hid f3
            clear f3
            go_wp2_with fail
            refine HF_.out.c fun m => ?_
            dsimp only
            go_upto_region 12 with (fail)
            refine wp_region_gr W2 (by kernel_rfl) (by kernel_rfl) ⟨_, rfl⟩ ?_
            repeat (go_big_quiet_step (((go_at_call 18; exact F2_.out.q))))
            refine wpQuiet_nil ?_
            rintro _ ⟨y, rfl⟩
            cases b2 with
            | true =>
              go_wp2
              go_ret
              exact ⟨by rw [HV_.out]; simp [t5], U3_.out _⟩
            | false =>
              by_cases h9 : (j : Int) = (n : Int)
              · obtain rfl : j = n := by omega
                go_wp2
                go_ret
                exact ⟨by rw [HV_.out]; simp [t5], U3_.out _⟩
              · have h10 : ¬ j = n := fun e => h9 (by omega)
                go_upto_region 16 with (fail)
                refine wp_region_gr W2 (by kernel_rfl) (by kernel_rfl) ⟨_, rfl⟩ ?_
                repeat (go_big_quiet_step (((go_at_call 21; exact F3_.out.q))))
                refine wpQuiet_nil ?_
                rintro _ ⟨y, rfl⟩
                cases b3 with
                | true =>
                  go_wp2
                  go_ret
                  exact ⟨by rw [HV_.out]; simp [t5, h9, h10], U3_.out _⟩
                | false =>
                  go_wp2
                  go_ret
                  exact ⟨by rw [HV_.out]; simp [t5, h9, h10], U3_.out _⟩
      · by_cases l1 : 1 ≤ me.x
        · by_cases l2 : me.x ≤ 127
          · have el : leadsC me = true := by rw [HLEAD_.out]; simp [l1, l2]
            have hv := HV_.out
            rw [el] at hv
            have f1 := F1_.out
            generalize betterC ⟨me, true⟩ p = b1 at *
            clear el HV_ HF_ HX2_ HR_ HLEAD_ F1_
            have HV_ := hid hv
            clear hv
            have F1_ := hid f1
            clear f1
            go_wp2_with fail
            refine F1_.out.c fun m => ?_
            dsimp only
            cases b1 with
            | true =>
              go_wp2
              go_ret
              exact ⟨by rw [HV_.out]; simp [t1, t2, t3, t4], U3_.out _⟩
            | false =>
              go_wp2
              go_ret
              exact ⟨by rw [HV_.out]; simp [t1, t2, t3, t4], U3_.out _⟩
          · have el : leadsC me = false := by rw [HLEAD_.out]; simp [l2]
            rcases allC_spec xs with ⟨ea, _⟩ | ⟨j, hj, ea, _⟩
            · have eb : bestC xs = zeroCh := by unfold bestC; rw [if_pos (by omega)]
              have hf := HF_.out
              rw [ea] at hf
              have hv := HV_.out
              rw [el, eb, ea] at hv
              clear el eb ea HF_ HV_ HR_
              have HF_ := hid hf
              clear hf
              have HV_ := hid hv
              clear hv
              go_wp2_with fail
              refine HF_.out.c fun m => ?_
              dsimp only
              go_upto_region 12 with (fail)
              refine wp_region_gr W2 (by kernel_rfl) (by kernel_rfl) ⟨_, rfl⟩ ?_
              repeat (go_big_quiet_step (fail))
              refine wpQuiet_nil ?_
              rintro _ ⟨y, rfl⟩
              go_wp2
              go_ret
              exact ⟨by rw [HV_.out]; simp [t1, t2, t3, t4, betterC, zeroCh], U3_.out _⟩
            · have eb : bestC xs = xs.getD j zeroCh := by unfold bestC; rw [ea, if_neg (by omega)]; rfl
              have hf := HF_.out
              rw [ea] at hf
              have hv := HV_.out
              rw [el, eb, ea] at hv
              have j0 : decide ((j : Int) < 0) = false := by simp
              have hj2 : (j : Int) < (xs.length : Int) := by omega
              have hq := HR_.out j hj
              have z1 := fun d => ((show RowsAt cha zeroCh 33 (gr W2 d) b off xs from by obtain ⟨c', off', e, hs⟩ := (HX2_.out d).at h0; cases e; exact hs) j hj).1
              have z2 := fun d => ((show RowsAt cha zeroCh 33 (gr W2 d) b off xs from by obtain ⟨c', off', e, hs⟩ := (HX2_.out d).at h0; cases e; exact hs) j hj).2
              generalize xs.getD j zeroCh = q at *
              have f2 := rbetter_fn ⟨me, true⟩ q hM hq
              have f3 := rbyWay_fn q p hq hp
              generalize betterC ⟨me, true⟩ q = b2 at *
              generalize byWayC q p = b3 at *
              clear el eb ea HF_ HV_ HR_ HX2_ F1_
              have HF_ := hid hf
              clear hf
              have HV_ := hid hv
              clear hv
              have F2_ := hid f2
              clear f2
              have F3_ := hid f3
              clear f3
              go_wp2_with fail
              refine HF_.out.c fun m => ?_
              dsimp only
              go_upto_region 12 with (fail)
              refine wp_region_gr W2 (by kernel_rfl) (by kernel_rfl) ⟨_, rfl⟩ ?_
              repeat (go_big_quiet_step (((go_at_call 18; exact F2_.out.q))))
              refine wpQuiet_nil ?_
              rintro _ ⟨y, rfl⟩
              cases b2 with
              | true =>
                go_wp2
                go_ret
                exact ⟨by rw [HV_.out]; simp [t1, t2, t3, t4], U3_.out _⟩
              | false =>
                by_cases h9 : (j : Int) = (n : Int)
                · obtain rfl : j = n := by omega
                  go_wp2
                  go_ret
                  exact ⟨by rw [HV_.out]; simp [t1, t2, t3, t4], U3_.out _⟩
                · have h10 : ¬ j = n := fun e => h9 (by omega)
                  go_upto_region 16 with (fail)
                  refine wp_region_gr W2 (by kernel_rfl) (by kernel_rfl) ⟨_, rfl⟩ ?_
                  repeat (go_big_quiet_step (((go_at_call 21; exact F3_.out.q))))
                  refine wpQuiet_nil ?_
                  rintro _ ⟨y, rfl⟩
                  cases b3 with
                  | true =>
                    go_wp2
                    go_ret
                    exact ⟨by rw [HV_.out]; simp [t1, t2, t3, t4, h9, h10], U3_.out _⟩
                  | false =>
                    go_wp2
                    go_ret
                    exact ⟨by rw [HV_.out]; simp [t1, t2, t3, t4, h9, h10], U3_.out _⟩
        · have el : leadsC me = false := by rw [HLEAD_.out]; simp [l1]
          rcases allC_spec xs with ⟨ea, _⟩ | ⟨j, hj, ea, _⟩
          · have eb : bestC xs = zeroCh := by unfold bestC; rw [if_pos (by omega)]
            have hf := HF_.out
            rw [ea] at hf
            have hv := HV_.out
            rw [el, eb, ea] at hv
            clear el eb ea HF_ HV_ HR_
            have HF_ := hid hf
            clear hf
            have HV_ := hid hv
            clear hv
            go_wp2_with fail
            refine HF_.out.c fun m => ?_
            dsimp only
            go_upto_region 12 with (fail)
            refine wp_region_gr W2 (by kernel_rfl) (by kernel_rfl) ⟨_, rfl⟩ ?_
            repeat (go_big_quiet_step (fail))
            refine wpQuiet_nil ?_
            rintro _ ⟨y, rfl⟩
            go_wp2
            go_ret
            exact ⟨by rw [HV_.out]; simp [t1, t2, t3, t4, betterC, zeroCh], U3_.out _⟩
          · have eb : bestC xs = xs.getD j zeroCh := by unfold bestC; rw [ea, if_neg (by omega)]; rfl
            have hf := HF_.out
            rw [ea] at hf
            have hv := HV_.out
            rw [el, eb, ea] at hv
            have j0 : decide ((j : Int) < 0) = false := by simp
            have hj2 : (j : Int) < (xs.length : Int) := by omega
            have hq := HR_.out j hj
            have z1 := fun d => ((show RowsAt cha zeroCh 33 (gr W2 d) b off xs from by obtain ⟨c', off', e, hs⟩ := (HX2_.out d).at h0; cases e; exact hs) j hj).1
            have z2 := fun d => ((show RowsAt cha zeroCh 33 (gr W2 d) b off xs from by obtain ⟨c', off', e, hs⟩ := (HX2_.out d).at h0; cases e; exact hs) j hj).2
            generalize xs.getD j zeroCh = q at *
            have f2 := rbetter_fn ⟨me, true⟩ q hM hq
            have f3 := rbyWay_fn q p hq hp
            generalize betterC ⟨me, true⟩ q = b2 at *
            generalize byWayC q p = b3 at *
            clear el eb ea HF_ HV_ HR_ HX2_ F1_
            have HF_ := hid hf
            clear hf
            have HV_ := hid hv
            clear hv
            have F2_ := hid f2
            clear f2
            have F3_ := hid f3
            clear f3
            go_wp2_with fail
            refine HF_.out.c fun m => ?_
            dsimp only
            go_upto_region 12 with (fail)
            refine wp_region_gr W2 (by kernel_rfl) (by kernel_rfl) ⟨_, rfl⟩ ?_
            repeat (go_big_quiet_step (((go_at_call 18; exact F2_.out.q))))
            refine wpQuiet_nil ?_
            rintro _ ⟨y, rfl⟩
            cases b2 with
            | true =>
              go_wp2
              go_ret
              exact ⟨by rw [HV_.out]; simp [t1, t2, t3, t4], U3_.out _⟩
            | false =>
              by_cases h9 : (j : Int) = (n : Int)
              · obtain rfl : j = n := by omega
                go_wp2
                go_ret
                exact ⟨by rw [HV_.out]; simp [t1, t2, t3, t4], U3_.out _⟩
              · have h10 : ¬ j = n := fun e => h9 (by omega)
                go_upto_region 16 with (fail)
                refine wp_region_gr W2 (by kernel_rfl) (by kernel_rfl) ⟨_, rfl⟩ ?_
                repeat (go_big_quiet_step (((go_at_call 21; exact F3_.out.q))))
                refine wpQuiet_nil ?_
                rintro _ ⟨y, rfl⟩
                cases b3 with
                | true =>
                  go_wp2
                  go_ret
                  exact ⟨by rw [HV_.out]; simp [t1, t2, t3, t4, h9, h10], U3_.out _⟩
                | false =>
                  go_wp2
                  go_ret
                  exact ⟨by rw [HV_.out]; simp [t1, t2, t3, t4, h9, h10], U3_.out _⟩
end Go.Proofs.Ytmibpmijcghpaaa
