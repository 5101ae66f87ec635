/-
  The law DecideIdle: it answers true. No condition.
-/
import Derived.Test.YtmibpmijcghpaaaLaB
namespace Go.Proofs.Ytmibpmijcghpaaa
open Go.RowKit

theorem idle_law (me : Sett) (xs : List Cho) (ss : List Int) (k : Nat) (hk : k < xs.length) : (portC me xs k (stC ss k) = 0 ↔ ((ss.length ≤ k ∨ stC ss k = 1 ∨ stC ss k = 2 ∨ stC ss k = 3) ∨ (stC ss k = 4 ∧ (xs.getD k zeroCh).is = false))) := by
  have h3 : ss.length ≤ k → stC ss k = 3 := fun h => by unfold stC; rw [if_neg (by omega)]
  rcases portC_cases me xs k (stC ss k) with ⟨h, e⟩ | ⟨h1, h2, e⟩
  · refine ⟨fun _ => ?_, fun _ => e⟩
    rw [Int.toNat_natCast] at h
    rcases h with (h | h | h) | h
    · omega
    · omega
    · exact .inl (.inr h)
    · exact .inr h
  · have hne : portC me xs k (stC ss k) ≠ 0 := by
      rw [e]
      rcases codeC_cases me xs (k : Int).toNat with ⟨_, _, e⟩ | ⟨_, _, e⟩ | ⟨_, _, e⟩ | ⟨_, _, ⟨_, e⟩ | e | e⟩ <;> rw [e] <;> decide
    refine ⟨fun h => absurd h hne, fun h => ?_⟩
    rw [Int.toNat_natCast] at h2
    rcases h with (h | h) | h
    · exact absurd (.inr (.inr (.inr (.inr (h3 h))))) h1
    · exact absurd (.inr (.inr h)) h1
    · exact absurd h h2
set_option maxRecDepth 100000 in
set_option maxHeartbeats 2000000 in
theorem lidle_fn (me : Sett) (xs : List Cho) (hl : xs.length ≤ 9223372036854775807) (hR : ∀ k, k < xs.length → inR (xs.getD k zeroCh).s.n) (hM : inR me.n) (ss : List Int) (hs : ss.length ≤ 9223372036854775807) (a a2 : Option Addr) (cap cap2 : Nat) (w : World) (hX : RowsIn cha zeroCh 33 w a xs) (hS : RowsIn i1 0 1 w a2 ss) :
    Calls Try.prog 8 #[.agg (sa me), .slice a xs.length cap, .slice a2 ss.length cap2] w fun e w' => e = .returned (.bool true) ∧ Below w.heap.size w w' := by
  have hX' := fun d => hX.gr (by decide) d
  have hS' := fun d => hS.gr (by decide) d
  clear hX hS
  have HX'_ := hid hX'
  clear hX'
  have HS'_ := hid hS'
  clear hS'
  have HR_ := hid hR
  clear hR
  have HM_ := hid hM
  clear hM
  go_enter Try.func8, Try.ntmps8
  rw [gr_self w]
  go_upto_region 1 with (fail)
  obtain ⟨W0, c, hE, ec, r3, u0⟩ := alloc1 w w (sa me) 29
  rw [hE]
  simp only [ec]
  clear hE ec
  have fin : ∀ d, Below (gr w w).heap.size (gr w w) (gr W0 d) := fun d => by
    obtain ⟨y, hy⟩ := u0 d
    rw [hy, ← gr_self w]
    exact gr_below w y
  by_cases q1 : 60 < xs.length
  · clear u0
    have FIN_ := hid fin
    clear fin
    go_wp2_with fail
    refine alive10_fn.c fun m => ?_
    dsimp only
    go_wp2
    go_ret
    exact ⟨rfl, FIN_.out _⟩
  by_cases q2 : 100 < ss.length
  · clear u0
    have FIN_ := hid fin
    clear fin
    go_wp2_with fail
    refine alive10_fn.c fun m => ?_
    dsimp only
    go_wp2
    go_ret
    exact ⟨rfl, FIN_.out _⟩
  clear fin
  have U0_ := hid u0
  clear u0
  go_upto_region 3 with (fail)
  go_cut [23, 24, 25] (fun v0 v1 v2 wr => ∃ V a' cap', v0 = .slice a' xs.length cap' ∧ v1 = .int .i64 xs.length ∧ v2 = .int .i64 0 ∧ (∀ d, RowsIn i1 0 1 (gr V d) a' (allP me xs ss xs.length)) ∧ (∀ d, ∃ d', gr V d = gr W0 d') ∧ wr = gr V V)
  case first =>
    refine wp_region_fork W0 [1, 3, 6] 0 2 [4, 5] (by kernel_rfl) (by kernel_rfl) (fun c a b w hd h => And.intro (hd.symm.trans (And.left h)) (And.right h)) ⟨_, rfl⟩ rfl rfl rfl ?_
    simp only [selL, List.filterMap_cons, List.filterMap_nil, List.getElem?_cons_zero, List.getElem?_cons_succ]
    refine (show wpQuiet _ _ _ _ [_, _, _] _ from ?_)
    repeat (go_big_quiet_step (fail))
    refine wpQuiet_nil ?_
    rintro _ ⟨y, rfl⟩
    constructor
    · go_wp2_with fail
      refine own_c xs (by omega) a cap (upX U0_.out HX'_.out) ?_
      intro W1 a' cap' hX1 u1
      dsimp only
      have r3 := upr u1 r3
      have hS1 := upI u1 (upI U0_.out HS'_.out)
      have HX1_ := hid hX1
      clear hX1
      have U1_ := hid u1
      clear u1
      have HS1_ := hid hS1
      clear hS1
      go_wp2_with fail
      refine Ints.c (dall_c me xs (by omega) HR_.out HM_.out ss (by omega) HX1_.out HS1_.out) fun W2 a3 cap3 hI u2 => ?_
      dsimp only
      simp only [allP_len]
      have u := up2 u2 U1_.out
      clear r3 u2
      have HI_ := hid hI
      clear hI
      have U_ := hid u
      clear u
      go_wp2
      go_meet
      case rel => exact ⟨W2, a3, cap3, rfl, rfl, rfl, HI_.out, U_.out, rfl⟩
    · go_wp2_with fail
      refine own_c xs (by omega) a cap (upX U0_.out HX'_.out) ?_
      intro W1 a' cap' hX1 u1
      dsimp only
      have r3 := upr u1 r3
      have hS1 := upI u1 (upI U0_.out HS'_.out)
      have HX1_ := hid hX1
      clear hX1
      have U1_ := hid u1
      clear u1
      have HS1_ := hid hS1
      clear hS1
      go_wp2_with fail
      refine Ints.c (dall_c me xs (by omega) HR_.out HM_.out ss (by omega) HX1_.out HS1_.out) fun W2 a3 cap3 hI u2 => ?_
      dsimp only
      simp only [allP_len]
      have u := up2 u2 U1_.out
      clear r3 u2
      have HI_ := hid hI
      clear hI
      have U_ := hid u
      clear u
      go_wp2
      go_meet
      case rel => exact ⟨W2, a3, cap3, rfl, rfl, rfl, HI_.out, U_.out, rfl⟩
  case rest =>
    obtain ⟨V, a', cap', rfl, rfl, rfl, hI, u, rfl⟩ := hcut
    have hS1 := upI u (upI U0_.out HS'_.out)
    have hX1 := upX u (upX U0_.out HX'_.out)
    have u := up2 u U0_.out
    have hle := allP_len me xs ss xs.length
    have hg := fun k h => allP_get me xs ss xs.length k h
    have hlaw := idle_law me xs ss
    have fin : ∀ m, Below (gr w w).heap.size (gr w w) (gr V m) := fun m => by
      obtain ⟨y, hy⟩ := u m
      rw [hy, ← gr_self w]
      exact gr_below w y
    clear U0_ HX'_ HS'_ HR_ HM_ r3 u
    have FIN_ := hid fin
    clear fin
    have HI_ := hid hI
    clear hI
    have HS1_ := hid hS1
    clear hS1
    have HX1_ := hid hX1
    clear hX1
    have HG_ := hid hg
    clear hg
    have HLAW_ := hid hlaw
    clear hlaw
    go_wp2
    go_loopw [25] (fun i wr => ∃ (j : Nat), j ≤ xs.length ∧ i = .int .i64 j ∧ wr = gr V V) (fun i _ => xs.length - (intOf i).toNat)
    case atStart => exact ⟨0, by omega, rfl, rfl⟩
    case round =>
      obtain ⟨j, hj, rfl, rfl⟩ := hrel
      by_cases hjt : j < xs.length
      · have hne : xs ≠ [] := by intro e; rw [e] at hjt; simp at hjt
        obtain ⟨b, off, rfl, hc⟩ := i1_at HI_.out j (by omega)
        obtain ⟨b1, off1, rfl, _⟩ := (HX1_.out V).at hne
        have s1 := fun d => ((show RowsAt cha zeroCh 33 (gr V d) b1 off1 xs from by obtain ⟨c', off', e, hs⟩ := (HX1_.out d).at hne; cases e; exact hs) j hjt).1
        have s2 := fun d => ((show RowsAt cha zeroCh 33 (gr V d) b1 off1 xs from by obtain ⟨c', off', e, hs⟩ := (HX1_.out d).at hne; cases e; exact hs) j hjt).2
        have s3 : ∀ d, (row? (gr V d) b1)[off1 + j * 33 + 32]? = some (.bool (xs.getD j zeroCh).is) := fun d => by rw [sub_get (s2 d) (s1 d) 32 (by omega), cha_32]
        rw [HG_.out j hjt] at hc
        have hl2 := HLAW_.out j hjt
        have hjt2 : (j : Int) < (xs.length : Int) := by omega
        clear s1 s2 HG_ HLAW_ HX1_
        generalize portC me xs j (stC ss j) = v at *
        generalize (xs.getD j zeroCh).is = bi at *
        by_cases ht : j < ss.length
        · have hst : stC ss j = ss.getD j 0 := by unfold stC; rw [if_pos ht]
          obtain ⟨b2, off2, rfl, hc2⟩ := i1_at HS1_.out j ht
          have ht2 : (j : Int) < (ss.length : Int) := by omega
          rw [← hst] at hc2
          generalize stC ss j = st at *
          clear hst HI_ HS1_
          by_cases t1 : st = 1
          · have hv : v = 0 := hl2.2 (by omega)
            subst t1 hv
            clear hl2
            go_wp2
            exact ⟨⟨j + 1, by omega, by go_num, by first | trivial | rfl⟩, by simp [intOf]; omega⟩
          by_cases t2 : st = 2
          · have hv : v = 0 := hl2.2 (by omega)
            subst t2 hv
            clear hl2
            go_wp2
            exact ⟨⟨j + 1, by omega, by go_num, by first | trivial | rfl⟩, by simp [intOf]; omega⟩
          by_cases t3 : st = 3
          · have hv : v = 0 := hl2.2 (by omega)
            subst t3 hv
            clear hl2
            go_wp2
            exact ⟨⟨j + 1, by omega, by go_num, by first | trivial | rfl⟩, by simp [intOf]; omega⟩
          by_cases t4 : st = 4
          · cases bi with
            | false =>
              have hv : v = 0 := hl2.2 (.inr ⟨t4, rfl⟩)
              subst t4 hv
              clear hl2
              go_wp2
              exact ⟨⟨j + 1, by omega, by go_num, by first | trivial | rfl⟩, by simp [intOf]; omega⟩
            | true =>
              have hv : ¬ v = 0 := fun h => by
                rcases hl2.1 h with (h | h | h | h) | ⟨_, h⟩
                · omega
                · omega
                · omega
                · omega
                · cases h
              have hv2 : (v == 0) = false := by simp [hv]
              subst t4
              clear hl2
              go_wp2
              exact ⟨⟨j + 1, by omega, by go_num, by first | trivial | rfl⟩, by simp [intOf]; omega⟩
          · have hv : ¬ v = 0 := fun h => by
              rcases hl2.1 h with h | ⟨h, _⟩ <;> omega
            have hv2 : (v == 0) = false := by simp [hv]
            have t0 : (decide (ss.length ≤ j) || st == 1 || st == 2 || st == 3) = false := by simp [t1, t2, t3]; omega
            have t5 : (st == 4) = false := by simp [t4]
            clear hl2
            go_wp2
            trace_state
            exact ⟨⟨j + 1, by omega, by go_num, by first | trivial | rfl⟩, by simp [intOf]; omega⟩
        · have hv : v = 0 := hl2.2 (by omega)
          have ht2 : ¬ (j : Int) < (ss.length : Int) := by omega
          subst hv
          clear hl2 HS1_ HI_
          go_wp2
          exact ⟨⟨j + 1, by omega, by go_num, by first | trivial | rfl⟩, by simp [intOf]; omega⟩
      · obtain rfl : j = xs.length := by omega
        clear HI_ HX1_ HS1_ HG_ HLAW_
        go_wp2_with fail
        refine alive10_fn.c fun m => ?_
        dsimp only
        go_wp2
        go_ret
        exact ⟨rfl, FIN_.out _⟩
end Go.Proofs.Ytmibpmijcghpaaa
