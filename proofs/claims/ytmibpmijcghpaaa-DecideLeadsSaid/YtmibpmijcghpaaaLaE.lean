/-
  The law DecideLeads: it answers true. No condition.
-/
import Derived.Test.YtmibpmijcghpaaaLaB
namespace Go.Proofs.Ytmibpmijcghpaaa
open Go.RowKit

theorem better_none (me : Sett) (p : Cho) (h : p.is = false) : betterC ⟨me, true⟩ p = true := by unfold betterC; rw [h]; rfl
theorem leads_law (me : Sett) (xs : List Cho) (ss : List Int) (h : ∀ k, k < xs.length → (xs.getD k zeroCh).is = true → betterC ⟨me, true⟩ (xs.getD k zeroCh) = true) (k : Nat) (hk : k < xs.length) : portC me xs k (stC ss k) = 0 ∨ portC me xs k (stC ss k) = 1 ∨ portC me xs k (stC ss k) = 2 := by
  have hall : ∀ k, k < xs.length → betterC ⟨me, true⟩ (xs.getD k zeroCh) = true := fun k hk => by
    cases hi : (xs.getD k zeroCh).is with
    | true => exact h k hk hi
    | false => exact better_none me _ hi
  have hb : betterC ⟨me, true⟩ (bestC xs) = true := by
    unfold bestC
    rcases allC_spec xs with ⟨e, _⟩ | ⟨j, hj, e, _⟩
    · rw [e, if_pos (by omega)]; exact better_none me _ rfl
    · rw [e, if_neg (by omega)]; exact hall j hj
  rcases portC_cases me xs k (stC ss k) with ⟨_, e⟩ | ⟨_, _, e⟩
  · exact .inl e
  · rw [Int.toNat_natCast] at e
    rw [e]
    rcases codeC_cases me xs k with ⟨_, _, e⟩ | ⟨_, h1, _⟩ | ⟨_, _, e⟩ | ⟨_, h1, _⟩
    · exact .inr (.inl e)
    · rw [hall k hk] at h1; cases h1
    · exact .inr (.inr e)
    · rw [hb] at h1; cases h1
set_option maxRecDepth 100000 in
set_option maxHeartbeats 2000000 in
theorem lleads_fn (me : Sett) (xs : List Cho) (hl : xs.length ≤ 9223372036854775807) (hR : ∀ k, k < xs.length → inR (xs.getD k zeroCh).s.n) (hM : inR me.n) (ss : List Int) (hs : ss.length ≤ 9223372036854775807) (a a2 : Option Addr) (cap cap2 : Nat) (w : World) (hX : RowsIn cha zeroCh 33 w a xs) (hS : RowsIn i1 0 1 w a2 ss) :
    Calls Try.prog 6 #[.agg (sa me), .slice a xs.length cap, .slice a2 ss.length cap2] w fun e w' => e = .returned (.bool true) ∧ Below w.heap.size w w' := by
  have hX' := fun d => hX.gr (by decide) d
  have hS' := fun d => hS.gr (by decide) d
  clear hX hS
  have HX'_ := hid hX'
  clear hX'
  have HS'_ := hid hS'
  clear hS'
  have HR_ := hid hR
  clear hR
  have HM_ := hid hM
  clear hM
  go_enter Try.func6, Try.ntmps6
  rw [gr_self w]
  go_upto_region 1 with (fail)
  obtain ⟨W0, c, hE, ec, r3, u0⟩ := alloc1 w w (sa me) 29
  rw [hE]
  simp only [ec]
  clear hE ec
  have fin : ∀ d, Below (gr w w).heap.size (gr w w) (gr W0 d) := fun d => by
    obtain ⟨y, hy⟩ := u0 d
    rw [hy, ← gr_self w]
    exact gr_below w y
  by_cases q1 : 60 < xs.length
  · clear u0
    have FIN_ := hid fin
    clear fin
    go_wp2_with fail
    refine alive10_fn.c fun m => ?_
    dsimp only
    go_wp2
    go_ret
    exact ⟨rfl, FIN_.out _⟩
  by_cases q2 : 100 < ss.length
  · clear u0
    have FIN_ := hid fin
    clear fin
    go_wp2_with fail
    refine alive10_fn.c fun m => ?_
    dsimp only
    go_wp2
    go_ret
    exact ⟨rfl, FIN_.out _⟩
  clear fin
  have U0_ := hid u0
  clear u0
  go_wp2
  go_loopw [22] (fun i wr => ∃ (j : Nat) (V : World), j ≤ xs.length ∧ i = .int .i64 j ∧ (∀ k, k < j → (xs.getD k zeroCh).is = true → betterC ⟨me, true⟩ (xs.getD k zeroCh) = true) ∧ (∀ d, ∃ d', gr V d = gr W0 d') ∧ wr = gr V V) (fun i _ => xs.length - (intOf i).toNat)
  case atStart => exact ⟨0, W0, by omega, rfl, by omega, fun d => ⟨d, rfl⟩, rfl⟩
  case round =>
    obtain ⟨j, V, hj, rfl, hall, u, rfl⟩ := hrel
    by_cases hjt : j < xs.length
    · have hne : xs ≠ [] := by intro e; rw [e] at hjt; simp at hjt
      have hX1 := upX u (upX U0_.out HX'_.out)
      obtain ⟨b1, off1, rfl, _⟩ := (hX1 V).at hne
      have s1 := fun d => ((show RowsAt cha zeroCh 33 (gr V d) b1 off1 xs from by obtain ⟨c', off', e, hs⟩ := (hX1 d).at hne; cases e; exact hs) j hjt).1
      have s2 := fun d => ((show RowsAt cha zeroCh 33 (gr V d) b1 off1 xs from by obtain ⟨c', off', e, hs⟩ := (hX1 d).at hne; cases e; exact hs) j hjt).2
      have hp := HR_.out j hjt
      have hM := HM_.out
      have rr := upr u r3
      have step : ((xs.getD j zeroCh).is = true → betterC ⟨me, true⟩ (xs.getD j zeroCh) = true) → ∀ k, k < j + 1 → (xs.getD k zeroCh).is = true → betterC ⟨me, true⟩ (xs.getD k zeroCh) = true := fun h k hk => by
        by_cases e : k = j
        · rw [e]; exact h
        · exact hall k (by omega)
      generalize xs.getD j zeroCh = p at *
      clear hX1 hall r3
      have f1 := rbetter_fn ⟨me, true⟩ p hM hp
      generalize betterC ⟨me, true⟩ p = b at *
      have uu := up2 u U0_.out
      have U_ := hid u
      clear u
      have STEP_ := hid step
      clear step
      have F1_ := hid f1
      clear f1
      have UU_ := hid uu
      clear uu
      clear HX'_ HS'_ hp hM HR_ HM_
      go_upto_region 6 with (fail)
      obtain ⟨W1, hE, r8, _, u1, _⟩ := newblk V V (cha zeroCh) (cha p) 45 (by simp)
      rw [hE]
      clear hE s1 s2
      generalize (gr V V).heap.size = nb at *
      have rr := upr u1 rr
      have r9 : ∀ d, (row? (gr W1 d) nb)[32]? = some (.bool p.is) := fun d => by rw [r8, cha_32]
      have uu := up2 u1 UU_.out
      have u := up2 u1 U_.out
      clear U_ UU_ u1
      have fin : ∀ m, Below (gr w w).heap.size (gr w w) (gr W1 m) := fun m => by
        obtain ⟨y, hy⟩ := uu m
        rw [hy, ← gr_self w]
        exact gr_below w y
      clear uu
      have U_ := hid u
      clear u
      have FIN_ := hid fin
      clear fin
      cases hi : p.is with
      | false =>
        rw [hi] at r9
        go_wp2
        refine ⟨⟨j + 1, W1, by omega, by go_num, ?_, U_.out, by first | trivial | rfl⟩, by simp [intOf]; omega⟩
        exact STEP_.out fun h => by rw [hi] at h; cases h
      | true =>
        rw [hi] at r9
        go_wp2_with fail
        refine F1_.out.c fun m => ?_
        dsimp only
        cases b with
        | false =>
          go_wp2_with fail
          refine alive10_fn.c fun m => ?_
          dsimp only
          go_wp2
          go_ret
          exact ⟨rfl, FIN_.out _⟩
        | true =>
          go_wp2
          refine ⟨⟨j + 1, gr W1 m, by omega, by go_num, ?_, ?_, by first | trivial | exact (gr_self _) | rfl⟩, by simp [intOf]; omega⟩
          · exact STEP_.out fun h => rfl
          · intro d
            obtain ⟨y, hy⟩ := gr_gr W1 m d
            obtain ⟨z, hz⟩ := U_.out y
            exact ⟨z, by rw [hy, hz]⟩
    · obtain rfl : j = xs.length := by omega
      have hlaw := leads_law me xs ss hall
      have r3 := upr u r3
      have u0 := up2 u U0_.out
      clear U0_ u hall
      have U0_ := hid u0
      clear u0
      have HLAW_ := hid hlaw
      clear hlaw
      go_upto_region 9 with (fail)
      go_cut [41, 42, 43] (fun v0 v1 v2 wr => ∃ W9 a' cap', v0 = .slice a' xs.length cap' ∧ v1 = .int .i64 xs.length ∧ v2 = .int .i64 0 ∧ (∀ d, RowsIn i1 0 1 (gr W9 d) a' (allP me xs ss xs.length)) ∧ (∀ d, ∃ d', gr W9 d = gr V d') ∧ wr = gr W9 W9)
      case first =>
        refine wp_region_fork V [1, 3, 6] 0 2 [4, 5] (by kernel_rfl) (by kernel_rfl) (fun c a b w hd h => And.intro (hd.symm.trans (And.left h)) (And.right h)) ⟨_, rfl⟩ rfl rfl rfl ?_
        simp only [selL, List.filterMap_cons, List.filterMap_nil, List.getElem?_cons_zero, List.getElem?_cons_succ]
        refine (show wpQuiet _ _ _ _ [_, _, _] _ from ?_)
        repeat (go_big_quiet_step (fail))
        refine wpQuiet_nil ?_
        rintro _ ⟨y, rfl⟩
        constructor
        · go_wp2_with fail
          refine own_c xs (by omega) a cap (upX U0_.out HX'_.out) ?_
          intro W1 a' cap' hX1 u1
          dsimp only
          have r3 := upr u1 r3
          have hS1 := upI u1 (upI U0_.out HS'_.out)
          have HX1_ := hid hX1
          clear hX1
          have U1_ := hid u1
          clear u1
          have HS1_ := hid hS1
          clear hS1
          go_wp2_with fail
          refine Ints.c (dall_c me xs (by omega) HR_.out HM_.out ss (by omega) HX1_.out HS1_.out) fun W2 a3 cap3 hI u2 => ?_
          dsimp only
          simp only [allP_len]
          have u := up2 u2 U1_.out
          clear r3 u2
          have HI_ := hid hI
          clear hI
          have U_ := hid u
          clear u
          go_wp2
          go_meet
          case rel => exact ⟨W2, a3, cap3, rfl, rfl, rfl, HI_.out, U_.out, rfl⟩
        · go_wp2_with fail
          refine own_c xs (by omega) a cap (upX U0_.out HX'_.out) ?_
          intro W1 a' cap' hX1 u1
          dsimp only
          have r3 := upr u1 r3
          have hS1 := upI u1 (upI U0_.out HS'_.out)
          have HX1_ := hid hX1
          clear hX1
          have U1_ := hid u1
          clear u1
          have HS1_ := hid hS1
          clear hS1
          go_wp2_with fail
          refine Ints.c (dall_c me xs (by omega) HR_.out HM_.out ss (by omega) HX1_.out HS1_.out) fun W2 a3 cap3 hI u2 => ?_
          dsimp only
          simp only [allP_len]
          have u := up2 u2 U1_.out
          clear r3 u2
          have HI_ := hid hI
          clear hI
          have U_ := hid u
          clear u
          go_wp2
          go_meet
          case rel => exact ⟨W2, a3, cap3, rfl, rfl, rfl, HI_.out, U_.out, rfl⟩
      case rest =>
        obtain ⟨W9, a', cap', rfl, rfl, rfl, hI, u, rfl⟩ := hcut
        have u := up2 u U0_.out
        have hle := allP_len me xs ss xs.length
        have hg := fun k h => allP_get me xs ss xs.length k h
        have fin : ∀ m, Below (gr w w).heap.size (gr w w) (gr W9 m) := fun m => by
          obtain ⟨y, hy⟩ := u m
          rw [hy, ← gr_self w]
          exact gr_below w y
        clear U0_ HX'_ HS'_ HR_ HM_ r3 u
        have FIN_ := hid fin
        clear fin
        have HI_ := hid hI
        clear hI
        have HG_ := hid hg
        clear hg
        go_wp2
        go_loopw [43] (fun i wr => ∃ (j : Nat), j ≤ xs.length ∧ i = .int .i64 j ∧ wr = gr W9 W9) (fun i _ => xs.length - (intOf i).toNat)
        case atStart => exact ⟨0, by omega, rfl, rfl⟩
        case round =>
          obtain ⟨j, hj, rfl, rfl⟩ := hrel
          by_cases hjt : j < xs.length
          · obtain ⟨b, off, rfl, hc⟩ := i1_at HI_.out j (by omega)
            rw [HG_.out j hjt] at hc
            have hl2 := HLAW_.out j hjt
            clear HG_ HLAW_ HI_
            generalize portC me xs j (stC ss j) = v at *
            rcases hl2 with rfl | rfl | rfl
            · go_wp2
              exact ⟨⟨j + 1, by omega, by go_num, by first | trivial | rfl⟩, by simp [intOf]; omega⟩
            · go_wp2
              exact ⟨⟨j + 1, by omega, by go_num, by first | trivial | rfl⟩, by simp [intOf]; omega⟩
            · go_wp2
              exact ⟨⟨j + 1, by omega, by go_num, by first | trivial | rfl⟩, by simp [intOf]; omega⟩
          · obtain rfl : j = xs.length := by omega
            clear HI_ HG_ HLAW_
            go_wp2_with fail
            refine alive10_fn.c fun m => ?_
            dsimp only
            go_wp2
            go_ret
            exact ⟨rfl, FIN_.out _⟩
end Go.Proofs.Ytmibpmijcghpaaa
