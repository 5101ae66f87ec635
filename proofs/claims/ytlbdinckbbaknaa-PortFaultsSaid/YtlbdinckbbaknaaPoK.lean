/-
  The law PortFaults: it answers true. No condition.
-/
import Derived.Test.YtlbdinckbbaknaaPoI
import Derived.Deep.DeepCutAuto
import Derived.Deep.CutBlock
namespace Go.Proofs.Ytlbdinckbbaknaa
open Go.RowKit

theorem do_still {m : Mach} (x : Opp) (hs : m.s = 2 ∨ m.s = 3) (hk : 5 ≤ x.k) : doM m x = (m, 0) := by
  unfold doM
  rw [if_neg (by omega), if_neg (by omega), if_neg (by omega), if_neg (by omega), if_neg (by omega)]
  have hh : hearsM m = false := by unfold hearsM; simp; omega
  split
  · rw [if_neg (by omega)]
  split
  · rw [if_neg (by omega)]
  split
  · rw [if_neg (by rw [hh]; simp)]
  split
  · unfold decM
    rw [if_pos (.inl (by omega))]
  split
  · unfold tickM
    rw [if_pos (.inl ⟨by omega, hh⟩)]
  · rfl
set_option maxRecDepth 100000 in
set_option maxHeartbeats 4000000 in
theorem faults_fn (k : Knd) (xs : List Opp) (a : Option Addr) (cap : Nat) (dis : Bool) (hm : xs.length ≤ 9223372036854775807) (w : World) (hX : RowsIn oa zeroO 5 w a xs) :
    Calls Try.prog 8 #[.agg (ka k), .slice a xs.length cap, .bool dis] w fun ε w' => ε = .returned (.bool true) ∧ Below w.heap.size w w' := by
  obtain ⟨e, o, so⟩ := k
  have b1 : ∀ A S, Below w.heap.size w (w.alloc (.cells A S)) := fun A S => (Below.refl _ _).alloc (Nat.le_refl _) _
  have b2 : ∀ A S B T, Below w.heap.size w ((w.alloc (.cells A S)).alloc (.cells B T)) := fun A S B T => (b1 A S).alloc (by simp) _
  have B1_ := hid b1
  clear b1
  have B2_ := hid b2
  clear b2
  by_cases hk : e < 1 ∨ 1099511627776 < e ∨ o < 2 ∨ 10 < o
  · have hn := new_no e o so hk
    clear hk hX hm
    have HN_ := hid hn
    clear hn
    go_enter Try.func8, Try.ntmps8
    go_wp2_with (first | (go_at_call 9; refine HN_.out.c ?_) | (go_at_call 10; refine alive_fn.b (B1_.out _ _) (by simp) fun w' hb => ?_))
    go_ret
    exact ⟨rfl, hb⟩
  have e1 : 1 ≤ e := by omega
  have e2 : e ≤ 1099511627776 := by omega
  have o1 : 2 ≤ o := by omega
  have o2 : o ≤ 10 := by omega
  have hn := new_yes e o so e1 e2 o1 o2
  have hok : ∀ s, 1 ≤ s → s ≤ 9 → Mach.ok ⟨e, o, so, s, 0⟩ := fun s h1 h2 => ⟨e1, e2, o1, o2, h1, h2, by simp, by simp⟩
  clear hk
  have HN_ := hid hn
  clear hn
  by_cases hl : 500 < xs.length
  · have h2 : (500 : Int) < (xs.length : Int) := by omega
    clear hl hm hX hok e1 e2 o1 o2
    go_enter Try.func8, Try.ntmps8
    go_wp2_with (first | (go_at_call 9; refine (HN_.out _).mono ?_; rintro e w' ⟨rfl, rfl⟩) | (go_at_call 10; refine alive_fn.b (B2_.out _ _ _ _) (by simp <;> omega) fun w' hb => ?_))
    go_ret
    exact ⟨rfl, hb⟩
  have d1 : decide ((500 : Int) < (xs.length : Int)) = false := decide_eq_false (by omega)
  have h2 : ¬ (500 : Int) < (xs.length : Int) := by omega
  clear hm B1_ B2_ e1 e2 o1 o2
  have c1 := fun b => (start_fn b _ (hok 1 (by omega) (by omega)) 0).at_eq (m2 := anewM ⟨e, o, so, 1, 0⟩ 4 0) (v2 := .bool true) rfl rfl
  have c2 := fun b => (fault_fn b (anewM ⟨e, o, so, 1, 0⟩ 4 0)).at_eq (m2 := ⟨e, o, so, 2, 0⟩) (v2 := .bool true) rfl rfl
  have c3 := fun b => (disable_fn b ⟨e, o, so, 2, 0⟩).at_eq (m2 := ⟨e, o, so, 3, 0⟩) (v2 := .bool true) rfl rfl
  have c4 := fun b => (clear_fn b ⟨e, o, so, 2, 0⟩).at_eq (m2 := ⟨e, o, so, 1, 0⟩) (v2 := .bool true) rfl rfl
  have c5 := fun b => (enable_fn b ⟨e, o, so, 3, 0⟩).at_eq (m2 := ⟨e, o, so, 1, 0⟩) (v2 := .bool true) rfl rfl
  have c6 := fun b => (start_fn b _ (hok 1 (by omega) (by omega)) 7).at_eq (m2 := anewM ⟨e, o, so, 1, 0⟩ 4 7) (v2 := .bool true) rfl rfl
  have c7 := fun b => state_fn b ⟨e, o, so, 1, 0⟩
  have c8 := fun b => (show Rdm Try.prog 13 b #[pt b] (anewM ⟨e, o, so, 1, 0⟩ 4 7) (.int .i64 4) from state_fn b _)
  dsimp only at c7
  have HX_ := hid hX
  clear hX
  have C1_ := hid c1
  clear c1
  have C2_ := hid c2
  clear c2
  have C3_ := hid c3
  clear c3
  have C4_ := hid c4
  clear c4
  have C5_ := hid c5
  clear c5
  have C6_ := hid c6
  clear c6
  have C7_ := hid c7
  clear c7
  have C8_ := hid c8
  clear c8
  rw [gr_self w]
  cases dis with
  | false =>
    have hst := fun b => state_fn b (⟨e, o, so, 2, 0⟩ : Mach)
    have hun := fun b => until_fn b (⟨e, o, so, 2, 0⟩ : Mach)
    dsimp only at hst hun
    have hdo := fun b x (h : (5 : Int) ≤ x.k) => (does_fn b _ (hok 2 (by omega) (by omega)) x).at_eq (congrArg Prod.fst (do_still x (by simp) h)) (congrArg (fun x => Value.int .i64 x.2) (do_still x (by simp) h))
    dsimp only at hdo
    have HOK_ := hid hok
    clear hok
    have HST_ := hid hst
    clear hst
    have HUN_ := hid hun
    clear hun
    have HDO_ := hid hdo
    clear hdo
    go_enter Try.func8, Try.ntmps8
    go_wp2_with fail
    refine (HN_.out _).mono ?_
    rintro _ _ ⟨rfl, rfl⟩
    obtain ⟨W, c, hE, ec, rk, r2, q2, hb, hz⟩ := begin2 w (ka ⟨e, o, so⟩) (mc ⟨e, o, so, 1, 0⟩) 23 51
    dsimp only
    rw [hE]
    simp only [World.size_alloc, ec]
    clear hE ec rk
    have hat : At w (c + 1) ⟨e, o, so, 1, 0⟩ W := ⟨r2, q2, hb⟩
    clear r2 q2 hb
    have HAT_ := hid hat
    clear hat
    go_wp2_with fail
    refine (C1_.out _).gr HAT_.out.row HAT_.out.own fun W1 hC r2 q2 => ?_
    dsimp only
    have hat := HAT_.out.chg hC (by omega) r2 q2
    clear HAT_ hC r2 q2
    have HAT_ := hid hat
    clear hat
    go_wp2_with fail
    refine (C2_.out _).gr HAT_.out.row HAT_.out.own fun W1 hC r2 q2 => ?_
    dsimp only
    have hat := HAT_.out.chg hC (by omega) r2 q2
    clear HAT_ hC r2 q2
    have HAT_ := hid hat
    clear hat
    rename World => V0
    go_wp2
    go_loopw [48] (fun i wr => ∃ (j : Nat) (V : World), j ≤ xs.length ∧ i = .int .i64 j ∧ At w (c + 1) ⟨e, o, so, 2, 0⟩ V ∧ wr = gr V V) (fun i _ => xs.length - (intOf i).toNat)
    case atStart => exact ⟨0, _, by omega, rfl, HAT_.out, rfl⟩
    case round =>
      clear HAT_
      obtain ⟨j, V, hj, rfl, hat, rfl⟩ := hrel
      by_cases hjt : j < xs.length
      · obtain ⟨c', off, rfl, hR⟩ := HX_.out.at (by intro e; rw [e] at hjt; simp at hjt)
        have hc : c' < w.heap.size := hR.lt (by omega) (by intro e; rw [e] at hjt; simp at hjt)
        have s1 : ∀ d, off + j * 5 + 5 ≤ (row? (gr V d) c').size := fun d => by rw [Below_row (hat.bel d) hc]; exact (hR j hjt).1
        have s2 : ∀ d, sub (row? (gr V d) c') (off + j * 5) 5 = oa (xs.getD j zeroO) := fun d => by rw [Below_row (hat.bel d) hc]; exact (hR j hjt).2
        generalize xs.getD j zeroO = x at *
        obtain ⟨x1, x2, x3, x4, x5⟩ := x
        have hd := HDO_.out (c + 1) ⟨x1, x2, x3, x4, x5⟩
        dsimp only at hd
        clear hR
        have HAT_ := hid hat
        clear hat
        by_cases h5 : x1 < 5
        · have n5 : (x1 == 5) = false := by simp; omega
          have n6 : (x1 == 6) = false := by simp; omega
          have n7 : ¬ 6 < x1 := by omega
          clear hd
          go_wp2_with fail
          obtain ⟨W1, hE, r1, q1, u1, z1⟩ := newblk V V #[.int .i64 0, .int .i64 0, .int .i64 0, .int .i64 0, .bool false] (oa ⟨x1, x2, x3, x4, x5⟩) 43 (by simp)
          rw [hE]
          clear hE q1 z1 r1
          have hat := HAT_.out.up u1
          clear HAT_ u1 s1 s2
          have HAT_ := hid hat
          clear hat
          go_wp2_with (first | (go_at_call 13; refine (HST_.out _).c (HAT_.out.row _) ?_) | (go_at_call 14; refine (HUN_.out _).c (HAT_.out.row _) ?_))
          go_roundw
          case rel => exact ⟨j + 1, _, by omega, by go_num, HAT_.out, rfl⟩
          case measure => simp [intOf]; omega
        by_cases h5' : x1 = 5
        · subst h5'
          replace hd := hd (by omega)
          have HD_ := hid hd
          clear hd
          go_wp2_with fail
          obtain ⟨W1, hE, r1, q1, u1, z1⟩ := newblk V V #[.int .i64 0, .int .i64 0, .int .i64 0, .int .i64 0, .bool false] (oa ⟨5, x2, x3, x4, x5⟩) 43 (by simp)
          rw [hE]
          clear hE q1 z1 r1
          have hat := HAT_.out.up u1
          clear HAT_ u1 s1 s2
          have HAT_ := hid hat
          clear hat
          refine HD_.out.gr HAT_.out.row HAT_.out.own fun W2 hC r2 q2 => ?_
          dsimp only
          have hat := HAT_.out.chg hC (by omega) r2 q2
          clear HAT_ hC r2 q2
          have HAT_ := hid hat
          clear hat
          go_wp2_with (first | (go_at_call 13; refine (HST_.out _).c (HAT_.out.row _) ?_) | (go_at_call 14; refine (HUN_.out _).c (HAT_.out.row _) ?_))
          go_roundw
          case rel => exact ⟨j + 1, _, by omega, by go_num, HAT_.out, rfl⟩
          case measure => simp [intOf]; omega
        by_cases h6 : x1 = 6
        · subst h6
          replace hd := hd (by omega)
          have HD_ := hid hd
          clear hd
          go_wp2_with fail
          obtain ⟨W1, hE, r1, q1, u1, z1⟩ := newblk V V #[.int .i64 0, .int .i64 0, .int .i64 0, .int .i64 0, .bool false] (oa ⟨6, x2, x3, x4, x5⟩) 43 (by simp)
          rw [hE]
          clear hE q1 z1 r1
          have hat := HAT_.out.up u1
          clear HAT_ u1 s1 s2
          have HAT_ := hid hat
          clear hat
          refine HD_.out.gr HAT_.out.row HAT_.out.own fun W2 hC r2 q2 => ?_
          dsimp only
          have hat := HAT_.out.chg hC (by omega) r2 q2
          clear HAT_ hC r2 q2
          have HAT_ := hid hat
          clear hat
          go_wp2_with (first | (go_at_call 13; refine (HST_.out _).c (HAT_.out.row _) ?_) | (go_at_call 14; refine (HUN_.out _).c (HAT_.out.row _) ?_))
          go_roundw
          case rel => exact ⟨j + 1, _, by omega, by go_num, HAT_.out, rfl⟩
          case measure => simp [intOf]; omega
        · replace hd := hd (by omega)
          have n5 : (x1 == 5) = false := by simp; omega
          have n6 : (x1 == 6) = false := by simp; omega
          have n7 : 6 < x1 := by omega
          clear h5 h5' h6
          have HD_ := hid hd
          clear hd
          go_wp2_with fail
          obtain ⟨W1, hE, r1, q1, u1, z1⟩ := newblk V V #[.int .i64 0, .int .i64 0, .int .i64 0, .int .i64 0, .bool false] (oa ⟨x1, x2, x3, x4, x5⟩) 43 (by simp)
          rw [hE]
          clear hE q1 z1 r1
          have hat := HAT_.out.up u1
          clear HAT_ u1 s1 s2
          have HAT_ := hid hat
          clear hat
          refine HD_.out.gr HAT_.out.row HAT_.out.own fun W2 hC r2 q2 => ?_
          dsimp only
          have hat := HAT_.out.chg hC (by omega) r2 q2
          clear HAT_ hC r2 q2
          have HAT_ := hid hat
          clear hat
          go_wp2_with (first | (go_at_call 13; refine (HST_.out _).c (HAT_.out.row _) ?_) | (go_at_call 14; refine (HUN_.out _).c (HAT_.out.row _) ?_))
          go_roundw
          case rel => exact ⟨j + 1, _, by omega, by go_num, HAT_.out, rfl⟩
          case measure => simp [intOf]; omega
      · obtain rfl : j = xs.length := by omega
        clear hjt
        have HAT_ := hid hat
        clear hat
        go_wp2_with fail
        refine alive_fn.c fun m => ?_
        dsimp only
        go_wp2_with fail
        refine (C4_.out _).gr HAT_.out.row HAT_.out.own fun W1 hC r2 q2 => ?_
        dsimp only
        have hat := HAT_.out.chg hC (by omega) r2 q2
        clear HAT_ hC r2 q2
        have HAT_ := hid hat
        clear hat
        go_wp2_with (go_at_call 13; refine (C7_.out _).c (HAT_.out.row _) ?_)
        refine (C6_.out _).gr HAT_.out.row HAT_.out.own fun W1 hC r2 q2 => ?_
        dsimp only
        have hat := HAT_.out.chg hC (by omega) r2 q2
        clear HAT_ hC r2 q2
        have HAT_ := hid hat
        clear hat
        go_wp2_with (go_at_call 13; refine (C8_.out _).c (HAT_.out.row _) ?_)
        go_ret
        exact ⟨rfl, by rw [← gr_self w]; exact HAT_.out.bel _⟩
  | true =>
    have hst := fun b => state_fn b (⟨e, o, so, 3, 0⟩ : Mach)
    have hun := fun b => until_fn b (⟨e, o, so, 3, 0⟩ : Mach)
    dsimp only at hst hun
    have hdo := fun b x (h : (5 : Int) ≤ x.k) => (does_fn b _ (hok 3 (by omega) (by omega)) x).at_eq (congrArg Prod.fst (do_still x (by simp) h)) (congrArg (fun x => Value.int .i64 x.2) (do_still x (by simp) h))
    dsimp only at hdo
    have HOK_ := hid hok
    clear hok
    have HST_ := hid hst
    clear hst
    have HUN_ := hid hun
    clear hun
    have HDO_ := hid hdo
    clear hdo
    go_enter Try.func8, Try.ntmps8
    go_wp2_with fail
    refine (HN_.out _).mono ?_
    rintro _ _ ⟨rfl, rfl⟩
    obtain ⟨W, c, hE, ec, rk, r2, q2, hb, hz⟩ := begin2 w (ka ⟨e, o, so⟩) (mc ⟨e, o, so, 1, 0⟩) 23 51
    dsimp only
    rw [hE]
    simp only [World.size_alloc, ec]
    clear hE ec rk
    have hat : At w (c + 1) ⟨e, o, so, 1, 0⟩ W := ⟨r2, q2, hb⟩
    clear r2 q2 hb
    have HAT_ := hid hat
    clear hat
    go_wp2_with fail
    refine (C1_.out _).gr HAT_.out.row HAT_.out.own fun W1 hC r2 q2 => ?_
    dsimp only
    have hat := HAT_.out.chg hC (by omega) r2 q2
    clear HAT_ hC r2 q2
    have HAT_ := hid hat
    clear hat
    go_wp2_with fail
    refine (C2_.out _).gr HAT_.out.row HAT_.out.own fun W1 hC r2 q2 => ?_
    dsimp only
    have hat := HAT_.out.chg hC (by omega) r2 q2
    clear HAT_ hC r2 q2
    have HAT_ := hid hat
    clear hat
    go_wp2_with fail
    refine (C3_.out _).gr HAT_.out.row HAT_.out.own fun W1 hC r2 q2 => ?_
    dsimp only
    have hat := HAT_.out.chg hC (by omega) r2 q2
    clear HAT_ hC r2 q2
    have HAT_ := hid hat
    clear hat
    rename World => V0
    go_wp2
    go_loopw [48] (fun i wr => ∃ (j : Nat) (V : World), j ≤ xs.length ∧ i = .int .i64 j ∧ At w (c + 1) ⟨e, o, so, 3, 0⟩ V ∧ wr = gr V V) (fun i _ => xs.length - (intOf i).toNat)
    case atStart => exact ⟨0, _, by omega, rfl, HAT_.out, rfl⟩
    case round =>
      clear HAT_
      obtain ⟨j, V, hj, rfl, hat, rfl⟩ := hrel
      by_cases hjt : j < xs.length
      · obtain ⟨c', off, rfl, hR⟩ := HX_.out.at (by intro e; rw [e] at hjt; simp at hjt)
        have hc : c' < w.heap.size := hR.lt (by omega) (by intro e; rw [e] at hjt; simp at hjt)
        have s1 : ∀ d, off + j * 5 + 5 ≤ (row? (gr V d) c').size := fun d => by rw [Below_row (hat.bel d) hc]; exact (hR j hjt).1
        have s2 : ∀ d, sub (row? (gr V d) c') (off + j * 5) 5 = oa (xs.getD j zeroO) := fun d => by rw [Below_row (hat.bel d) hc]; exact (hR j hjt).2
        generalize xs.getD j zeroO = x at *
        obtain ⟨x1, x2, x3, x4, x5⟩ := x
        have hd := HDO_.out (c + 1) ⟨x1, x2, x3, x4, x5⟩
        dsimp only at hd
        clear hR
        have HAT_ := hid hat
        clear hat
        by_cases h5 : x1 < 5
        · have n5 : (x1 == 5) = false := by simp; omega
          have n6 : (x1 == 6) = false := by simp; omega
          have n7 : ¬ 6 < x1 := by omega
          clear hd
          go_wp2_with fail
          obtain ⟨W1, hE, r1, q1, u1, z1⟩ := newblk V V #[.int .i64 0, .int .i64 0, .int .i64 0, .int .i64 0, .bool false] (oa ⟨x1, x2, x3, x4, x5⟩) 43 (by simp)
          rw [hE]
          clear hE q1 z1 r1
          have hat := HAT_.out.up u1
          clear HAT_ u1 s1 s2
          have HAT_ := hid hat
          clear hat
          go_wp2_with (first | (go_at_call 13; refine (HST_.out _).c (HAT_.out.row _) ?_) | (go_at_call 14; refine (HUN_.out _).c (HAT_.out.row _) ?_))
          go_roundw
          case rel => exact ⟨j + 1, _, by omega, by go_num, HAT_.out, rfl⟩
          case measure => simp [intOf]; omega
        by_cases h5' : x1 = 5
        · subst h5'
          replace hd := hd (by omega)
          have HD_ := hid hd
          clear hd
          go_wp2_with fail
          obtain ⟨W1, hE, r1, q1, u1, z1⟩ := newblk V V #[.int .i64 0, .int .i64 0, .int .i64 0, .int .i64 0, .bool false] (oa ⟨5, x2, x3, x4, x5⟩) 43 (by simp)
          rw [hE]
          clear hE q1 z1 r1
          have hat := HAT_.out.up u1
          clear HAT_ u1 s1 s2
          have HAT_ := hid hat
          clear hat
          refine HD_.out.gr HAT_.out.row HAT_.out.own fun W2 hC r2 q2 => ?_
          dsimp only
          have hat := HAT_.out.chg hC (by omega) r2 q2
          clear HAT_ hC r2 q2
          have HAT_ := hid hat
          clear hat
          go_wp2_with (first | (go_at_call 13; refine (HST_.out _).c (HAT_.out.row _) ?_) | (go_at_call 14; refine (HUN_.out _).c (HAT_.out.row _) ?_))
          go_roundw
          case rel => exact ⟨j + 1, _, by omega, by go_num, HAT_.out, rfl⟩
          case measure => simp [intOf]; omega
        by_cases h6 : x1 = 6
        · subst h6
          replace hd := hd (by omega)
          have HD_ := hid hd
          clear hd
          go_wp2_with fail
          obtain ⟨W1, hE, r1, q1, u1, z1⟩ := newblk V V #[.int .i64 0, .int .i64 0, .int .i64 0, .int .i64 0, .bool false] (oa ⟨6, x2, x3, x4, x5⟩) 43 (by simp)
          rw [hE]
          clear hE q1 z1 r1
          have hat := HAT_.out.up u1
          clear HAT_ u1 s1 s2
          have HAT_ := hid hat
          clear hat
          refine HD_.out.gr HAT_.out.row HAT_.out.own fun W2 hC r2 q2 => ?_
          dsimp only
          have hat := HAT_.out.chg hC (by omega) r2 q2
          clear HAT_ hC r2 q2
          have HAT_ := hid hat
          clear hat
          go_wp2_with (first | (go_at_call 13; refine (HST_.out _).c (HAT_.out.row _) ?_) | (go_at_call 14; refine (HUN_.out _).c (HAT_.out.row _) ?_))
          go_roundw
          case rel => exact ⟨j + 1, _, by omega, by go_num, HAT_.out, rfl⟩
          case measure => simp [intOf]; omega
        · replace hd := hd (by omega)
          have n5 : (x1 == 5) = false := by simp; omega
          have n6 : (x1 == 6) = false := by simp; omega
          have n7 : 6 < x1 := by omega
          clear h5 h5' h6
          have HD_ := hid hd
          clear hd
          go_wp2_with fail
          obtain ⟨W1, hE, r1, q1, u1, z1⟩ := newblk V V #[.int .i64 0, .int .i64 0, .int .i64 0, .int .i64 0, .bool false] (oa ⟨x1, x2, x3, x4, x5⟩) 43 (by simp)
          rw [hE]
          clear hE q1 z1 r1
          have hat := HAT_.out.up u1
          clear HAT_ u1 s1 s2
          have HAT_ := hid hat
          clear hat
          refine HD_.out.gr HAT_.out.row HAT_.out.own fun W2 hC r2 q2 => ?_
          dsimp only
          have hat := HAT_.out.chg hC (by omega) r2 q2
          clear HAT_ hC r2 q2
          have HAT_ := hid hat
          clear hat
          go_wp2_with (first | (go_at_call 13; refine (HST_.out _).c (HAT_.out.row _) ?_) | (go_at_call 14; refine (HUN_.out _).c (HAT_.out.row _) ?_))
          go_roundw
          case rel => exact ⟨j + 1, _, by omega, by go_num, HAT_.out, rfl⟩
          case measure => simp [intOf]; omega
      · obtain rfl : j = xs.length := by omega
        clear hjt
        have HAT_ := hid hat
        clear hat
        go_wp2_with fail
        refine alive_fn.c fun m => ?_
        dsimp only
        go_wp2_with fail
        refine (C5_.out _).gr HAT_.out.row HAT_.out.own fun W1 hC r2 q2 => ?_
        dsimp only
        have hat := HAT_.out.chg hC (by omega) r2 q2
        clear HAT_ hC r2 q2
        have HAT_ := hid hat
        clear hat
        go_wp2_with (go_at_call 13; refine (C7_.out _).c (HAT_.out.row _) ?_)
        refine (C6_.out _).gr HAT_.out.row HAT_.out.own fun W1 hC r2 q2 => ?_
        dsimp only
        have hat := HAT_.out.chg hC (by omega) r2 q2
        clear HAT_ hC r2 q2
        have HAT_ := hid hat
        clear hat
        go_wp2_with (go_at_call 13; refine (C8_.out _).c (HAT_.out.row _) ?_)
        go_ret
        exact ⟨rfl, by rw [← gr_self w]; exact HAT_.out.bel _⟩
end Go.Proofs.Ytlbdinckbbaknaa
