/-
  The law PortHears: it answers true. No condition.
-/
import Derived.Test.YtlbdinckbbaknaaPoH
namespace Go.Proofs.Ytlbdinckbbaknaa
open Go.RowKit

theorem At.chg {w W0 d W1 : World} {b : Nat} {m m' : Mach} (h : At w b m W0) (hC : Chg (· = b) (gr W0 d) W1) (hz : w.heap.size ≤ b) (hr : ∀ d, row? (gr W1 d) b = mc m') (ho : ∀ d, own? (gr W1 d) b = true) : At w b m' W1 :=
  ⟨hr, ho, hC.upb h.bel (h.bel _).size (by rintro k hk rfl; omega)⟩
theorem At.up {w W0 W1 : World} {b : Nat} {m : Mach} (h : At w b m W0) (u : ∀ d, ∃ d', gr W1 d = gr W0 d') : At w b m W1 := ⟨upr u h.row, upo u h.own, upb u h.bel⟩
set_option maxRecDepth 100000 in
set_option maxHeartbeats 4000000 in
theorem hears_law (k : Knd) (sl : Bool) (xs : List Int) (a : Option Addr) (cap : Nat) (hm : xs.length ≤ 9223372036854775807) (hI : ∀ k, k < xs.length → i64ok (xs.getD k 0)) (w : World) (hX : RowsIn (fun z => #[.int .i64 z]) 0 1 w a xs) :
    Calls Try.prog 4 #[.agg (ka k), .bool sl, .slice a xs.length cap] w fun ε w' => ε = .returned (.bool true) ∧ Below w.heap.size w w' := by
  obtain ⟨e, o, so⟩ := k
  have b1 : ∀ A S, Below w.heap.size w (w.alloc (.cells A S)) := fun A S => (Below.refl _ _).alloc (Nat.le_refl _) _
  have b2 : ∀ A S B T, Below w.heap.size w ((w.alloc (.cells A S)).alloc (.cells B T)) := fun A S B T => (b1 A S).alloc (by simp) _
  have B1_ := hid b1
  clear b1
  have B2_ := hid b2
  clear b2
  by_cases hk : e < 1 ∨ 1099511627776 < e ∨ o < 2 ∨ 10 < o
  · have hn := new_no e o so hk
    clear hk hX hm hI
    have HN_ := hid hn
    clear hn
    go_enter Try.func4, Try.ntmps4
    go_wp2_with (first | (go_at_call 9; refine HN_.out.c ?_) | (go_at_call 10; refine alive_fn.b (B1_.out _ _) (by simp) fun w' hb => ?_))
    go_ret
    exact ⟨rfl, hb⟩
  have e1 : 1 ≤ e := by omega
  have e2 : e ≤ 1099511627776 := by omega
  have o1 : 2 ≤ o := by omega
  have o2 : o ≤ 10 := by omega
  have hn := new_yes e o so e1 e2 o1 o2
  clear hk
  have HN_ := hid hn
  clear hn
  by_cases hl : 500 < xs.length
  · have h2 : (500 : Int) < (xs.length : Int) := by omega
    clear hl hm hX hI e1 e2 o1 o2
    go_enter Try.func4, Try.ntmps4
    go_wp2_with (first | (go_at_call 9; refine (HN_.out _).mono ?_; rintro e w' ⟨rfl, rfl⟩) | (go_at_call 10; refine alive_fn.b (B2_.out _ _ _ _) (by simp <;> omega) fun w' hb => ?_))
    go_ret
    exact ⟨rfl, hb⟩
  have h2 : ¬ (500 : Int) < (xs.length : Int) := by omega
  by_cases he : 1073741824 < e
  · clear hl hm hX hI e1 e2 o1 o2
    go_enter Try.func4, Try.ntmps4
    go_wp2_with (first | (go_at_call 9; refine (HN_.out _).mono ?_; rintro e w' ⟨rfl, rfl⟩) | (go_at_call 10; refine alive_fn.b (B2_.out _ _ _ _) (by simp <;> omega) fun w' hb => ?_))
    go_ret
    exact ⟨rfl, hb⟩
  have e3 : e ≤ 1073741824 := by omega
  have p1 : 1 ≤ o * e := Int.mul_pos (by omega) (by omega)
  have p2 : o * e ≤ 10 * 1073741824 := Int.mul_le_mul o2 e3 (by omega) (by omega)
  have hok : ∀ s u, 1 ≤ s → s ≤ 9 → 0 ≤ u → u ≤ 4611686018427387904 → Mach.ok ⟨e, o, so, s, u⟩ := fun s u h1 h2 h3 h4 => ⟨e1, e2, o1, o2, h1, h2, h3, h4⟩
  have t0 : tmI 0 = 0 := rfl
  have aw : ∀ s s' u n, 0 ≤ n → n ≤ 5000 * 1073741824 → anewM ⟨e, o, so, s, u⟩ s' n = ⟨e, o, so, s', n + o * e⟩ := fun s s' u n h1 h2 => by
    simp [anewM, tmI_of h1 (by omega), tmI_of (n := n + o * e) (by omega) (by omega)]
  have c1 := fun b => (start_fn b _ (hok 1 0 (by omega) (by omega) (by omega) (by omega)) 0).at_eq (m2 := ⟨e, o, so, 4, o * e⟩) (v2 := .bool true) (by show iteM true _ _ = _; unfold iteM; rw [if_pos rfl, aw _ _ _ _ (by omega) (by omega), Int.zero_add]) rfl
  have c2 := fun b => (decide_fn b _ (hok 4 (o * e) (by omega) (by omega) (by omega) (by omega)) 4 0 0 false).at_eq (m2 := ⟨e, o, so, 8, o * e⟩) (by unfold decM; rw [if_neg (by simp), if_pos rfl, if_neg (by simp), aw _ _ _ _ (by omega) (by omega), Int.zero_add]) rfl
  have c3 := fun b => (lock_fn b ⟨e, o, so, 8, o * e⟩).at_eq (m2 := ⟨e, o, so, 9, o * e⟩) (v2 := .bool true) rfl rfl
  have tk : ∀ b st n s, (st = 4 ∨ st = 9) → 0 ≤ n → n ≤ 5000 * 1073741824 → 0 ≤ s → s < o * e → Mth Try.prog 16 b #[pt b, .int .i64 (n + s)] ⟨e, o, so, st, n + o * e⟩ ⟨e, o, so, st, n + o * e⟩ (.int .i64 0) := fun b st n s hst h1 h2 h3 h4 => by
    have eT : tickM ⟨e, o, so, st, n + o * e⟩ (n + s) = (⟨e, o, so, st, n + o * e⟩, 0) := by
      unfold tickM
      rw [tmI_of (by omega) (by omega), if_pos (.inr (by dsimp only; omega))]
    exact (tick_fn b _ (hok st _ (by omega) (by omega) (by omega) (by omega)) (n + s)).at_eq (congrArg Prod.fst eT) (congrArg (fun x => Value.int .i64 x.2) eT)
  have hd : ∀ b st n s, (st = 4 ∨ st = 9) → 0 ≤ n → n + s ≤ 5000 * 1073741824 → 0 ≤ s → s < o * e → Mth Try.prog 15 b #[pt b, .int .i64 (n + s)] ⟨e, o, so, st, n + o * e⟩ ⟨e, o, so, st, n + s + o * e⟩ (.tuple #[]) := fun b st n s hst h1 h2 h3 h4 => by
    refine (heard_fn b _ (hok st (n + o * e) (by omega) (by omega) (by omega) (by omega)) (n + s)).at_eq ?_ rfl
    dsimp only
    rw [aw _ _ _ _ (by omega) (by omega)]
    rcases hst with rfl | rfl <;> rfl
  have d1 : decide ((500 : Int) < (xs.length : Int)) = false := decide_eq_false h2
  have d2 : decide (1073741824 < e) = false := decide_eq_false he
  have C1_ := hid c1
  clear c1
  have C2_ := hid c2
  clear c2
  have C3_ := hid c3
  clear c3
  have TK_ := hid tk
  clear tk
  have HD_ := hid hd
  clear hd
  have HX_ := hid hX
  clear hX
  have HI_ := hid hI
  clear hI
  clear hok t0 aw B1_ B2_ hl he e1 e2 e3 o1 o2 hm
  rw [gr_self w]
  cases sl with
  | false =>
    go_enter Try.func4, Try.ntmps4
    go_wp2_with fail
    refine (HN_.out _).mono ?_
    rintro _ _ ⟨rfl, rfl⟩
    obtain ⟨W, c, hE, ec, rk, r2, q2, hb, hz⟩ := begin2 w (ka ⟨e, o, so⟩) (mc ⟨e, o, so, 1, 0⟩) 23 51
    dsimp only
    rw [hE]
    simp only [World.size_alloc, ec]
    clear hE ec
    have hat : At w (c + 1) ⟨e, o, so, 1, 0⟩ W := ⟨r2, q2, hb⟩
    clear r2 q2 hb
    have HAT_ := hid hat
    clear hat
    go_wp2_with fail
    refine (C1_.out _).gr HAT_.out.row HAT_.out.own fun W1 hC r2 q2 => ?_
    dsimp only
    replace rk := hC.up rk (by omega) (by simp)
    have hat := HAT_.out.chg hC (by omega) r2 q2
    clear HAT_ hC r2 q2
    have HAT_ := hid hat
    clear hat
    rename World => V0
    have hst := state_fn (c + 1) (⟨e, o, so, 4, o * e⟩ : Mach)
    dsimp only at hst
    have HST_ := hid hst
    clear hst
    go_wp2_with (go_at_call 13; refine HST_.out.c (HAT_.out.row _) ?_)
    clear HST_
    go_loopw [10, 51] (fun nw i wr => ∃ (j : Nat) (n : Int) (V : World), j ≤ xs.length ∧ i = .int .i64 j ∧ nw = .int .i64 n ∧ 0 ≤ n ∧ n ≤ j * (o * e) ∧ At w (c + 1) ⟨e, o, so, 4, n + o * e⟩ V ∧ (∀ d, row? (gr V d) c = ka ⟨e, o, so⟩) ∧ wr = gr V V) (fun _ i _ => xs.length - (intOf i).toNat)
    case atStart => exact ⟨0, 0, _, by omega, rfl, rfl, by omega, by simp, by rw [Int.zero_add]; exact HAT_.out, rk, rfl⟩
    case round =>
      clear HAT_ rk
      obtain ⟨j, n, V, hj, rfl, rfl, n1, n2, hat, rk, rfl⟩ := hrel
      have nb : (j : Int) * (o * e) ≤ 500 * (10 * 1073741824) := Int.mul_le_mul (by omega) p2 (by omega) (by omega)
      by_cases hjt : j < xs.length
      · obtain ⟨c', off, rfl, hR⟩ := HX_.out.at (by intro e; rw [e] at hjt; simp at hjt)
        have hc : c' < w.heap.size := hR.lt (by omega) (by intro e; rw [e] at hjt; simp at hjt)
        have s1 : ∀ d, off + j * 1 + 1 ≤ (row? (gr V d) c').size := fun d => by rw [Below_row (hat.bel d) hc]; exact (hR j hjt).1
        have s2 : ∀ d, sub (row? (gr V d) c') (off + j * 1) 1 = #[.int .i64 (xs.getD j 0)] := fun d => by rw [Below_row (hat.bel d) hc]; exact (hR j hjt).2
        have s3 : ∀ d, (row? (gr V d) c')[off + j]? = some (.int .i64 (xs.getD j 0)) := fun d => by
          have h1 := s1 d
          have h2 := congrArg (fun x : Array Value => x[0]?) (s2 d)
          rw [Nat.mul_one] at h1 h2
          unfold sub at h2
          simp only [Array.getElem?_extract] at h2
          rw [if_pos (by omega), Nat.add_zero] at h2
          rw [h2]
          rfl
        have hi := HI_.out j hjt
        generalize xs.getD j 0 = s at *
        obtain ⟨i1, i2⟩ := hi
        clear s1 s2
        by_cases hs : s < 0 ∨ o * e ≤ s
        · have ha := alive_fn.b (w := gr V V) (hat.bel V) (hat.bel V).size (R := fun ε w' => ε = .returned (.bool true) ∧ Below w.heap.size w w') fun w' hb => ⟨rfl, hb⟩
          clear hat hR nb n1 n2
          have HA_ := hid ha
          clear ha
          rcases hs with hs | hs
          · go_wp2_with (go_at_call 10; refine HA_.out.mono ?_; rintro _ w' ⟨rfl, hb⟩)
            go_ret
            exact ⟨rfl, by rw [← gr_self w]; exact hb⟩
          · by_cases hs0 : s < 0
            · go_wp2_with (go_at_call 10; refine HA_.out.mono ?_; rintro _ w' ⟨rfl, hb⟩)
              go_ret
              exact ⟨rfl, by rw [← gr_self w]; exact hb⟩
            · have hs1 : 0 ≤ s := by omega
              clear hs0
              go_wp2_with (go_at_call 10; refine HA_.out.mono ?_; rintro _ w' ⟨rfl, hb⟩)
              go_ret
              exact ⟨rfl, by rw [← gr_self w]; exact hb⟩
        · have hs1 : 0 ≤ s := by omega
          have hs2 : s < o * e := by omega
          have n3 : n ≤ 5000 * 1073741824 := by omega
          have k1 := TK_.out (c + 1) 4 n s (by omega) n1 (by omega) hs1 hs2
          have nj : n + s ≤ (j + 1 : Nat) * (o * e) := by
            rw [show ((j + 1 : Nat) : Int) * (o * e) = j * (o * e) + o * e by push_cast; rw [Int.add_mul, Int.one_mul]]
            omega
          have nb2 : ((j + 1 : Nat) : Int) * (o * e) ≤ 500 * (10 * 1073741824) := Int.mul_le_mul (by omega) p2 (by omega) (by omega)
          have k2 := HD_.out (c + 1) 4 n s (by omega) n1 (by omega) hs1 hs2
          have hst := state_fn (c + 1) (⟨e, o, so, 4, n + o * e⟩ : Mach)
          have ns : 0 ≤ n + s := by omega
          have ns2 : n + s ≤ 5000 * 1073741824 := by omega
          dsimp only at hst
          clear hs nb nb2 hR
          have K1_ := hid k1
          clear k1
          have K2_ := hid k2
          clear k2
          have HST_ := hid hst
          clear hst
          have HAT_ := hid hat
          clear hat
          have NJ_ := hid nj
          clear nj
          clear n2
          go_wp2_with fail
          refine K1_.out.gr HAT_.out.row HAT_.out.own fun W4 hC r2 q2 => ?_
          dsimp only
          replace rk := hC.up rk (by omega) (by simp)
          have hat := HAT_.out.chg hC (by omega) r2 q2
          clear HAT_ hC r2 q2 s3
          have HAT_ := hid hat
          clear hat
          go_wp2_with (go_at_call 13; refine HST_.out.c (HAT_.out.row _) ?_)
          refine K2_.out.gr HAT_.out.row HAT_.out.own fun W5 hC r2 q2 => ?_
          dsimp only
          replace rk := hC.up rk (by omega) (by simp)
          have hat := HAT_.out.chg hC (by omega) r2 q2
          clear HAT_ hC r2 q2
          have HAT_ := hid hat
          clear hat
          go_wp2
          go_roundw
          case rel => exact ⟨j + 1, n + s, W5, by omega, by go_num, rfl, ns, NJ_.out, HAT_.out, rk, rfl⟩
          case measure => simp [intOf]; omega
      · obtain rfl : j = xs.length := by omega
        clear nb n2 n1
        have HAT_ := hid hat
        clear hat
        go_wp2_with (go_at_call 10; refine alive_fn.b (HAT_.out.bel _) (HAT_.out.bel _).size fun w' hb => ?_)
        go_ret
        exact ⟨rfl, by rw [← gr_self w]; exact hb⟩
  | true =>
    go_enter Try.func4, Try.ntmps4
    go_wp2_with fail
    refine (HN_.out _).mono ?_
    rintro _ _ ⟨rfl, rfl⟩
    obtain ⟨W, c, hE, ec, rk, r2, q2, hb, hz⟩ := begin2 w (ka ⟨e, o, so⟩) (mc ⟨e, o, so, 1, 0⟩) 23 51
    dsimp only
    rw [hE]
    simp only [World.size_alloc, ec]
    clear hE ec
    have hat : At w (c + 1) ⟨e, o, so, 1, 0⟩ W := ⟨r2, q2, hb⟩
    clear r2 q2 hb
    have HAT_ := hid hat
    clear hat
    go_wp2_with fail
    refine (C1_.out _).gr HAT_.out.row HAT_.out.own fun W1 hC r2 q2 => ?_
    dsimp only
    replace rk := hC.up rk (by omega) (by simp)
    have hat := HAT_.out.chg hC (by omega) r2 q2
    clear HAT_ hC r2 q2
    have HAT_ := hid hat
    clear hat
    go_wp2_with fail
    refine (C2_.out _).gr HAT_.out.row HAT_.out.own fun W2 hC r2 q2 => ?_
    dsimp only
    replace rk := hC.up rk (by omega) (by simp)
    have hat := HAT_.out.chg hC (by omega) r2 q2
    clear HAT_ hC r2 q2
    have HAT_ := hid hat
    clear hat
    go_wp2_with fail
    refine (C3_.out _).gr HAT_.out.row HAT_.out.own fun W2 hC r2 q2 => ?_
    dsimp only
    replace rk := hC.up rk (by omega) (by simp)
    have hat := HAT_.out.chg hC (by omega) r2 q2
    clear HAT_ hC r2 q2
    have HAT_ := hid hat
    clear hat
    rename World => V0
    have hst := state_fn (c + 1) (⟨e, o, so, 9, o * e⟩ : Mach)
    dsimp only at hst
    have HST_ := hid hst
    clear hst
    go_wp2_with (go_at_call 13; refine HST_.out.c (HAT_.out.row _) ?_)
    clear HST_
    go_loopw [10, 51] (fun nw i wr => ∃ (j : Nat) (n : Int) (V : World), j ≤ xs.length ∧ i = .int .i64 j ∧ nw = .int .i64 n ∧ 0 ≤ n ∧ n ≤ j * (o * e) ∧ At w (c + 1) ⟨e, o, so, 9, n + o * e⟩ V ∧ (∀ d, row? (gr V d) c = ka ⟨e, o, so⟩) ∧ wr = gr V V) (fun _ i _ => xs.length - (intOf i).toNat)
    case atStart => exact ⟨0, 0, _, by omega, rfl, rfl, by omega, by simp, by rw [Int.zero_add]; exact HAT_.out, rk, rfl⟩
    case round =>
      clear HAT_ rk
      obtain ⟨j, n, V, hj, rfl, rfl, n1, n2, hat, rk, rfl⟩ := hrel
      have nb : (j : Int) * (o * e) ≤ 500 * (10 * 1073741824) := Int.mul_le_mul (by omega) p2 (by omega) (by omega)
      by_cases hjt : j < xs.length
      · obtain ⟨c', off, rfl, hR⟩ := HX_.out.at (by intro e; rw [e] at hjt; simp at hjt)
        have hc : c' < w.heap.size := hR.lt (by omega) (by intro e; rw [e] at hjt; simp at hjt)
        have s1 : ∀ d, off + j * 1 + 1 ≤ (row? (gr V d) c').size := fun d => by rw [Below_row (hat.bel d) hc]; exact (hR j hjt).1
        have s2 : ∀ d, sub (row? (gr V d) c') (off + j * 1) 1 = #[.int .i64 (xs.getD j 0)] := fun d => by rw [Below_row (hat.bel d) hc]; exact (hR j hjt).2
        have s3 : ∀ d, (row? (gr V d) c')[off + j]? = some (.int .i64 (xs.getD j 0)) := fun d => by
          have h1 := s1 d
          have h2 := congrArg (fun x : Array Value => x[0]?) (s2 d)
          rw [Nat.mul_one] at h1 h2
          unfold sub at h2
          simp only [Array.getElem?_extract] at h2
          rw [if_pos (by omega), Nat.add_zero] at h2
          rw [h2]
          rfl
        have hi := HI_.out j hjt
        generalize xs.getD j 0 = s at *
        obtain ⟨i1, i2⟩ := hi
        clear s1 s2
        by_cases hs : s < 0 ∨ o * e ≤ s
        · have ha := alive_fn.b (w := gr V V) (hat.bel V) (hat.bel V).size (R := fun ε w' => ε = .returned (.bool true) ∧ Below w.heap.size w w') fun w' hb => ⟨rfl, hb⟩
          clear hat hR nb n1 n2
          have HA_ := hid ha
          clear ha
          rcases hs with hs | hs
          · go_wp2_with (go_at_call 10; refine HA_.out.mono ?_; rintro _ w' ⟨rfl, hb⟩)
            go_ret
            exact ⟨rfl, by rw [← gr_self w]; exact hb⟩
          · by_cases hs0 : s < 0
            · go_wp2_with (go_at_call 10; refine HA_.out.mono ?_; rintro _ w' ⟨rfl, hb⟩)
              go_ret
              exact ⟨rfl, by rw [← gr_self w]; exact hb⟩
            · have hs1 : 0 ≤ s := by omega
              clear hs0
              go_wp2_with (go_at_call 10; refine HA_.out.mono ?_; rintro _ w' ⟨rfl, hb⟩)
              go_ret
              exact ⟨rfl, by rw [← gr_self w]; exact hb⟩
        · have hs1 : 0 ≤ s := by omega
          have hs2 : s < o * e := by omega
          have n3 : n ≤ 5000 * 1073741824 := by omega
          have k1 := TK_.out (c + 1) 9 n s (by omega) n1 (by omega) hs1 hs2
          have nj : n + s ≤ (j + 1 : Nat) * (o * e) := by
            rw [show ((j + 1 : Nat) : Int) * (o * e) = j * (o * e) + o * e by push_cast; rw [Int.add_mul, Int.one_mul]]
            omega
          have nb2 : ((j + 1 : Nat) : Int) * (o * e) ≤ 500 * (10 * 1073741824) := Int.mul_le_mul (by omega) p2 (by omega) (by omega)
          have k2 := HD_.out (c + 1) 9 n s (by omega) n1 (by omega) hs1 hs2
          have hst := state_fn (c + 1) (⟨e, o, so, 9, n + o * e⟩ : Mach)
          have ns : 0 ≤ n + s := by omega
          have ns2 : n + s ≤ 5000 * 1073741824 := by omega
          dsimp only at hst
          clear hs nb nb2 hR
          have K1_ := hid k1
          clear k1
          have K2_ := hid k2
          clear k2
          have HST_ := hid hst
          clear hst
          have HAT_ := hid hat
          clear hat
          have NJ_ := hid nj
          clear nj
          clear n2
          go_wp2_with fail
          refine K1_.out.gr HAT_.out.row HAT_.out.own fun W4 hC r2 q2 => ?_
          dsimp only
          replace rk := hC.up rk (by omega) (by simp)
          have hat := HAT_.out.chg hC (by omega) r2 q2
          clear HAT_ hC r2 q2 s3
          have HAT_ := hid hat
          clear hat
          go_wp2_with (go_at_call 13; refine HST_.out.c (HAT_.out.row _) ?_)
          refine K2_.out.gr HAT_.out.row HAT_.out.own fun W5 hC r2 q2 => ?_
          dsimp only
          replace rk := hC.up rk (by omega) (by simp)
          have hat := HAT_.out.chg hC (by omega) r2 q2
          clear HAT_ hC r2 q2
          have HAT_ := hid hat
          clear hat
          go_wp2
          go_roundw
          case rel => exact ⟨j + 1, n + s, W5, by omega, by go_num, rfl, ns, NJ_.out, HAT_.out, rk, rfl⟩
          case measure => simp [intOf]; omega
      · obtain rfl : j = xs.length := by omega
        clear nb n2 n1
        have HAT_ := hid hat
        clear hat
        go_wp2_with (go_at_call 10; refine alive_fn.b (HAT_.out.bel _) (HAT_.out.bel _).size fun w' hb => ?_)
        go_ret
        exact ⟨rfl, by rw [← gr_self w]; exact hb⟩
end Go.Proofs.Ytlbdinckbbaknaa
