/-
  The law PortAlone: it answers true. No condition.
-/
import Derived.Test.YtlbdinckbbaknaaPoI
import Derived.Deep.DeepCutAuto
import Derived.Deep.CutBlock
namespace Go.Proofs.Ytlbdinckbbaknaa
open Go.RowKit

def waitsB (s : Int) : Bool := s == 4 || s == 5 || s == 7 || s == 8 || s == 9
structure Aln (m : Mach) : Prop where
  so : m.so = true → m.s ≠ 5
  u : waitsB m.s = true ∨ m.u = 0
theorem Aln.anew {m : Mach} (h : Aln m) {s : Int} (h5 : s ≠ 5) (hw : waitsB s = true) (n : Int) : Aln (anewM m s n) := ⟨fun _ => h5, .inl hw⟩
theorem Aln.rest {m : Mach} {s : Int} (h5 : s ≠ 5) : Aln (restM m s) := ⟨fun _ => h5, .inr rfl⟩
theorem Aln.dec {m : Mach} (h : Aln m) (c p n : Int) (sm : Bool) : Aln (decM m c p n sm) := by
  unfold decM
  split
  · exact h
  split
  · split
    · exact h
    · exact h.anew (by decide) rfl _
  split
  · exact h
  split
  · exact h
  split
  · split
    · exact h
    · exact h.anew (by decide) rfl _
  rename_i hso
  split
  · exact h.anew (by decide) rfl _
  split
  · exact ⟨fun e => absurd e hso, .inl rfl⟩
  · exact ⟨fun e => absurd e hso, .inl rfl⟩
theorem Aln.tick {m : Mach} (h : Aln m) (n : Int) : Aln (tickM m n).1 := by
  unfold tickM
  split
  · exact h
  split
  · exact Aln.rest (by decide)
  split
  · exact h.anew (by decide) rfl _
  · exact Aln.rest (by decide)
theorem waits_hears {m : Mach} (h : hearsM m = true) : m.s ≠ 5 ∧ waitsB m.s = true := by
  unfold hearsM at h
  simp at h
  rcases h with ((h | h) | h) | h <;> rw [h] <;> exact ⟨by decide, rfl⟩
theorem Aln.step {m : Mach} (h : Aln m) (x : Opp) : Aln (doM m x).1 := by
  unfold doM
  split
  · split
    · exact h.anew (by decide) rfl _
    · exact h
  split
  · split
    · exact Aln.rest (by decide)
    · exact h
  split
  · split
    · exact Aln.rest (by decide)
    · exact h
  split
  · split
    · exact Aln.rest (by decide)
    · exact h
  split
  · split
    · exact Aln.rest (by decide)
    · exact h
  split
  · split
    · exact ⟨fun _ => by dsimp only; decide, .inl rfl⟩
    · exact h
  split
  · split
    · exact ⟨fun _ => by dsimp only; decide, .inl rfl⟩
    · exact h
  split
  · split
    · rename_i hh
      exact h.anew (waits_hears hh).1 (waits_hears hh).2 _
    · exact h
  split
  · exact h.dec _ _ _ _
  split
  · exact h.tick _
  · exact h
theorem tick_no {m : Mach} (hw : waitsB m.s = false) (n : Int) : tickM m n = (m, 0) := by
  unfold waitsB at hw
  simp at hw
  unfold tickM
  rw [if_pos (.inl ⟨by omega, by unfold hearsM; simp; omega⟩)]
theorem tick_before {m : Mach} (hm : m.ok) (h : 0 < m.u) : tickM m (m.u - 1) = (m, 0) := by
  have := hm.u2
  unfold tickM
  rw [tmI_of (by omega) (by omega), if_pos (.inr (by omega))]
theorem tick_then {m : Mach} (hm : m.ok) (ha : Aln m) (hw : waitsB m.s = true) : ∃ m' v, tickM m m.u = (m', v) ∧ v ≠ 0 ∧ m'.s = if m.so then 4 else 6 := by
  have h1 := hm.u1
  have h2 := hm.u2
  have hh : m.s = 5 ∨ hearsM m = true := by
    unfold waitsB at hw
    unfold hearsM
    simp at hw ⊢
    omega
  unfold tickM
  rw [tmI_of h1 h2, if_neg (by rintro (⟨a, b⟩ | b); · rcases hh with c | c; · exact a c
                                                      · rw [c] at b; cases b
                               omega)]
  by_cases h5 : m.s = 5
  · rw [if_pos h5]
    refine ⟨_, _, rfl, by decide, ?_⟩
    cases hso : m.so with
    | true => exact absurd h5 (ha.so hso)
    | false => rfl
  · rw [if_neg h5]
    cases hso : m.so with
    | true => exact ⟨_, _, rfl, by decide, rfl⟩
    | false => exact ⟨_, _, rfl, by decide, rfl⟩
theorem dec_so (m : Mach) (c p n : Int) (sm : Bool) : (decM m c p n sm).so = m.so := by
  unfold decM
  split
  · rfl
  split
  · split <;> rfl
  split
  · rfl
  split
  · rfl
  split
  · split <;> rfl
  split
  · rfl
  split <;> rfl
theorem tick_so (m : Mach) (n : Int) : (tickM m n).1.so = m.so := by
  unfold tickM
  split
  · rfl
  split
  · rfl
  split <;> rfl
theorem do_so (m : Mach) (x : Opp) : (doM m x).1.so = m.so := by
  unfold doM
  split
  · split <;> rfl
  split
  · split <;> rfl
  split
  · split <;> rfl
  split
  · split <;> rfl
  split
  · split <;> rfl
  split
  · split <;> rfl
  split
  · split <;> rfl
  split
  · split <;> rfl
  split
  · exact dec_so _ _ _ _ _
  split
  · exact tick_so _ _
  · rfl
set_option maxRecDepth 100000 in
set_option maxHeartbeats 4000000 in
theorem alone_fn (k : Knd) (xs : List Opp) (a : Option Addr) (cap : Nat) (hm : xs.length ≤ 9223372036854775807) (w : World) (hX : RowsIn oa zeroO 5 w a xs) :
    Calls Try.prog 7 #[.agg (ka k), .slice a xs.length cap] w fun ε w' => ε = .returned (.bool true) ∧ Below w.heap.size w w' := by
  obtain ⟨e, o, so⟩ := k
  have b1 : ∀ A S, Below w.heap.size w (w.alloc (.cells A S)) := fun A S => (Below.refl _ _).alloc (Nat.le_refl _) _
  have b2 : ∀ A S B T, Below w.heap.size w ((w.alloc (.cells A S)).alloc (.cells B T)) := fun A S B T => (b1 A S).alloc (by simp) _
  have B1_ := hid b1
  clear b1
  have B2_ := hid b2
  clear b2
  by_cases hk : e < 1 ∨ 1099511627776 < e ∨ o < 2 ∨ 10 < o
  · have hn := new_no e o so hk
    clear hk hX hm
    have HN_ := hid hn
    clear hn
    go_enter Try.func7, Try.ntmps7
    go_wp2_with (first | (go_at_call 9; refine HN_.out.c ?_) | (go_at_call 10; refine alive_fn.b (B1_.out _ _) (by simp) fun w' hb => ?_))
    go_ret
    exact ⟨rfl, hb⟩
  have e1 : 1 ≤ e := by omega
  have e2 : e ≤ 1099511627776 := by omega
  have o1 : 2 ≤ o := by omega
  have o2 : o ≤ 10 := by omega
  have hn := new_yes e o so e1 e2 o1 o2
  have hok : Mach.ok ⟨e, o, so, 1, 0⟩ := ⟨e1, e2, o1, o2, by simp, by simp, by simp, by simp⟩
  have hal : Aln ⟨e, o, so, 1, 0⟩ := ⟨fun _ => by simp, .inr rfl⟩
  clear hk e1 e2 o1 o2
  have HN_ := hid hn
  clear hn
  by_cases hl : 2000 < xs.length
  · have h2 : (2000 : Int) < (xs.length : Int) := by omega
    clear hl hm hX hok hal
    go_enter Try.func7, Try.ntmps7
    go_wp2_with (first | (go_at_call 9; refine (HN_.out _).mono ?_; rintro e w' ⟨rfl, rfl⟩) | (go_at_call 10; refine alive_fn.b (B2_.out _ _ _ _) (by simp <;> omega) fun w' hb => ?_))
    go_ret
    exact ⟨rfl, hb⟩
  have d1 : decide ((2000 : Int) < (xs.length : Int)) = false := decide_eq_false (by omega)
  have h2 : ¬ (2000 : Int) < (xs.length : Int) := by omega
  clear hm B1_ B2_
  have HX_ := hid hX
  clear hX
  have HOK_ := hid hok
  clear hok
  have HAL_ := hid hal
  clear hal
  rw [gr_self w]
  go_enter Try.func7, Try.ntmps7
  go_wp2_with fail
  refine (HN_.out _).mono ?_
  rintro _ _ ⟨rfl, rfl⟩
  obtain ⟨W, c, hE, ec, rk, r2, q2, hb, hz⟩ := begin2 w (ka ⟨e, o, so⟩) (mc ⟨e, o, so, 1, 0⟩) 23 51
  dsimp only
  rw [hE]
  simp only [World.size_alloc, ec]
  clear hE ec HN_
  have h0 : ∃ m, m.ok ∧ Aln m ∧ m.so = so ∧ At w (c + 1) m W := ⟨_, HOK_.out, HAL_.out, rfl, r2, q2, hb⟩
  clear r2 q2 hb HOK_ HAL_
  have H0_ := hid h0
  clear h0
  go_upto_block 0 with (fail)
  go_cut [8, 37] (fun _ _ wr => ∃ V : World, (∃ m, m.ok ∧ Aln m ∧ m.so = so ∧ At w (c + 1) m V) ∧ (∀ d, row? (gr V d) c = ka ⟨e, o, so⟩) ∧ wr = gr V V)
  case first =>
    go_wp2
    go_loopw [37] (fun i wr => ∃ (j : Nat) (V : World), j ≤ xs.length ∧ i = .int .i64 j ∧ (∃ m, m.ok ∧ Aln m ∧ m.so = so ∧ At w (c + 1) m V) ∧ (∀ d, row? (gr V d) c = ka ⟨e, o, so⟩) ∧ wr = gr V V) (fun i _ => xs.length - (intOf i).toNat)
    case atStart => exact ⟨0, W, by omega, rfl, H0_.out, rk, rfl⟩
    case round =>
      clear H0_ rk
      obtain ⟨j, V, hj, rfl, ⟨m, hok, hal, hso, hat⟩, rk, rfl⟩ := hrel
      by_cases hjt : j < xs.length
      · obtain ⟨c', off, rfl, hR⟩ := HX_.out.at (by intro e; rw [e] at hjt; simp at hjt)
        have hc : c' < w.heap.size := hR.lt (by omega) (by intro e; rw [e] at hjt; simp at hjt)
        have s1 : ∀ d, off + j * 5 + 5 ≤ (row? (gr V d) c').size := fun d => by rw [Below_row (hat.bel d) hc]; exact (hR j hjt).1
        have s2 : ∀ d, sub (row? (gr V d) c') (off + j * 5) 5 = oa (xs.getD j zeroO) := fun d => by rw [Below_row (hat.bel d) hc]; exact (hR j hjt).2
        generalize xs.getD j zeroO = x at *
        have hd := does_fn (c + 1) m hok x
        have hok' := hok.step x
        have hal' := hal.step x
        have hso' := (do_so m x).trans hso
        generalize (doM m x).2 = v at *
        generalize (doM m x).1 = m' at *
        clear hok hal hso
        have HD_ := hid hd
        clear hd
        have HOK'_ := hid hok'
        clear hok'
        have HAL'_ := hid hal'
        clear hal'
        have HSO'_ := hid hso'
        clear hso'
        have HR_ := hid hR
        clear hR
        have HAT_ := hid hat
        clear hat
        go_wp2_with fail
        obtain ⟨W1, hE, r1, q1, u1, z1⟩ := newblk V V #[.int .i64 0, .int .i64 0, .int .i64 0, .int .i64 0, .bool false] (oa x) 43 (by simp)
        rw [hE]
        clear hE q1 z1 r1
        have hat := HAT_.out.up u1
        replace rk := upr u1 rk
        clear HAT_ u1 s1 s2
        refine HD_.out.gr hat.row hat.own fun W2 hC r2 q2 => ?_
        dsimp only
        replace rk := hC.up rk (by omega) (by simp)
        have hat2 := hat.chg hC (by omega) r2 q2
        clear hat hC r2 q2
        have HAT2_ := hid hat2
        clear hat2
        go_wp2
        go_roundw
        case rel => exact ⟨j + 1, W2, by omega, by go_num, ⟨m', HOK'_.out, HAL'_.out, HSO'_.out, HAT2_.out⟩, rk, rfl⟩
        case measure => simp [intOf]; omega
      · obtain rfl : j = xs.length := by omega
        have h0 : ∃ m, m.ok ∧ Aln m ∧ m.so = so ∧ At w (c + 1) m V := ⟨m, hok, hal, hso, hat⟩
        clear hok hal hso hat
        have H0_ := hid h0
        clear h0
        go_wp2
        go_meet
        case rel => exact ⟨V, H0_.out, rk, rfl⟩
  case rest =>
    clear H0_ HX_ rk
    obtain ⟨V, ⟨m, hok, hal, hso, hat⟩, rk, rfl⟩ := hcut
    have tk := fun n => tick_fn (c + 1) m hok n
    have hs := state_fn (c + 1) m
    have hu := until_fn (c + 1) m
    have ha := fun d => alive_fn.b (w := gr V d) (hat.bel d) (hat.bel d).size (R := fun ε w' => ε = .returned (.bool true) ∧ Below w.heap.size w w') fun w' hb => ⟨rfl, hb⟩
    cases hwt : waitsB m.s with
    | false =>
      have hu0 : m.u = 0 := by
        rcases hal.u with h | h
        · rw [h] at hwt; cases hwt
        · exact h
      have k1 := (tk 4611686018427387904).at_eq (congrArg Prod.fst (tick_no hwt _)) (congrArg (fun x => Value.int .i64 x.2) (tick_no hwt _))
      dsimp only at k1
      obtain ⟨e', o', so', s, u⟩ := m
      dsimp only at hu0 hso hwt hs hu
      subst hu0 hso
      have n4 : (s == 4) = false ∧ (s == 5) = false ∧ (s == 7) = false ∧ (s == 8) = false ∧ (s == 9) = false := by
        unfold waitsB at hwt
        simpa [and_assoc] using hwt
      obtain ⟨n4, n5, n7, n8, n9⟩ := n4
      clear hwt hok hal tk ha
      have K1_ := hid k1
      clear k1
      have HS_ := hid hs
      clear hs
      have HU_ := hid hu
      clear hu
      have HAT_ := hid hat
      clear hat
      go_wp2_with (first | (go_at_call 13; refine HS_.out.c (HAT_.out.row _) ?_) | (go_at_call 14; refine HU_.out.c (HAT_.out.row _) ?_) | (go_at_call 10; refine alive_fn.c fun m => ?_))
      refine K1_.out.gr HAT_.out.row HAT_.out.own fun W1 hC r2 q2 => ?_
      dsimp only
      have hat := HAT_.out.chg hC (by omega) r2 q2
      clear HAT_ hC r2 q2
      have HAT_ := hid hat
      clear hat
      go_wp2_with (go_at_call 13; refine HS_.out.c (HAT_.out.row _) ?_)
      go_ret
      exact ⟨rfl, by rw [← gr_self w]; exact HAT_.out.bel _⟩
    | true =>
      obtain ⟨m', v, et, hv, hs'⟩ := tick_then hok hal hwt
      have k2 := (tk m.u).at_eq (congrArg Prod.fst et) (congrArg (fun x => Value.int .i64 x.2) et)
      have hst := state_fn (c + 1) m'
      have hv2 : (v != 0) = true := by simpa using hv
      rw [hs', hso] at hst
      dsimp only at k2
      have k1 : 0 < m.u → Mth Try.prog 16 (c + 1) #[pt (c + 1), .int .i64 (m.u - 1)] m m (.int .i64 0) := fun h => (tk _).at_eq (congrArg Prod.fst (tick_before hok h)) (congrArg (fun x => Value.int .i64 x.2) (tick_before hok h))
      have hu0 := hok.u1
      have hu9 := hok.u2
      have h5 := hal.so
      obtain ⟨e', o', so', s, u⟩ := m
      dsimp only at hso hwt hs hu k1 k2 hu0 hu9 h5
      have h4 : s = 4 ∨ s = 7 ∨ s = 8 ∨ s = 9 ∨ s = 5 ∧ so = false := by
        unfold waitsB at hwt
        simp at hwt
        rcases hwt with (((h | h) | h) | h) | h
        · exact .inl h
        · refine .inr (.inr (.inr (.inr ⟨h, ?_⟩)))
          cases so with
          | false => rfl
          | true => exact absurd h (h5 hso)
        · exact .inr (.inl h)
        · exact .inr (.inr (.inl h))
        · exact .inr (.inr (.inr (.inl h)))
      subst hso
      clear hwt hok hal tk ha et hv hs' h5
      have K2_ := hid k2
      clear k2
      have HS_ := hid hs
      clear hs
      have HU_ := hid hu
      clear hu
      have HAT_ := hid hat
      clear hat
      have HST_ := hid hst
      clear hst
      by_cases hup : 0 < u
      · replace k1 := k1 hup
        have K1_ := hid k1
        clear k1
        rcases h4 with rfl | rfl | rfl | rfl | ⟨rfl, rfl⟩ <;> first | cases so' | skip
        all_goals
          go_wp2_with (first | (go_at_call 13; refine HS_.out.c (HAT_.out.row _) ?_) | (go_at_call 14; refine HU_.out.c (HAT_.out.row _) ?_))
          refine K1_.out.gr HAT_.out.row HAT_.out.own fun W1 hC r2 q2 => ?_
          dsimp only
          replace rk := hC.up rk (by omega) (by simp)
          have hat := HAT_.out.chg hC (by omega) r2 q2
          clear HAT_ hC r2 q2
          have HAT_ := hid hat
          clear hat
          go_wp2_with (first | (go_at_call 13; refine HS_.out.c (HAT_.out.row _) ?_) | (go_at_call 10; refine alive_fn.c fun m => ?_))
          refine K2_.out.gr HAT_.out.row HAT_.out.own fun W1 hC r2 q2 => ?_
          dsimp only
          have hat := HAT_.out.chg hC (by omega) r2 q2
          clear HAT_ hC r2 q2
          have HAT_ := hid hat
          clear hat
          go_wp2_with (go_at_call 13; refine HST_.out.c (HAT_.out.row _) ?_)
          go_ret
          exact ⟨rfl, by rw [← gr_self w]; exact HAT_.out.bel _⟩
      · obtain rfl : u = 0 := by omega
        clear k1 hup
        rcases h4 with rfl | rfl | rfl | rfl | ⟨rfl, rfl⟩ <;> first | cases so' | skip
        all_goals
          go_wp2_with (first | (go_at_call 13; refine HS_.out.c (HAT_.out.row _) ?_) | (go_at_call 14; refine HU_.out.c (HAT_.out.row _) ?_) | (go_at_call 10; refine alive_fn.c fun m => ?_))
          refine K2_.out.gr HAT_.out.row HAT_.out.own fun W1 hC r2 q2 => ?_
          dsimp only
          have hat := HAT_.out.chg hC (by omega) r2 q2
          clear HAT_ hC r2 q2
          have HAT_ := hid hat
          clear hat
          go_wp2_with (go_at_call 13; refine HST_.out.c (HAT_.out.row _) ?_)
          go_ret
          exact ⟨rfl, by rw [← gr_self w]; exact HAT_.out.bel _⟩
end Go.Proofs.Ytlbdinckbbaknaa
