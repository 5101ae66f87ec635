/-
  The law QueuePicks: it answers true. No condition.
-/
import Derived.Test.YtbdpnmocbpplbaaQuK
import Derived.Test.YtbdpnmocbpplbaaRdI
namespace Go.Proofs.Ytbdpnmocbpplbaa
open Go.RowKit Go.Conc

set_option maxRecDepth 100000 in
set_option maxHeartbeats 4000000 in
theorem qpicks_fn (xs : List ItR) (hm : xs.length ≤ 9223372036854775807) (a : Option Addr) (cap : Nat) (ps : List Int) (hm2 : ps.length ≤ 9223372036854775807) (a2 : Option Addr) (cap2 : Nat) (w : World) (hX : RowsIn fR zeroR 2 w a xs) (hP : ∀ k, k < xs.length → PdR w (xs.getD k zeroR)) (hY : RowsIn i1 0 1 w a2 ps) :
    Calls Try.prog 4 #[.slice a xs.length cap, .slice a2 ps.length cap2] w fun e w' => e = .returned (.bool true) ∧ Below w.heap.size w w' := by
  have hnew := new_ok 64 (by decide) (by decide) w
  by_cases hl : 64 < xs.length
  · clear hX hP hY
    have h2 : (64 : Int) < (xs.length : Int) := by omega
    have HNEW_ := hid hnew
    clear hnew
    clear hl hm hm2
    go_enter Try.func4, Try.ntmps4
    go_wp2_with fail
    refine HNEW_.out.mono ?_
    rintro e w1 ⟨b, ch, rfl, hb, _, _, _⟩
    dsimp only
    go_wp2_with fail
    refine (alive18_c w1).mono ?_
    rintro e w2 ⟨rfl, hb2⟩
    dsimp only
    go_wp2
    go_ret
    exact ⟨rfl, hb.trans (hb2.mono hb.size)⟩
  by_cases hp : 200 < ps.length
  · clear hX hP hY
    have h2 : ¬ (64 : Int) < (xs.length : Int) := by omega
    have h3 : (200 : Int) < (ps.length : Int) := by omega
    have HNEW_ := hid hnew
    clear hnew
    clear hl hm hm2 hp
    go_enter Try.func4, Try.ntmps4
    go_wp2_with fail
    refine HNEW_.out.mono ?_
    rintro e w1 ⟨b, ch, rfl, hb, _, _, _⟩
    dsimp only
    go_wp2_with fail
    refine (alive18_c w1).mono ?_
    rintro e w2 ⟨rfl, hb2⟩
    dsimp only
    go_wp2
    go_ret
    exact ⟨rfl, hb.trans (hb2.mono hb.size)⟩
  have h2 : ¬ (64 : Int) < (xs.length : Int) := by omega
  have h3 : ¬ (200 : Int) < (ps.length : Int) := by omega
  have hlen : xs.length ≤ 64 := by omega
  have hplen : ps.length ≤ 200 := by omega
  clear hl hp hm hm2
  have hA : ∀ V, Below w.heap.size w V → RowsIn fR zeroR 2 V a xs ∧ (∀ k, k < xs.length → PdR V (xs.getD k zeroR)) ∧ RowsIn i1 0 1 V a2 ps := fun V hb => ⟨hX.below (by decide) hb, fun k hk => ⟨(hP k hk).1.below (by decide) hb, (hP k hk).2⟩, hY.below (by decide) hb⟩
  have HX_ := hid hX
  clear hX
  have HP_ := hid hP
  clear hP
  have HA_ := hid hA
  clear hA
  have HNEW_ := hid hnew
  clear hnew
  have HY_ := hid hY
  clear hY
  go_enter Try.func4, Try.ntmps4
  go_wp2_with fail
  refine HNEW_.out.mono ?_
  rintro e w1 ⟨b, ch, rfl, hb1, hlb, hlc, hq⟩
  dsimp only
  clear HNEW_
  have HB1_ := hid hb1
  clear hb1
  have HQ_ := hid hq
  clear hq
  go_upto_block 0 with (fail)
  go_cut [5] (fun v5 wr => v5 = .pointer (some ⟨b, 0, none⟩) ∧ ∃ vs, Que wr b ch 64 vs ∧ Its wr vs (itms xs) ∧ Fresh 0 wr vs ∧ Below w.heap.size w wr)
  case first =>
    go_wp2
    go_loopw [45] (fun i wr => ∃ (j : Nat) (vs : List Value), j ≤ xs.length ∧ i = .int .i64 j ∧ Que wr b ch 64 vs ∧ Its wr vs ((itms xs).take j) ∧ Fresh 0 wr vs ∧ Below w.heap.size w wr) (fun i _ => xs.length - (intOf i).toNat)
    case atStart => exact ⟨0, [], by omega, rfl, HQ_.out, by simpa using Its.nil _, fun v hv => absurd hv (by simp), HB1_.out⟩
    case round =>
      obtain ⟨j, vs, hj, rfl, q1, i1, f1, bw⟩ := hrel
      by_cases hjt : j < xs.length
      · obtain ⟨hr, hpd, _⟩ := HA_.out wr bw
        obtain ⟨g, off, rfl, hrow⟩ := hr.at (by intro e; rw [e] at hjt; simp at hjt)
        obtain ⟨s1, s2⟩ := hrow j hjt
        obtain ⟨hb0, hlb0⟩ := hpd j hjt
        have hjt' : (j : Int) < (xs.length : Int) := by omega
        have htk := itms_take xs j hjt
        have hvl : vs.length < 64 := by
          rw [i1.1, List.length_take]
          omega
        generalize xs.getD j zeroR = s at *
        obtain ⟨x, sa, sc⟩ := s
        simp only [fR] at s2
        clear hrow hr hpd
        have Q1_ := hid q1
        clear q1
        have I1_ := hid i1
        clear i1
        have F1_ := hid f1
        clear f1
        have BW_ := hid bw
        clear bw
        have HTK_ := hid htk
        clear htk
        have HB0_ := hid hb0
        clear hb0
        have HLB0_ := hid hlb0
        clear hlb0
        have HVL_ := hid hvl
        clear hvl
        go_upto_region 7 with (fail)
        obtain ⟨w2, hE, r2, _, b2, _⟩ := newb wr (ic 0 none 0 0) (ic x.k sa x.bs.length sc) 30 (by simp)
        rw [hE]
        clear hE s1 s2
        have q2 := Q1_.out.below b2
        have i2 := I1_.out.kept (S := fun _ => False) (.of_below b2) (fun _ _ _ _ h => h.elim)
        have f2 := F1_.out.kept (S := fun _ => False) (.of_below b2) (fun _ _ _ _ h => h)
        have bw2 := BW_.out.trans (b2.mono BW_.out.size)
        have x2 : ItmIn w2 (.agg (ic x.k sa x.bs.length sc)) x := ⟨sa, sc, rfl, HB0_.out.below (by decide) b2⟩
        generalize wr.heap.size = nb at *
        clear b2 Q1_ I1_ F1_ BW_ HB0_
        have Q2_ := hid q2
        clear q2
        have I2_ := hid i2
        clear i2
        have F2_ := hid f2
        clear f2
        have BW2_ := hid bw2
        clear bw2
        have X2_ := hid x2
        clear x2
        go_wp2_with fail
        refine (put_ok _ x HLB0_.out w2 Q2_.out X2_.out HVL_.out).mono ?_
        rintro e w3 ⟨rfl, v', q3, n3, c3⟩
        dsimp only
        have i3 : Its w3 (vs ++ [v']) ((itms xs).take (j + 1)) := by
          rw [HTK_.out]
          exact (I2_.out.kept c3 (fun _ _ g _ e => by rw [e]; exact Q2_.out.rowc)).snoc n3.itm
        have f3 : Fresh 0 w3 (vs ++ [v']) := (F2_.out.kept c3 (fun v hv g hg e => by
          have := (F2_.out v hv g hg).2
          rw [e, Q2_.out.ownc] at this
          cases this)).snoc (fun g hg => ⟨Nat.zero_le _, (n3.blk hg).2⟩)
        have bw3 := BW2_.out.trans (c3.below BW2_.out.size (fun k hk e => by omega))
        clear n3 c3 Q2_ I2_ F2_ BW2_ X2_ HVL_ HTK_ r2
        have Q3_ := hid q3
        clear q3
        have I3_ := hid i3
        clear i3
        have F3_ := hid f3
        clear f3
        have BW3_ := hid bw3
        clear bw3
        go_wp2
        exact ⟨⟨j + 1, _, by omega, by go_num, Q3_.out, I3_.out, F3_.out, BW3_.out⟩, by simp [intOf]; omega⟩
      · obtain rfl : j = xs.length := by omega
        rw [List.take_of_length_le (by simp [itms])] at i1
        have Q1_ := hid q1
        clear q1
        have I1_ := hid i1
        clear i1
        have F1_ := hid f1
        clear f1
        have BW_ := hid bw
        clear bw
        go_wp2
        go_meet
        case rel => exact ⟨rfl, vs, Q1_.out, I1_.out, F1_.out, BW_.out⟩
  case rest =>
    obtain ⟨rfl, vs, q1, i1, f1, bw⟩ := hcut
    obtain ⟨hr, _, _⟩ := HA_.out _ bw
    obtain ⟨g, c, w2, hrun, hgc, hrow, hb2⟩ := run_all xs (by omega) a cap hr
    have q2 := q1.below hb2
    have i2 := i1.kept (S := fun _ => False) (.of_below hb2) (fun _ _ _ _ h => h.elim)
    have f2 := f1.kept (S := fun _ => False) (.of_below hb2) (fun _ _ _ _ h => h)
    have bw2 := bw.trans (hb2.mono bw.size)
    clear hr q1 i1 f1 bw hb2
    have HRUN_ := hid hrun
    clear hrun
    have Q2_ := hid q2
    clear q2
    have I2_ := hid i2
    clear i2
    have F2_ := hid f2
    clear f2
    have BW2_ := hid bw2
    clear bw2
    have HROW_ := hid hrow
    clear hrow
    have HGC_ := hid hgc
    clear hgc
    go_wp2_with (at_builtin; refine wpList_append_run rfl _ _ 22 rfl _ _ rfl rfl HRUN_.out ?_)
    go_loopw [9, 58] (fun v9 i wr => ∃ (j : Nat) (zs : List ItR) (us : List Value) (g c : Nat), j ≤ ps.length ∧ i = .int .i64 j ∧ v9 = .slice (some ⟨g, 0, none⟩) zs.length c ∧ zs.length ≤ c ∧ zs.length ≤ 64 ∧ RowsAt fR zeroR 2 wr g 0 zs ∧ (∀ k, k < zs.length → PdR w (zs.getD k zeroR)) ∧ Que wr b ch 64 us ∧ Its wr us (itms zs) ∧ Fresh 0 wr us ∧ Below w.heap.size w wr) (fun _ i _ => ps.length - (intOf i).toNat)
    case atStart => exact ⟨0, xs, vs, g, c, by omega, rfl, rfl, HGC_.out, hlen, HROW_.out, HP_.out, Q2_.out, I2_.out, F2_.out, BW2_.out⟩
    case round =>
      obtain ⟨j, zs, us, g', c', hj, rfl, rfl, hgc, hz64, hrow, hpz, q1, i1, f1, bw⟩ := hrel
      by_cases hjt : j < ps.length
      · obtain ⟨_, _, hy⟩ := HA_.out wr bw
        obtain ⟨gp, op, rfl, hpr⟩ := hy.at (by intro e; rw [e] at hjt; simp at hjt)
        have hpj := ints_at hpr j hjt
        have hjt' : (j : Int) < (ps.length : Int) := by omega
        generalize ps.getD j 0 = p at *
        clear hpr hy
        have hpk := pick_c p wr q1 i1 f1 (by omega) (by simp [itms]; omega) (fun k hk => by
          have hk' : k < zs.length := by simpa [itms] using hk
          rw [itms_getD zs k hk']
          exact (hpz k hk').2)
        have hil : (itms zs).length = zs.length := by simp [itms]
        have HPK_ := hid hpk
        clear hpk
        have HROW_ := hid hrow
        clear hrow
        have HPZ_ := hid hpz
        clear hpz
        have Q1_ := hid q1
        clear q1
        have I1_ := hid i1
        clear i1
        have F1_ := hid f1
        clear f1
        have BW_ := hid bw
        clear bw
        have HIL_ := hid hil
        clear hil
        go_upto_region 13 with (fail)
        go_wp2_with fail
        refine HPK_.out.mono ?_
        rintro e w3 ⟨v, us3, rfl, q3, i3, f3, hit, hmiss, c3⟩
        dsimp only
        have hrow3 := HROW_.out.keptC (by decide) c3 (fun b e => by rw [e]; exact Q1_.out.rowc)
        have bw3 := BW_.out.trans (c3.below BW_.out.size (fun k hk e => by omega))
        have f3b : Fresh 0 w3 us3 := fun v hv b hb => ⟨Nat.zero_le _, (f3 v hv b hb).2⟩
        clear f3 c3 HPK_ HROW_ Q1_ I1_ F1_ BW_ hpj
        rw [HIL_.out] at hit hmiss ⊢
        rcases (show p < 0 ∨ 0 ≤ p by omega) with hp0 | hp0
        · have hp1 : ¬ 0 ≤ p := by omega
          have hp2 : decide (0 ≤ p) = false := decide_eq_false hp1
          have hno : ¬ (0 ≤ p ∧ p < (zs.length : Int)) := by omega
          have hno' : ¬ (0 ≤ p ∧ p < ((itms zs).length : Int)) := by rw [HIL_.out]; exact hno
          obtain rfl := hmiss hno
          rw [decide_eq_false hno]
          rw [kept_miss p _ hno'] at i3
          clear hit hmiss hno hno'
          have HROW3_ := hid hrow3
          clear hrow3
          have BW3_ := hid bw3
          clear bw3
          have Q3_ := hid q3
          clear q3
          have I3_ := hid i3
          clear i3
          have F3B_ := hid f3b
          clear f3b
          go_upto_region 14 with (fail)
          obtain ⟨w4, hE, r4, _, b4, _⟩ := newb w3 (ic 0 none 0 0) (ic 0 none 0 0) 32 (by simp)
          rw [hE]
          clear hE
          have q4 := Q3_.out.below b4
          have i4 := I3_.out.kept (S := fun _ => False) (.of_below b4) (fun _ _ _ _ h => h.elim)
          have f4 := F3B_.out.kept (S := fun _ => False) (.of_below b4) (fun _ _ _ _ h => h)
          have bw4 := BW3_.out.trans (b4.mono BW3_.out.size)
          have hrow4 := HROW3_.out.keptC (by decide) (.of_below b4) (S := fun _ => False) (fun _ h => h.elim)
          generalize w3.heap.size = nb at *
          clear b4 Q3_ I3_ F3B_ BW3_ HROW3_
          have Q4_ := hid q4
          clear q4
          have I4_ := hid i4
          clear i4
          have F4_ := hid f4
          clear f4
          have BW4_ := hid bw4
          clear bw4
          have HROW4_ := hid hrow4
          clear hrow4
          rw [gr_self w4]
          refine wp_region_gr w4 (by kernel_rfl) (by kernel_rfl) ⟨_, rfl⟩ ?_
          repeat (go_big_quiet_step (fail))
          refine wpQuiet_nil ?_
          rintro _ ⟨y, rfl⟩
          have q5 := Q4_.out.below (gr_below w4 y)
          have i5 := I4_.out.kept (S := fun _ => False) (.of_below (gr_below w4 y)) (fun _ _ _ _ h => h.elim)
          have f5 := F4_.out.kept (S := fun _ => False) (.of_below (gr_below w4 y)) (fun _ _ _ _ h => h)
          have bw5 := BW4_.out.trans ((gr_below w4 y).mono BW4_.out.size)
          have hrow5 := HROW4_.out.keptC (by decide) (.of_below (gr_below w4 y)) (S := fun _ => False) (fun _ h => h.elim)
          clear r4 Q4_ I4_ F4_ BW4_ HROW4_
          generalize gr w4 y = w5 at *
          have Q5_ := hid q5
          clear q5
          have I5_ := hid i5
          clear i5
          have F5_ := hid f5
          clear f5
          have BW5_ := hid bw5
          clear bw5
          have HROW5_ := hid hrow5
          clear hrow5
          go_wp2
          exact ⟨⟨j + 1, zs, us3, g', c', by omega, by go_num, rfl, hgc, hz64, HROW5_.out, HPZ_.out, Q5_.out, I5_.out, F5_.out, BW5_.out⟩, by simp [intOf]; omega⟩
        · by_cases hpl : p < (zs.length : Int)
          · obtain ⟨k, rfl⟩ : ∃ k : Nat, p = (k : Int) := ⟨p.toNat, by omega⟩
            have hyes : 0 ≤ (k : Int) ∧ (k : Int) < (zs.length : Int) := ⟨hp0, hpl⟩
            have hk : k < zs.length := by omega
            have hv := hit hyes
            rw [Int.toNat_natCast, itms_getD zs k hk] at hv
            rw [decide_eq_true hyes]
            rw [kept_hit k (itms zs) (by rw [HIL_.out]; exact hk)] at i3
            have hp1 : decide (0 ≤ (k : Int)) = true := decide_eq_true hp0
            have hp2 : decide ((k : Int) < (zs.length : Int)) = true := decide_eq_true hpl
            obtain ⟨s1, s2⟩ := hrow3 k hk
            obtain ⟨hb0, hlb0⟩ := HPZ_.out k hk
            have hbz := hb0.below (by decide) bw3
            have hpz2 : ∀ i, i < (zs.take k ++ zs.drop (k + 1)).length → PdR w ((zs.take k ++ zs.drop (k + 1)).getD i zeroR) := fun i hi => by
              rw [List.length_append, List.length_take, List.length_drop] at hi
              by_cases h1 : i < k
              · rw [List.getD_eq_getElem?_getD, List.getElem?_append_left (by rw [List.length_take]; omega), List.getElem?_take, if_pos h1, ← List.getD_eq_getElem?_getD]
                exact HPZ_.out i (by omega)
              · rw [List.getD_eq_getElem?_getD, List.getElem?_append_right (by rw [List.length_take]; omega), List.getElem?_drop, ← List.getD_eq_getElem?_getD]
                exact HPZ_.out _ (by rw [List.length_take]; omega)
            have hz2 : itms (zs.take k ++ zs.drop (k + 1)) = (itms zs).take k ++ (itms zs).drop (k + 1) := by simp [itms]
            have hzl : (zs.take k ++ zs.drop (k + 1)).length = zs.length - 1 := by simp; omega
            rw [← hz2] at i3
            generalize hzk : zs.getD k zeroR = s at *
            obtain ⟨x, sa, sc⟩ := s
            simp only [fR] at s2 hv hbz
            have hvv := hv
            obtain ⟨va, vc, rfl, hva⟩ := hvv
            clear hit hmiss hv hb0 hlb0 hyes hz2 hzk
            have HROW3_ := hid hrow3
            clear hrow3
            have BW3_ := hid bw3
            clear bw3
            have Q3_ := hid q3
            clear q3
            have I3_ := hid i3
            clear i3
            have F3B_ := hid f3b
            clear f3b
            have HPZ2_ := hid hpz2
            clear hpz2
            have HZL_ := hid hzl
            clear hzl
            have HBZ_ := hid hbz
            clear hbz
            have HVA_ := hid hva
            clear hva
            go_upto_region 14 with (fail)
            obtain ⟨w4, hE, r4, _, b4, _⟩ := newb w3 (ic 0 none 0 0) (ic x.k va x.bs.length vc) 32 (by simp)
            rw [hE]
            clear hE
            have q4 := Q3_.out.below b4
            have i4 := I3_.out.kept (S := fun _ => False) (.of_below b4) (fun _ _ _ _ h => h.elim)
            have f4 := F3B_.out.kept (S := fun _ => False) (.of_below b4) (fun _ _ _ _ h => h)
            have bw4 := BW3_.out.trans (b4.mono BW3_.out.size)
            have hrow4 := HROW3_.out.keptC (by decide) (.of_below b4) (S := fun _ => False) (fun _ h => h.elim)
            have hs1 : ∀ d, RowsIn b1 0 1 (gr w4 d) sa x.bs := fun d => (HBZ_.out.below (by decide) b4).gr (by decide) d
            have hs2 : ∀ d, RowsIn b1 0 1 (gr w4 d) va x.bs := fun d => (HVA_.out.below (by decide) b4).gr (by decide) d
            have hg3 : row? w4 g' = row? w3 g' := Below_row b4 (row_lt (by intro e; rw [e] at s1; simp at s1))
            have z1 : ∀ d, 0 + k * 2 + 2 ≤ (row? (gr w4 d) g').size := fun d => by
              rw [Below_row (gr_below w4 d) (row_lt (by intro e; rw [← hg3, e] at s1; simp at s1)), hg3]
              exact s1
            have z2 : ∀ d, sub (row? (gr w4 d) g') (0 + k * 2) 2 = ic x.k sa x.bs.length sc := fun d => by
              rw [Below_row (gr_below w4 d) (row_lt (by intro e; rw [← hg3, e] at s1; simp at s1)), hg3]
              exact s2
            simp only [Nat.zero_add] at z1 z2
            have g3 := gr_row r4 (row_lt (by rw [r4]; simp))
            have hsame := fun d => same_fn x (W := w4) (d := d) (c1 := vc) (c2 := sc) hs2 hs1
            generalize w3.heap.size = nb at *
            clear b4 Q3_ I3_ F3B_ BW3_ HROW3_ hs1 hs2 hg3 s1 s2 r4 HBZ_ HVA_
            have Q4_ := hid q4
            clear q4
            have I4_ := hid i4
            clear i4
            have F4_ := hid f4
            clear f4
            have BW4_ := hid bw4
            clear bw4
            have HROW4_ := hid hrow4
            clear hrow4
            have HSAME_ := hid hsame
            clear hsame
            rw [gr_self w4]
            refine wp_region_gr w4 (by kernel_rfl) (by kernel_rfl) ⟨_, rfl⟩ ?_
            repeat (go_big_quiet_step (((go_at_call 13; exact HSAME_.out _))))
            refine wpQuiet_nil ?_
            rintro _ ⟨y, rfl⟩
            have q5 := Q4_.out.below (gr_below w4 y)
            have i5 := I4_.out.kept (S := fun _ => False) (.of_below (gr_below w4 y)) (fun _ _ _ _ h => h.elim)
            have f5 := F4_.out.kept (S := fun _ => False) (.of_below (gr_below w4 y)) (fun _ _ _ _ h => h)
            have bw5 := BW4_.out.trans ((gr_below w4 y).mono BW4_.out.size)
            have hrow5 := HROW4_.out.keptC (by decide) (.of_below (gr_below w4 y)) (S := fun _ => False) (fun _ h => h.elim)
            clear z1 z2 g3 Q4_ I4_ F4_ BW4_ HROW4_ HSAME_
            generalize gr w4 y = w5 at *
            have Q5_ := hid q5
            clear q5
            have I5_ := hid i5
            clear i5
            have F5_ := hid f5
            clear f5
            have BW5_ := hid bw5
            clear bw5
            have HROW5_ := hid hrow5
            clear hrow5
            go_upto_region 17 with (fail)
            rw [gr_self w5]
            refine wp_region_sel w5 [0, 1, 2, 3, 4, 5, 6, 7] [] [8, 9] (by kernel_rfl) (by kernel_rfl) (fun c a b w hd h => And.intro (hd.symm.trans (And.left h)) (And.right h)) ⟨_, rfl⟩ rfl rfl rfl ?_
            simp only [selL, List.filterMap_cons, List.filterMap_nil, List.getElem?_cons_zero, List.getElem?_cons_succ]
            refine (show wpQuiet _ _ _ _ [_, _, _, _, _, _, _, _] _ from ?_)
            repeat (go_big_quiet_step (fail))
            refine wpQuiet_nil ?_
            refine (show wpQuiet _ _ _ _ [] _ from ?_)
            repeat (go_big_quiet_step (fail))
            refine wpQuiet_nil ?_
            rintro _ ⟨y5, rfl⟩
            obtain ⟨ad, had, had2⟩ : ∃ ad : Addr, (if c' = k + 1 then some (⟨g', 0, none⟩ : Addr) else some ⟨g', (k + 1) * 2, none⟩) = some ad ∧ (k + 1 < zs.length → ad = ⟨g', (k + 1) * 2, none⟩) := by
              by_cases e : c' = k + 1
              · exact ⟨_, if_pos e, fun h => by omega⟩
              · exact ⟨_, if_neg e, fun _ => rfl⟩
            rw [had]
            have hrow6 := HROW5_.out.keptC (by decide) (.of_below (gr_below w5 y5)) (S := fun _ => False) (fun _ h => h.elim)
            obtain ⟨g6, c6, w6, hrun6, hgc6, hrow7, hb6⟩ := run_cut zs k hk (by omega) hrow6 ad had2 (c' - (k + 1))
            have hb7 : Below w5.heap.size w5 w6 := (gr_below w5 y5).trans (hb6.mono (gr_below w5 y5).size)
            have q6 := Q5_.out.below hb7
            have i6 := I5_.out.kept (S := fun _ => False) (.of_below hb7) (fun _ _ _ _ h => h.elim)
            have f6 := F5_.out.kept (S := fun _ => False) (.of_below hb7) (fun _ _ _ _ h => h)
            have bw6 := BW5_.out.trans (hb7.mono BW5_.out.size)
            have hz3 : (zs.take k ++ zs.drop (k + 1)).length ≤ 64 := by rw [HZL_.out]; omega
            clear hrow6 hb6 hb7 had had2 Q5_ I5_ F5_ BW5_ HROW5_
            rw [← HZL_.out] at hrun6 hgc6
            generalize zs.take k ++ zs.drop (k + 1) = zs2 at *
            have HRUN6_ := hid hrun6
            clear hrun6
            have Q6_ := hid q6
            clear q6
            have I6_ := hid i6
            clear i6
            have F6_ := hid f6
            clear f6
            have BW6_ := hid bw6
            clear bw6
            have HROW7_ := hid hrow7
            clear hrow7
            have HGC6_ := hid hgc6
            clear hgc6
            have HZ3_ := hid hz3
            clear hz3
            refine wpList_append_run rfl _ _ 22 rfl _ _ rfl rfl HRUN6_.out ?_
            go_wp2
            exact ⟨⟨j + 1, zs2, us3, g6, c6, by omega, by go_num, rfl, HGC6_.out, HZ3_.out, HROW7_.out, HPZ2_.out, Q6_.out, I6_.out, F6_.out, BW6_.out⟩, by simp [intOf]; omega⟩
          · have hp1 : decide (0 ≤ p) = true := decide_eq_true hp0
            have hp2 : decide (p < (zs.length : Int)) = false := decide_eq_false hpl
            have hno : ¬ (0 ≤ p ∧ p < (zs.length : Int)) := by omega
            have hno' : ¬ (0 ≤ p ∧ p < ((itms zs).length : Int)) := by rw [HIL_.out]; exact hno
            obtain rfl := hmiss hno
            rw [decide_eq_false hno]
            rw [kept_miss p _ hno'] at i3
            clear hit hmiss hno hno'
            have HROW3_ := hid hrow3
            clear hrow3
            have BW3_ := hid bw3
            clear bw3
            have Q3_ := hid q3
            clear q3
            have I3_ := hid i3
            clear i3
            have F3B_ := hid f3b
            clear f3b
            go_upto_region 14 with (fail)
            obtain ⟨w4, hE, r4, _, b4, _⟩ := newb w3 (ic 0 none 0 0) (ic 0 none 0 0) 32 (by simp)
            rw [hE]
            clear hE
            have q4 := Q3_.out.below b4
            have i4 := I3_.out.kept (S := fun _ => False) (.of_below b4) (fun _ _ _ _ h => h.elim)
            have f4 := F3B_.out.kept (S := fun _ => False) (.of_below b4) (fun _ _ _ _ h => h)
            have bw4 := BW3_.out.trans (b4.mono BW3_.out.size)
            have hrow4 := HROW3_.out.keptC (by decide) (.of_below b4) (S := fun _ => False) (fun _ h => h.elim)
            generalize w3.heap.size = nb at *
            clear b4 Q3_ I3_ F3B_ BW3_ HROW3_
            have Q4_ := hid q4
            clear q4
            have I4_ := hid i4
            clear i4
            have F4_ := hid f4
            clear f4
            have BW4_ := hid bw4
            clear bw4
            have HROW4_ := hid hrow4
            clear hrow4
            rw [gr_self w4]
            refine wp_region_gr w4 (by kernel_rfl) (by kernel_rfl) ⟨_, rfl⟩ ?_
            repeat (go_big_quiet_step (fail))
            refine wpQuiet_nil ?_
            rintro _ ⟨y, rfl⟩
            have q5 := Q4_.out.below (gr_below w4 y)
            have i5 := I4_.out.kept (S := fun _ => False) (.of_below (gr_below w4 y)) (fun _ _ _ _ h => h.elim)
            have f5 := F4_.out.kept (S := fun _ => False) (.of_below (gr_below w4 y)) (fun _ _ _ _ h => h)
            have bw5 := BW4_.out.trans ((gr_below w4 y).mono BW4_.out.size)
            have hrow5 := HROW4_.out.keptC (by decide) (.of_below (gr_below w4 y)) (S := fun _ => False) (fun _ h => h.elim)
            clear r4 Q4_ I4_ F4_ BW4_ HROW4_
            generalize gr w4 y = w5 at *
            have Q5_ := hid q5
            clear q5
            have I5_ := hid i5
            clear i5
            have F5_ := hid f5
            clear f5
            have BW5_ := hid bw5
            clear bw5
            have HROW5_ := hid hrow5
            clear hrow5
            go_wp2
            exact ⟨⟨j + 1, zs, us3, g', c', by omega, by go_num, rfl, hgc, hz64, HROW5_.out, HPZ_.out, Q5_.out, I5_.out, F5_.out, BW5_.out⟩, by simp [intOf]; omega⟩
      · obtain rfl : j = ps.length := by omega
        have hil : (itms zs).length = zs.length := by simp [itms]
        have Q1_ := hid q1
        clear q1
        have I1_ := hid i1
        clear i1
        have F1_ := hid f1
        clear f1
        have BW_ := hid bw
        clear bw
        have HIL_ := hid hil
        clear hil
        have HPZ_ := hid hpz
        clear hpz
        clear hrow
        go_wp2_with fail
        refine (alive18_c wr).mono ?_
        rintro e w3 ⟨rfl, hb3⟩
        dsimp only
        have q3 := Q1_.out.below hb3
        have i3 := I1_.out.kept (S := fun _ => False) (.of_below hb3) (fun _ _ _ _ h => h.elim)
        have f3 := F1_.out.kept (S := fun _ => False) (.of_below hb3) (fun _ _ _ _ h => h)
        have bw3 := BW_.out.trans (hb3.mono BW_.out.size)
        have hul : us.length = zs.length := by rw [i3.1, HIL_.out]
        clear hb3 Q1_ I1_ F1_ BW_
        have Q3_ := hid q3
        clear q3
        have I3_ := hid i3
        clear i3
        have F3_ := hid f3
        clear f3
        have BW3_ := hid bw3
        clear bw3
        have HUL_ := hid hul
        clear hul
        go_wp2_with fail
        refine (len_c Q3_.out).mono ?_
        rintro e w4 ⟨rfl, rfl⟩
        dsimp only
        rw [HUL_.out]
        go_wp2_with fail
        refine (clear_c w4 Q3_.out I3_.out F3_.out (by omega) (by rw [HIL_.out]; exact hz64) (fun k hk => by
          have hk' : k < zs.length := by rw [← HIL_.out]; exact hk
          rw [itms_getD zs k hk']
          exact (HPZ_.out k hk').2)).mono ?_
        rintro e w5 ⟨rfl, q5, c5⟩
        dsimp only
        rw [HIL_.out]
        have bw5 := BW3_.out.trans (c5.below BW3_.out.size (fun k hk e => by omega))
        clear c5 Q3_ I3_ F3_ BW3_
        have BW5_ := hid bw5
        clear bw5
        go_wp2_with fail
        refine (len_c q5).mono ?_
        rintro e w6 ⟨rfl, rfl⟩
        dsimp only
        go_wp2
        go_ret
        exact ⟨rfl, BW5_.out⟩
end Go.Proofs.Ytbdpnmocbpplbaa
