/-
  The law QueueTurns: it answers true. No condition.
-/
import Derived.Test.YtbdpnmocbpplbaaQuU
namespace Go.Proofs.Ytbdpnmocbpplbaa
open Go.RowKit Go.Conc

theorem doneT_ex {p q : Int} {ys : List Itm} (h : doneT p q ys ys.length = true) : ∃ k j : Nat, p = k ∧ q = j ∧ k < ys.length ∧ j < (ys.getD k zeroI).bs.length := by
  unfold doneT turnsI at h
  simp only [Bool.and_eq_true, decide_eq_true_eq] at h
  obtain ⟨⟨h1, h2⟩, h3, h4⟩ := h
  obtain ⟨k, rfl⟩ : ∃ k : Nat, p = k := ⟨p.toNat, by omega⟩
  obtain ⟨j, rfl⟩ : ∃ j : Nat, q = j := ⟨q.toNat, by omega⟩
  rw [Int.toNat_natCast] at h4
  exact ⟨k, j, rfl, rfl, by omega, by omega⟩
theorem doneT_in {k j : Nat} {ys : List Itm} (h1 : k < ys.length) (h2 : j < (ys.getD k zeroI).bs.length) : doneT k j ys ys.length = true := by
  unfold doneT turnsI
  rw [Int.toNat_natCast, decide_eq_true (show 0 ≤ (k : Int) ∧ (k : Int) < (ys.length : Int) by omega), decide_eq_true (show 0 ≤ (j : Int) ∧ (j : Int) < ((ys.getD k zeroI).bs.length : Int) by omega)]
  rfl
theorem lookI_in {k : Nat} {ys : List Itm} (h : k < ys.length) : lookI k ys = ys.getD k zeroI := by
  unfold lookI
  rw [if_pos (by omega), Int.toNat_natCast]
theorem turnI_back {x : Itm} (h : okI x) (j : Nat) (hj : j < x.bs.length) : turnI (turnI x j) j = x := by
  obtain ⟨k, bs⟩ := x
  unfold turnI
  congr 1
  simp only [Int.toNat_natCast] at *
  rw [List.set_set, List.getD_eq_getElem?_getD, List.getElem?_set_self hj, Option.getD_some]
  rw [show (255 : Int) - (255 - bs.getD j 0) = bs.getD j 0 by omega]
  apply List.ext_getElem?
  intro i
  by_cases e : j = i
  · subst e
    rw [List.getElem?_set_self hj, List.getElem?_eq_getElem hj, List.getD_eq_getElem?_getD, List.getElem?_eq_getElem hj]
    rfl
  · rw [List.getElem?_set_ne e]
theorem turnL_in {k j : Nat} {ys : List Itm} (h1 : k < ys.length) (h2 : j < (ys.getD k zeroI).bs.length) : turnL k j ys = ys.set k (turnI (ys.getD k zeroI) j) := by
  unfold turnL
  rw [if_pos (doneT_in h1 h2), Int.toNat_natCast]
theorem set_getD (ys : List Itm) (k : Nat) (h : k < ys.length) (x : Itm) : (ys.set k x).getD k zeroI = x := by
  rw [List.getD_eq_getElem?_getD, List.getElem?_set_self h, Option.getD_some]
theorem turnL_back {k j : Nat} {ys : List Itm} (h1 : k < ys.length) (h2 : j < (ys.getD k zeroI).bs.length) (hk : okI (ys.getD k zeroI)) : turnL k j (turnL k j ys) = ys := by
  rw [turnL_in h1 h2]
  have e := set_getD ys k h1 (turnI (ys.getD k zeroI) j)
  rw [turnL_in (by simpa using h1) (by rw [e]; simpa [turnI] using h2), e, turnI_back hk j h2, List.set_set]
  apply List.ext_getElem?
  intro i
  by_cases e : k = i
  · subst e
    rw [List.getElem?_set_self h1, List.getElem?_eq_getElem h1, List.getD_eq_getElem?_getD, List.getElem?_eq_getElem h1]
    rfl
  · rw [List.getElem?_set_ne e]
theorem turnI_at (x : Itm) (j i : Nat) (hj : j < x.bs.length) : (turnI x j).bs.getD i 0 = if i = j then 255 - x.bs.getD j 0 else x.bs.getD i 0 := by
  unfold turnI
  rw [Int.toNat_natCast]
  by_cases e : j = i
  · subst e
    rw [if_pos rfl, List.getD_eq_getElem?_getD, List.getElem?_set_self hj, Option.getD_some]
  · rw [if_neg (Ne.symm e), List.getD_eq_getElem?_getD, List.getElem?_set_ne e, ← List.getD_eq_getElem?_getD]
theorem byte_at {w : World} {b off : Nat} {bs : List Int} (h : RowsAt b1 0 1 w b off bs) (k : Nat) (hk : k < bs.length) : (row? w b)[off + k]? = some (.int .u8 (bs.getD k 0)) := by
  obtain ⟨h1, h2⟩ := h k hk
  have e : (sub (row? w b) (off + k * 1) 1)[0]? = some (.int .u8 (bs.getD k 0)) := by rw [h2]; rfl
  unfold sub at e
  rw [Array.getElem?_extract, if_pos (by omega)] at e
  simpa using e
/-- An item in a variable of one's own. -/
structure Var (w : World) (us : List Value) (B : Nat) (a : Option Addr) (c : Nat) (x : Itm) : Prop where
  my : MyI w us (.agg (ic x.k a x.bs.length c)) x
  row : row? w B = ic x.k a x.bs.length c
  own : MineB w us B
theorem Var.step {b ch most : Nat} {vs us : List Value} {xs : List Itm} {w w' : World} {B : Nat} {a : Option Addr} {c : Nat} {x : Itm} (h : Var w vs B a c x) (hq : QS w b ch most vs xs) (hs : Stp ch vs w us w') : Var w' us B a c x :=
  ⟨hs.itm hq h.my, (hs.mine hq h.own).2.trans h.row, (hs.mine hq h.own).1⟩
theorem var_new {w0 w : World} {b ch n : Nat} {us : List Value} {ys : List Itm} (h : QG w0 w b ch n us ys) {a : Option Addr} {c : Nat} {x : Itm} (hm : MyI w us (.agg (ic x.k a x.bs.length c)) x) : ∃ w4, (w.alloc (.cells (ic 0 none 0 0) 32)).setRow w.heap.size (ic x.k a x.bs.length c) = w4 ∧ QG w0 w4 b ch n us ys ∧ Var w4 us w.heap.size a c x ∧ Stp ch us w us w4 := by
  obtain ⟨w4, hE, r4, o4, b4, _⟩ := newb w (ic 0 none 0 0) (ic x.k a x.bs.length c) 32 (by simp)
  exact ⟨w4, hE, h.below b4, ⟨(Stp.below b4).itm h.qs hm, r4, h.fresh o4⟩, .below b4⟩
set_option maxRecDepth 100000 in
set_option maxHeartbeats 4000000 in
theorem qturns_fn (most : Int) (xs : List OpR) (hm : xs.length ≤ 9223372036854775807) (a : Option Addr) (cap : Nat) (x0 x1 : Int) (w : World) (hX : RowsIn fO zeroO 5 w a xs) (hP : ∀ k, k < xs.length → PdO w (xs.getD k zeroO)) :
    Calls Try.prog 7 #[.int .i64 most, .slice a xs.length cap, .agg #[.int .i64 x0, .int .i64 x1]] w fun e w' => e = .returned (.bool true) ∧ Below w.heap.size w w' := by
  by_cases hbad : most < 1 ∨ 64 < most
  · clear hX hP
    have hn := new_bad most hbad
    have HN_ := hid hn
    clear hn
    clear hbad
    go_enter Try.func7, Try.ntmps7
    go_wp2_with fail
    obtain ⟨W1, hW1⟩ : ∃ W1, w.alloc (.cells #[.int .i64 x0, .int .i64 x1] 56) = W1 := ⟨_, rfl⟩
    have h0 : Below w.heap.size w W1 := by rw [← hW1]; exact (Below.refl _ _).alloc (Nat.le_refl _) _
    rw [hW1]
    clear hW1
    refine (HN_.out W1).mono ?_
    rintro e w1 ⟨rfl, hb⟩
    dsimp only
    go_wp2_with fail
    refine (alive18_c w1).mono ?_
    rintro e w2 ⟨rfl, hb2⟩
    dsimp only
    go_wp2
    go_ret
    exact ⟨rfl, h0.trans ((hb.trans (hb2.mono hb.size)).mono h0.size)⟩
  obtain ⟨n, rfl⟩ : ∃ n : Nat, most = n := ⟨most.toNat, by omega⟩
  have hn1 : 1 ≤ n := by omega
  have hn2 : n ≤ 64 := by omega
  clear hbad
  by_cases hl : 200 < xs.length
  · clear hX hP
    have h2 : (200 : Int) < (xs.length : Int) := by omega
    have hn := new_ok n hn1 hn2
    have HN_ := hid hn
    clear hn
    clear hn1 hn2 hl hm
    go_enter Try.func7, Try.ntmps7
    go_wp2_with fail
    obtain ⟨W1, hW1⟩ : ∃ W1, w.alloc (.cells #[.int .i64 x0, .int .i64 x1] 56) = W1 := ⟨_, rfl⟩
    have h0 : Below w.heap.size w W1 := by rw [← hW1]; exact (Below.refl _ _).alloc (Nat.le_refl _) _
    rw [hW1]
    clear hW1
    refine (HN_.out W1).mono ?_
    rintro e w1 ⟨b, ch, rfl, hb, _, _, _⟩
    dsimp only
    go_wp2_with fail
    refine (alive18_c w1).mono ?_
    rintro e w2 ⟨rfl, hb2⟩
    dsimp only
    go_wp2
    go_ret
    exact ⟨rfl, h0.trans ((hb.trans (hb2.mono hb.size)).mono h0.size)⟩
  have h2 : ¬ (200 : Int) < (xs.length : Int) := by omega
  have hlen : xs.length ≤ 200 := by omega
  clear hl hm
  have hA : ∀ V, Below w.heap.size w V → RowsIn fO zeroO 5 V a xs ∧ ∀ k, k < xs.length → PdO V (xs.getD k zeroO) := fun V hb => ⟨hX.below (by decide) hb, fun k hk => (hP k hk).below hb⟩
  have hnew := fun V => (new_ok n hn1 hn2 V).mono (R' := fun e w' => ∃ b ch, e = .returned (.tuple #[.pointer (some ⟨b, 0, none⟩), .int .i64 0]) ∧ QG V w' b ch n [] []) fun e w' ⟨b, ch, he, hb, hlb, hlc, hq⟩ => ⟨b, ch, he, .new hq hb hlc hn2⟩
  clear hX hP hn1 hn2
  have HA_ := hid hA
  clear hA
  have HNEW_ := hid hnew
  clear hnew
  go_enter Try.func7, Try.ntmps7
  go_wp2_with fail
  obtain ⟨W1, hW1⟩ : ∃ W1, w.alloc (.cells #[.int .i64 x0, .int .i64 x1] 56) = W1 := ⟨_, rfl⟩
  have h0 : Below w.heap.size w W1 := by rw [← hW1]; exact (Below.refl _ _).alloc (Nat.le_refl _) _
  have hbx : row? W1 w.heap.size = #[.int .i64 x0, .int .i64 x1] := by rw [← hW1]; simp [row_alloc, rowOf]
  have hbox : ∀ V, Below W1.heap.size W1 V → row? V w.heap.size = #[.int .i64 x0, .int .i64 x1] := fun V hb => (Below_row hb (row_lt (by rw [hbx]; simp))).trans hbx
  rw [hW1]
  clear hW1 hbx
  have H0_ := hid h0
  clear h0
  have HBOX_ := hid hbox
  clear hbox
  refine (HNEW_.out W1).mono ?_
  rintro e w1 ⟨b, ch, rfl, hq⟩
  dsimp only
  clear HNEW_
  have HQ_ := hid hq
  clear hq
  go_wp2
  go_loopw [37] (fun i wr => ∃ (j : Nat) (vs : List Value) (ys : List Itm), j ≤ xs.length ∧ i = .int .i64 j ∧ QG W1 wr b ch n vs ys) (fun i _ => xs.length - (intOf i).toNat)
  case atStart => exact ⟨0, [], [], by omega, rfl, HQ_.out⟩
  case round =>
    obtain ⟨j, vs, ys, hj, rfl, hG⟩ := hrel
    by_cases hjt : j < xs.length
    · obtain ⟨hr, hpd⟩ := HA_.out wr (H0_.out.trans (hG.bel.mono H0_.out.size))
      obtain ⟨g, off, rfl, hrow⟩ := hr.at (by intro e; rw [e] at hjt; simp at hjt)
      obtain ⟨s1, s2⟩ := hrow j hjt
      have hp := hpd j hjt
      have hjt' : (j : Int) < (xs.length : Int) := by omega
      generalize xs.getD j zeroO = s at *
      obtain ⟨o, sa, sc⟩ := s
      simp only [fO] at s2
      clear hrow hr hpd
      have HG_ := hid hG
      clear hG
      have HP_ := hid hp
      clear hp
      go_upto_region 7 with (fail)
      rw [oa_lit]
      obtain ⟨w2, hE, r2, _, b2, _⟩ := newb wr (oa zeroOp none 0) (oa o sa sc) 49 (by simp)
      rw [hE]
      clear hE s1 s2
      have g2 := HG_.out.below b2
      have p2 := HP_.out.below b2
      clear b2 HG_ HP_
      generalize wr.heap.size = nb at *
      have hcall := does_g g2 o sa sc p2.row ⟨p2.len, p2.ok⟩
      clear g2 p2
      have HCALL_ := hid hcall
      clear hcall
      go_wp2_with fail
      refine HCALL_.out.mono ?_
      rintro e w3 ⟨a', c', us, rfl, _, g3, _⟩
      dsimp only
      clear HCALL_
      generalize (doR n o ys).ys = zs at g3
      have G3_ := hid g3
      clear g3
      go_wp2
      exact ⟨⟨j + 1, us, zs, by omega, by go_num, G3_.out⟩, by simp [intOf]; omega⟩
    · obtain rfl : j = xs.length := by omega
      have hbx := HBOX_.out wr hG.bel
      have HG_ := hid hG
      clear hG
      clear hjt hj hlen h2
      have hlk := look_g HG_.out x0
      have HLK_ := hid hlk
      clear hlk
      go_wp2_with fail
      refine HLK_.out.mono ?_
      rintro e w2 ⟨a1, c1, us, rfl, g2, _, m2⟩
      dsimp only
      generalize hqq : decide (0 ≤ x0 ∧ x0 < (ys.length : Int)) = q
      generalize hz : lookI x0 ys = z at *
      clear HLK_ HG_ hbx
      have G2_ := hid g2
      clear g2
      have M2_ := hid m2
      clear m2
      have HQQ_ := hid hqq
      clear hqq
      have HZ_ := hid hz
      clear hz
      go_upto_region 10 with (fail)
      obtain ⟨w4, hE, g4, v4, _⟩ := var_new G2_.out M2_.out
      rw [hE]
      clear hE G2_ M2_
      generalize w2.heap.size = n1 at *
      have hbx := HBOX_.out w4 g4.bel
      have htn := turn_g g4 x0 x1
      cases hd : doneT x0 x1 ys ys.length with
      | false =>
        rw [hd] at htn
        have HTN_ := hid htn
        clear htn
        have G4_ := hid g4
        clear g4
        have V4_ := hid v4
        clear v4
        have HD_ := hid hd
        clear hd
        go_wp2_with fail
        refine HTN_.out.mono ?_
        rintro e w5 ⟨rfl, us5, g5, s5⟩
        dsimp only
        have v5 := V4_.out.step G4_.out.qs s5
        have hal := alive_g g5
        clear HTN_ G4_ V4_ s5 hbx
        have HAL_ := hid hal
        clear hal
        have G5_ := hid g5
        clear g5
        have V5_ := hid v5
        clear v5
        go_wp2_with fail
        refine HAL_.out.mono ?_
        rintro e w6 ⟨rfl, g6, s6⟩
        dsimp only
        have v6 := V5_.out.step G5_.out.qs s6
        have hbx := HBOX_.out w6 g6.bel
        have hrow := v6.row
        have hbb : Below w.heap.size w w6 := H0_.out.trans (g6.bel.mono H0_.out.size)
        have hfin : q = false ∨ (q = true ∧ x1 < 0) ∨ (q = true ∧ ¬ x1 < 0 ∧ (z.bs.length : Int) ≤ x1) := by
          have h1 := HQQ_.out
          have h2 := HD_.out
          have h3 := HZ_.out
          cases q with
          | false => exact .inl rfl
          | true =>
            have hin := of_decide_eq_true h1
            unfold doneT turnsI at h2
            unfold lookI at h3
            rw [if_pos hin] at h3
            rw [h3, h1, Bool.true_and] at h2
            have := of_decide_eq_false h2
            by_cases h4 : x1 < 0
            · exact .inr (.inl ⟨rfl, h4⟩)
            · exact .inr (.inr ⟨rfl, h4, by omega⟩)
        clear HAL_ G5_ V5_ s6 v6 g6 HQQ_ HD_ HZ_
        have HBB_ := hid hbb
        clear hbb
        rcases hfin with rfl | ⟨rfl, hx⟩ | ⟨rfl, hx, hx'⟩ <;> (
          go_wp2
          go_ret
          exact ⟨rfl, HBB_.out⟩)
      | true =>
        obtain ⟨k, jj, rfl, rfl, hk, hjj⟩ := doneT_ex hd
        have hz := HZ_.out
        rw [lookI_in hk] at hz
        have hokx : okX z := by rw [← hz]; exact g4.good.ok _ (getD_mem hk)
        have hok := hokx.2
        have hzl := hokx.1
        clear hokx
        have hback := turnL_back hk hjj (by rw [hz]; exact hok)
        have hlz := turnL_in hk hjj
        rw [hz] at hjj hlz
        have hzs : lookI k (turnL k jj ys) = turnI z jj := by
          rw [hlz, lookI_in (by simpa using hk), set_getD _ _ hk]
        have hyl : (turnI z jj).bs.length = z.bs.length := by simp [turnI]
        have hyb := fun i => turnI_at z jj i hjj
        rw [hd] at htn
        generalize turnI z jj = y at *
        generalize turnL k jj ys = zs at *
        clear hlz HQQ_ hd
        have HTN_ := hid htn
        clear htn
        have G4_ := hid g4
        clear g4
        have V4_ := hid v4
        clear v4
        have HZ_ := hid hz
        clear hz
        have HOK_ := hid hok
        clear hok
        have HZL_ := hid hzl
        clear hzl
        have HBACK_ := hid hback
        clear hback
        have HZS_ := hid hzs
        clear hzs
        have HYL_ := hid hyl
        clear hyl
        have HYB_ := hid hyb
        clear hyb
        have HK_ := hid hk
        clear hk
        have HJJ_ := hid hjj
        clear hjj
        go_wp2_with fail
        refine HTN_.out.mono ?_
        rintro e w5 ⟨rfl, us5, g5, s5⟩
        dsimp only
        have v5 := V4_.out.step G4_.out.qs s5
        have hlk := look_g g5 k
        rw [HZS_.out] at hlk
        clear hbx
        have hbx := HBOX_.out w5 g5.bel
        clear HTN_ G4_ V4_ s5
        have HLK_ := hid hlk
        clear hlk
        have G5_ := hid g5
        clear g5
        have V5_ := hid v5
        clear v5
        go_wp2_with fail
        refine HLK_.out.mono ?_
        rintro e w6 ⟨a2, c2, us6, rfl, g6, s6, m6⟩
        dsimp only
        have v6 := V5_.out.step G5_.out.qs s6
        clear HLK_ G5_ V5_ s6 hbx
        have G6_ := hid g6
        clear g6
        have M6_ := hid m6
        clear m6
        have V6_ := hid v6
        clear v6
        go_upto_region 13 with (fail)
        obtain ⟨w7, hE, g7, y7, s7⟩ := var_new G6_.out M6_.out
        rw [hE]
        have v7 := V6_.out.step G6_.out.qs s7
        clear hE G6_ M6_ V6_ s7
        generalize w6.heap.size = n2 at *
        have hbx := HBOX_.out w7 g7.bel
        have htn := turn_g g7 k jj
        rw [HBACK_.out] at htn
        generalize doneT k jj zs zs.length = q2 at *
        have HTN_ := hid htn
        clear htn
        have G7_ := hid g7
        clear g7
        have V7_ := hid v7
        clear v7
        have Y7_ := hid y7
        clear y7
        go_wp2_with fail
        refine HTN_.out.mono ?_
        rintro e w8 ⟨rfl, us8, g8, s8⟩
        dsimp only
        have v8 := V7_.out.step G7_.out.qs s8
        have y8 := Y7_.out.step G7_.out.qs s8
        have hlk := look_g g8 k
        rw [lookI_in HK_.out, HZ_.out] at hlk
        clear hbx
        have hbx := HBOX_.out w8 g8.bel
        clear HTN_ G7_ V7_ Y7_ s8
        have HLK_ := hid hlk
        clear hlk
        have G8_ := hid g8
        clear g8
        have V8_ := hid v8
        clear v8
        have Y8_ := hid y8
        clear y8
        go_wp2_with fail
        refine HLK_.out.mono ?_
        rintro e w9 ⟨a3, c3, us9, rfl, g9, s9, m9⟩
        dsimp only
        have v9 := V8_.out.step G8_.out.qs s9
        have y9 := Y8_.out.step G8_.out.qs s9
        clear HLK_ G8_ V8_ Y8_ s9 hbx
        have G9_ := hid g9
        clear g9
        have M9_ := hid m9
        clear m9
        have V9_ := hid v9
        clear v9
        have Y9_ := hid y9
        clear y9
        go_upto_region 15 with (fail)
        obtain ⟨w10, hE, g10, u10, s10⟩ := var_new G9_.out M9_.out
        rw [hE]
        have v10 := V9_.out.step G9_.out.qs s10
        have y10 := Y9_.out.step G9_.out.qs s10
        clear hE G9_ M9_ V9_ Y9_ s10
        generalize w9.heap.size = n3 at *
        have hrow := v10.row
        have G10_ := hid g10
        clear g10
        have U10_ := hid u10
        clear u10
        have V10_ := hid v10
        clear v10
        have Y10_ := hid y10
        clear y10
        go_wp2
        clear hrow
        have hok := HOK_.out
        have hjj := HJJ_.out
        clear HK_ HBACK_ HZ_ HZS_ HOK_ HJJ_
        go_loopw [100] (fun i wr => ∃ (i' : Nat) (us : List Value), i' ≤ z.bs.length ∧ i = .int .i64 i' ∧ QG W1 wr b ch n us ys ∧ Var wr us n1 a1 c1 z ∧ Var wr us n2 a2 c2 y ∧ Var wr us n3 a3 c3 z) (fun i _ => z.bs.length - (intOf i).toNat)
        case atStart => exact ⟨0, us9, by omega, rfl, G10_.out, V10_.out, Y10_.out, U10_.out⟩
        case round =>
          obtain ⟨i', us, hi, rfl, g, v, y', u⟩ := hrel
          by_cases hit : i' < z.bs.length
          · have hzne : z.bs ≠ [] := by intro e; rw [e] at hit; simp at hit
            have hity : i' < y.bs.length := by rw [HYL_.out]; exact hit
            have hyne : y.bs ≠ [] := by intro e; rw [e] at hity; simp at hity
            obtain ⟨ga, oa', rfl, ra⟩ := v.my.itm.rows.at hzne
            obtain ⟨gb, ob', rfl, rb⟩ := y'.my.itm.rows.at hyne
            have ea := byte_at ra i' hit
            have eb := byte_at rb i' hity
            have fa : ∀ d, (row? (gr wr d) ga)[oa' + i']? = some (.int .u8 (z.bs.getD i' 0)) := fun d => by rw [Below_row (gr_below wr d) (row_lt (by intro e0; rw [e0] at ea; simp at ea))]; exact ea
            have fb : ∀ d, (row? (gr wr d) gb)[ob' + i']? = some (.int .u8 (y.bs.getD i' 0)) := fun d => by rw [Below_row (gr_below wr d) (row_lt (by intro e0; rw [e0] at eb; simp at eb))]; exact eb
            have f1 : ∀ d, row? (gr wr d) n1 = ic z.k (some ⟨ga, oa', none⟩) z.bs.length c1 := fun d => by rw [Below_row (gr_below wr d) (row_lt (by rw [v.row]; simp))]; exact v.row
            have f2 : ∀ d, row? (gr wr d) n2 = ic y.k (some ⟨gb, ob', none⟩) y.bs.length c2 := fun d => by rw [Below_row (gr_below wr d) (row_lt (by rw [y'.row]; simp))]; exact y'.row
            have f3 : ∀ d, row? (gr wr d) w.heap.size = #[.int .i64 k, .int .i64 jj] := fun d => HBOX_.out _ (g.bel.trans ((gr_below wr d).mono g.bel.size))
            have hrg := hok i' hit
            have hyb := HYB_.out i'
            have hi1 : (i' : Int) < (z.bs.length : Int) := by omega
            have hi2 : ¬ (y.bs.length : Int) ≤ (i' : Int) := by omega
            generalize hZ : z.bs.getD i' 0 = bz at *
            generalize y.bs.getD i' 0 = bY at *
            clear ea eb ra rb
            have G_ := hid g
            clear g
            have V_ := hid v
            clear v
            have Y'_ := hid y'
            clear y'
            have U_ := hid u
            clear u
            have HZ_ := hid hZ
            clear hZ
            have HI_ := hid hi
            clear hi
            have HRG_ := hid hrg
            clear hrg
            by_cases hij : i' = jj
            · subst hij
              rw [if_pos rfl, HZ_.out] at hyb
              have hrg := HRG_.out
              have hne : ¬ bz = bY := by omega
              clear hyb hrg
              go_upto_region 18 with (fail)
              rw [gr_self wr]
              refine wp_region_gr wr (by kernel_rfl) (by kernel_rfl) ⟨_, rfl⟩ ?_
              repeat (go_big_quiet_step (fail))
              refine wpQuiet_nil ?_
              rintro _ ⟨yy, rfl⟩
              have g' := G_.out.below (gr_below wr yy)
              have sg := Stp.below (ch := ch) (vs := us) (gr_below wr yy)
              have v' := V_.out.step G_.out.qs sg
              have y'' := Y'_.out.step G_.out.qs sg
              have u' := U_.out.step G_.out.qs sg
              clear sg G_ V_ Y'_ U_ fa fb f1 f2 f3
              generalize gr wr yy = w11 at *
              have G'_ := hid g'
              clear g'
              have V'_ := hid v'
              clear v'
              have Y''_ := hid y''
              clear y''
              have U'_ := hid u'
              clear u'
              go_wp2
              have hi0 : (i' : Int) < 140737488351232 := by have := HZL_.out; omega
              have hw : wrap64 ((i' : Int) + 1) = ((i' + 1 : Nat) : Int) := by unfold wrap64; omega
              rw [hw]
              exact ⟨⟨i' + 1, us, by omega, rfl, G'_.out, V'_.out, Y''_.out, U'_.out⟩, by simp only [intOf, Int.toNat_natCast]; omega⟩
            · have hij' : ((i' : Int) != (jj : Int)) = true := bne_iff_ne.2 (by omega)
              rw [if_neg hij] at hyb
              subst hyb
              go_upto_region 18 with (fail)
              rw [gr_self wr]
              refine wp_region_gr wr (by kernel_rfl) (by kernel_rfl) ⟨_, rfl⟩ ?_
              repeat (go_big_quiet_step (fail))
              refine wpQuiet_nil ?_
              rintro _ ⟨yy, rfl⟩
              have g' := G_.out.below (gr_below wr yy)
              have sg := Stp.below (ch := ch) (vs := us) (gr_below wr yy)
              have v' := V_.out.step G_.out.qs sg
              have y'' := Y'_.out.step G_.out.qs sg
              have u' := U_.out.step G_.out.qs sg
              clear sg G_ V_ Y'_ U_ fa fb f1 f2 f3
              generalize gr wr yy = w11 at *
              have G'_ := hid g'
              clear g'
              have V'_ := hid v'
              clear v'
              have Y''_ := hid y''
              clear y''
              have U'_ := hid u'
              clear u'
              go_wp2
              have hi0 : (i' : Int) < 140737488351232 := by have := HZL_.out; omega
              have hw : wrap64 ((i' : Int) + 1) = ((i' + 1 : Nat) : Int) := by unfold wrap64; omega
              rw [hw]
              exact ⟨⟨i' + 1, us, by omega, rfl, G'_.out, V'_.out, Y''_.out, U'_.out⟩, by simp only [intOf, Int.toNat_natCast]; omega⟩
          · obtain rfl : i' = z.bs.length := by omega
            have hal := alive_g g
            clear hok hjj hi hit
            have HAL_ := hid hal
            clear hal
            have G_ := hid g
            clear g
            have V_ := hid v
            clear v
            have Y'_ := hid y'
            clear y'
            have U_ := hid u
            clear u
            go_wp2_with fail
            refine HAL_.out.mono ?_
            rintro e w11 ⟨rfl, g11, s11⟩
            dsimp only
            have v11 := V_.out.step G_.out.qs s11
            have u11 := U_.out.step G_.out.qs s11
            have hr1 := v11.row
            have hr3 := u11.row
            have hsame := same_g z c3 c1 u11.my.itm.rows v11.my.itm.rows (Q := fun w' => Below w.heap.size w w') (fun d => H0_.out.trans ((g11.below (gr_below w11 d)).bel.mono H0_.out.size))
            clear s11 HAL_ G_ V_ Y'_ U_ v11 u11 g11
            have HSAME_ := hid hsame
            clear hsame
            go_wp2_with fail
            refine HSAME_.out.mono ?_
            rintro e w13 ⟨rfl, g13⟩
            dsimp only
            clear HSAME_
            have G13_ := hid g13
            clear g13
            go_wp2
            go_ret
            exact ⟨rfl, G13_.out⟩
end Go.Proofs.Ytbdpnmocbpplbaa
