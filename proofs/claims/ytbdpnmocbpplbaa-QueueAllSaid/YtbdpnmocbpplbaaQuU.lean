/-
  The law QueueLooks: it answers true. No condition.
-/
import Derived.Test.YtbdpnmocbpplbaaQuT
namespace Go.Proofs.Ytbdpnmocbpplbaa
open Go.RowKit Go.Conc

theorem oa_one (o : OpI) (a : Option Addr) (c : Nat) : ∀ v ∈ oa o a c, v.oneCell' = true := by
  intro v hv
  simp [oa] at hv
  rcases hv with rfl | rfl | rfl | rfl | rfl <;> rfl
theorem oa_lit : (#[.int .i64 0, .int .i64 0, .int .i64 0, .int .i64 0, .slice none 0 0] : Array Value) = oa zeroOp none 0 := rfl
@[go_sem] theorem stOp (w : World) (b : Nat) (o : OpI) (a : Option Addr) (c : Nat) (h : (row? w b).size = 5) (ho : own? w b = true) : (stAt 49 (.pointer (some ⟨b, 0, none⟩)) (.agg (oa o a c))).run Try.prog w = .ok () (w.setRow b (oa o a c)) :=
  run_stAt_row siz49 w b _ (Array.all_eq_true_iff_forall_mem.2 (oa_one o a c)) (by simp) h ho
theorem ItmIn.rows {w : World} {x : Itm} {a : Option Addr} {c : Nat} (h : ItmIn w (.agg (ic x.k a x.bs.length c)) x) : RowsIn b1 0 1 w a x.bs := by
  obtain ⟨a', c', e, hr⟩ := h
  have e1 : a = a' := by injection e with e; simp [ic] at e; exact e.1
  rw [e1]
  exact hr
theorem same_g (x : Itm) {w : World} {a1 a2 : Option Addr} (c1 c2 : Nat) (h1 : RowsIn b1 0 1 w a1 x.bs) (h2 : RowsIn b1 0 1 w a2 x.bs) {Q : World → Prop} (hQ : ∀ d, Q (gr w d)) :
    Calls Try.prog 13 #[.agg (ic x.k a1 x.bs.length c1), .agg (ic x.k a2 x.bs.length c2)] w fun e w' => e = .returned (.bool true) ∧ Q w' := by
  have h := same_fn x (W := w) (d := w) (c1 := c1) (c2 := c2) (fun d => h1.gr (by decide) d) (fun d => h2.gr (by decide) d)
  rw [← gr_self] at h
  exact h.mono fun e w' ⟨he, m, hm⟩ => ⟨he, by rw [hm]; exact hQ m⟩
set_option maxRecDepth 100000 in
set_option maxHeartbeats 4000000 in
theorem qlooks_fn (most : Int) (xs : List OpR) (hm : xs.length ≤ 9223372036854775807) (a : Option Addr) (cap : Nat) (kk : Int) (w : World) (hX : RowsIn fO zeroO 5 w a xs) (hP : ∀ k, k < xs.length → PdO w (xs.getD k zeroO)) :
    Calls Try.prog 8 #[.int .i64 most, .slice a xs.length cap, .int .i64 kk] w fun e w' => e = .returned (.bool true) ∧ Below w.heap.size w w' := by
  by_cases hbad : most < 1 ∨ 64 < most
  · clear hX hP
    have hn := new_bad most hbad
    have HN_ := hid hn
    clear hn
    clear hbad
    go_enter Try.func8, Try.ntmps8
    go_wp2_with fail
    refine (HN_.out w).mono ?_
    rintro e w1 ⟨rfl, hb⟩
    dsimp only
    go_wp2_with fail
    refine (alive18_c w1).mono ?_
    rintro e w2 ⟨rfl, hb2⟩
    dsimp only
    go_wp2
    go_ret
    exact ⟨rfl, hb.trans (hb2.mono hb.size)⟩
  obtain ⟨n, rfl⟩ : ∃ n : Nat, most = n := ⟨most.toNat, by omega⟩
  have hn1 : 1 ≤ n := by omega
  have hn2 : n ≤ 64 := by omega
  clear hbad
  by_cases hl : 200 < xs.length
  · clear hX hP
    have h2 : (200 : Int) < (xs.length : Int) := by omega
    have hn := new_ok n hn1 hn2 w
    have HN_ := hid hn
    clear hn
    clear hn1 hn2 hl hm
    go_enter Try.func8, Try.ntmps8
    go_wp2_with fail
    refine HN_.out.mono ?_
    rintro e w1 ⟨b, ch, rfl, hb, _, _, _⟩
    dsimp only
    go_wp2_with fail
    refine (alive18_c w1).mono ?_
    rintro e w2 ⟨rfl, hb2⟩
    dsimp only
    go_wp2
    go_ret
    exact ⟨rfl, hb.trans (hb2.mono hb.size)⟩
  have h2 : ¬ (200 : Int) < (xs.length : Int) := by omega
  have hlen : xs.length ≤ 200 := by omega
  clear hl hm
  have hA : ∀ V, Below w.heap.size w V → RowsIn fO zeroO 5 V a xs ∧ ∀ k, k < xs.length → PdO V (xs.getD k zeroO) := fun V hb => ⟨hX.below (by decide) hb, fun k hk => (hP k hk).below hb⟩
  have hnew := (new_ok n hn1 hn2 w).mono (R' := fun e w' => ∃ b ch, e = .returned (.tuple #[.pointer (some ⟨b, 0, none⟩), .int .i64 0]) ∧ QG w w' b ch n [] []) fun e w' ⟨b, ch, he, hb, hlb, hlc, hq⟩ => ⟨b, ch, he, .new hq hb hlc hn2⟩
  clear hX hP hn1 hn2
  have HA_ := hid hA
  clear hA
  have HNEW_ := hid hnew
  clear hnew
  go_enter Try.func8, Try.ntmps8
  go_wp2_with fail
  refine HNEW_.out.mono ?_
  rintro e w1 ⟨b, ch, rfl, hq⟩
  dsimp only
  clear HNEW_
  have HQ_ := hid hq
  clear hq
  go_wp2
  go_loopw [39] (fun i wr => ∃ (j : Nat) (vs : List Value) (ys : List Itm), j ≤ xs.length ∧ i = .int .i64 j ∧ QG w wr b ch n vs ys) (fun i _ => xs.length - (intOf i).toNat)
  case atStart => exact ⟨0, [], [], by omega, rfl, HQ_.out⟩
  case round =>
    obtain ⟨j, vs, ys, hj, rfl, hG⟩ := hrel
    by_cases hjt : j < xs.length
    · obtain ⟨hr, hpd⟩ := HA_.out wr hG.bel
      obtain ⟨g, off, rfl, hrow⟩ := hr.at (by intro e; rw [e] at hjt; simp at hjt)
      obtain ⟨s1, s2⟩ := hrow j hjt
      have hp := hpd j hjt
      have hjt' : (j : Int) < (xs.length : Int) := by omega
      generalize xs.getD j zeroO = s at *
      obtain ⟨o, sa, sc⟩ := s
      simp only [fO] at s2
      clear hrow hr hpd
      have HG_ := hid hG
      clear hG
      have HP_ := hid hp
      clear hp
      go_upto_region 7 with (fail)
      rw [oa_lit]
      obtain ⟨w2, hE, r2, _, b2, _⟩ := newb wr (oa zeroOp none 0) (oa o sa sc) 49 (by simp)
      rw [hE]
      clear hE s1 s2
      have g2 := HG_.out.below b2
      have p2 := HP_.out.below b2
      clear b2 HG_ HP_
      generalize wr.heap.size = nb at *
      have hcall := does_g g2 o sa sc p2.row ⟨p2.len, p2.ok⟩
      clear g2 p2
      have HCALL_ := hid hcall
      clear hcall
      go_wp2_with fail
      refine HCALL_.out.mono ?_
      rintro e w3 ⟨a', c', us, rfl, _, g3, _⟩
      dsimp only
      clear HCALL_
      generalize (doR n o ys).ys = zs at g3
      have G3_ := hid g3
      clear g3
      go_wp2
      exact ⟨⟨j + 1, us, zs, by omega, by go_num, G3_.out⟩, by simp [intOf]; omega⟩
    · obtain rfl : j = xs.length := by omega
      have HG_ := hid hG
      clear hG
      clear hjt hj hlen h2
      go_wp2_with fail
      refine (len_g HG_.out).mono ?_
      rintro e w3 ⟨rfl, rfl⟩
      dsimp only
      have hlk := look_g HG_.out kk
      have HLK_ := hid hlk
      clear hlk
      go_wp2_with fail
      refine HLK_.out.mono ?_
      rintro e w2 ⟨a1, c1, us, rfl, g2, _, m2⟩
      dsimp only
      clear HLK_ HG_
      generalize hz : lookI kk ys = z at *
      have G2_ := hid g2
      clear g2
      have M2_ := hid m2
      clear m2
      go_upto_region 11 with (fail)
      obtain ⟨w4, hE, r4, o4, b4, _⟩ := newb w2 (ic 0 none 0 0) (ic z.k a1 z.bs.length c1) 32 (by simp)
      rw [hE]
      clear hE
      have m4 := (Stp.below b4).itm G2_.out.qs M2_.out
      have q4 := G2_.out.fresh o4
      have g4 := G2_.out.below b4
      clear b4 G2_ M2_
      generalize w2.heap.size = n1 at *
      have hlk := look_g g4 kk
      rw [hz] at hlk
      have HLK_ := hid hlk
      clear hlk
      have G4_ := hid g4
      clear g4
      have M4_ := hid m4
      clear m4
      have Q4_ := hid q4
      clear q4
      have HZ_ := hid hz
      clear hz
      go_wp2_with fail
      refine HLK_.out.mono ?_
      rintro e w5 ⟨a2, c2, us5, rfl, g5, s5, m5⟩
      dsimp only
      have m5' := s5.itm G4_.out.qs M4_.out
      obtain ⟨q5, r5⟩ := s5.mine G4_.out.qs Q4_.out
      rw [r4] at r5
      clear HLK_ G4_ M4_ Q4_ s5 r4
      have G5_ := hid g5
      clear g5
      have M5_ := hid m5
      clear m5
      have M5'_ := hid m5'
      clear m5'
      have Q5_ := hid q5
      clear q5
      go_upto_region 12 with (fail)
      obtain ⟨w6, hE, r6, o6, b6, _⟩ := newb w5 (ic 0 none 0 0) (ic z.k a2 z.bs.length c2) 32 (by simp)
      rw [hE]
      clear hE
      have s6 := Stp.below (ch := ch) (vs := us5) b6
      have m6 := s6.itm G5_.out.qs M5_.out
      have m6' := s6.itm G5_.out.qs M5'_.out
      obtain ⟨q6, r6'⟩ := s6.mine G5_.out.qs Q5_.out
      rw [r5] at r6'
      have g6 := G5_.out.below b6
      clear b6 s6 G5_ M5_ M5'_ Q5_ r5
      generalize w5.heap.size = n2 at *
      have hl6 := len_g g6
      have hsame := same_g z c1 c2 m6'.itm.rows m6.itm.rows (Q := fun w' => QG w w' b ch n us5 ys) (fun d => g6.below (gr_below w6 d))
      have G6_ := hid g6
      clear g6
      have HL6_ := hid hl6
      clear hl6
      have HSAME_ := hid hsame
      clear hsame
      clear m6 m6' o6 q6
      generalize hle : ys.length = L at *
      rw [show decide (0 ≤ kk ∧ kk < (L : Int)) = (decide (0 ≤ kk) && decide (kk < (L : Int))) by simp]
      generalize hp1 : decide (0 ≤ kk) = p1
      generalize hp2 : decide (kk < (L : Int)) = p2
      go_cut [86] (fun v wr => v = .bool false ∧ QG w wr b ch n us5 ys)
      case first =>
        cases p1 <;> cases p2 <;> (
          go_wp2_with fail
          refine HSAME_.out.mono ?_
          rintro e w7 ⟨rfl, g7⟩
          dsimp only
          clear HSAME_ HL6_ G6_
          have hl7 := len_g g7
          rw [hle] at hl7
          have G7_ := hid g7
          clear g7
          have HL7_ := hid hl7
          clear hl7
          go_wp2_with fail
          refine HL7_.out.mono ?_
          rintro e w8 ⟨rfl, rfl⟩
          dsimp only
          clear HL7_
          go_wp2
          all_goals go_meet
          case rel => exact ⟨rfl, G7_.out⟩)
      case rest =>
        obtain ⟨rfl, g7⟩ := hcut
        clear HSAME_ HL6_ G6_ HZ_ hle hp1 hp2
        cases ys with
        | nil =>
          have hlk := look_g g7 0
          rw [show lookI 0 [] = zeroI from rfl, show decide ((0 : Int) ≤ 0 ∧ (0 : Int) < (([] : List Itm).length : Int)) = false from rfl] at hlk
          have HLK_ := hid hlk
          clear hlk
          clear g7
          go_wp2_with fail
          refine HLK_.out.mono ?_
          rintro e w8 ⟨a3, c3, us8, rfl, g8, _, m8⟩
          dsimp only
          clear HLK_
          have G8_ := hid g8
          clear g8
          have M8_ := hid m8
          clear m8
          go_upto_region 15 with (fail)
          obtain ⟨w9, hE, r9, o9, b9, _⟩ := newb w8 (ic 0 none 0 0) (ic zeroI.k a3 zeroI.bs.length c3) 32 (by simp)
          rw [hE]
          clear hE
          have s9 := Stp.below (ch := ch) (vs := us8) b9
          have m9 := s9.itm G8_.out.qs M8_.out
          have g9 := G8_.out.below b9
          have q9 := G8_.out.fresh o9
          clear b9 s9 G8_ M8_
          generalize w8.heap.size = n3 at *
          have htk := take_gn g9
          have HTK_ := hid htk
          clear htk
          have G9_ := hid g9
          clear g9
          have M9_ := hid m9
          clear m9
          have Q9_ := hid q9
          clear q9
          go_wp2_with fail
          refine HTK_.out.mono ?_
          rintro e w10 ⟨rfl, g10, s10⟩
          dsimp only
          have m10 := s10.itm G9_.out.qs M9_.out
          obtain ⟨q10, r10⟩ := s10.mine G9_.out.qs Q9_.out
          rw [r9] at r10
          clear s10 r9 HTK_ G9_ M9_ Q9_
          have G10_ := hid g10
          clear g10
          have M10_ := hid m10
          clear m10
          have Q10_ := hid q10
          clear q10
          go_upto_region 16 with (fail)
          obtain ⟨w11, hE, r11, o11, b11, _⟩ := newb w10 (ic 0 none 0 0) (ic 0 none 0 0) 32 (by simp)
          rw [hE]
          clear hE
          have s11 := Stp.below (ch := ch) (vs := us8) b11
          have m11 := s11.itm G10_.out.qs M10_.out
          have my11 := MyI.zero w11 us8
          obtain ⟨q11, r11'⟩ := s11.mine G10_.out.qs Q10_.out
          rw [r10] at r11'
          have g11 := G10_.out.below b11
          have z11 := G10_.out.fresh o11
          clear b11 s11 r10 G10_ M10_ Q10_
          generalize w10.heap.size = n4 at *
          have hal := alive_g g11
          have HAL_ := hid hal
          clear hal
          have G11_ := hid g11
          clear g11
          have M11_ := hid m11
          clear m11
          have MY11_ := hid my11
          clear my11
          have Q11_ := hid q11
          clear q11
          have Z11_ := hid z11
          clear z11
          go_wp2_with fail
          refine HAL_.out.mono ?_
          rintro e w12 ⟨rfl, g12, s12⟩
          dsimp only
          have m12 := s12.itm G11_.out.qs M11_.out
          have my12 := s12.itm G11_.out.qs MY11_.out
          have e1 := (s12.mine G11_.out.qs Q11_.out).2.trans r11'
          have e2 := (s12.mine G11_.out.qs Z11_.out).2.trans r11
          have hsame := same_g zeroI c3 0 m12.itm.rows my12.itm.rows (Q := fun w' => Below w.heap.size w w') (fun d => (g12.below (gr_below w12 d)).bel)
          clear s12 r11 r11' m12 my12 HAL_ G11_ M11_ MY11_ Q11_ Z11_ g12
          have HSAME_ := hid hsame
          clear hsame
          go_wp2_with fail
          refine HSAME_.out.mono ?_
          rintro e w13 ⟨rfl, g13⟩
          dsimp only
          clear HSAME_
          have G13_ := hid g13
          clear g13
          go_wp2
          go_ret
          exact ⟨rfl, G13_.out⟩
        | cons y ys =>
          have hlk := look_g g7 0
          rw [show lookI 0 (y :: ys) = y by unfold lookI; rw [if_pos ⟨by omega, by simp⟩]; rfl, show decide ((0 : Int) ≤ 0 ∧ (0 : Int) < ((y :: ys).length : Int)) = true from decide_eq_true ⟨by omega, by simp⟩] at hlk
          have HLK_ := hid hlk
          clear hlk
          clear g7
          go_wp2_with fail
          refine HLK_.out.mono ?_
          rintro e w8 ⟨a3, c3, us8, rfl, g8, _, m8⟩
          dsimp only
          clear HLK_
          have G8_ := hid g8
          clear g8
          have M8_ := hid m8
          clear m8
          go_upto_region 15 with (fail)
          obtain ⟨w9, hE, r9, o9, b9, _⟩ := newb w8 (ic 0 none 0 0) (ic y.k a3 y.bs.length c3) 32 (by simp)
          rw [hE]
          clear hE
          have s9 := Stp.below (ch := ch) (vs := us8) b9
          have m9 := s9.itm G8_.out.qs M8_.out
          have g9 := G8_.out.below b9
          have q9 := G8_.out.fresh o9
          clear b9 s9 G8_ M8_
          generalize w8.heap.size = n3 at *
          have htk := take_g g9
          have HTK_ := hid htk
          clear htk
          have G9_ := hid g9
          clear g9
          have M9_ := hid m9
          clear m9
          have Q9_ := hid q9
          clear q9
          go_wp2_with fail
          refine HTK_.out.mono ?_
          rintro e w10 ⟨a4, c4, us10, rfl, g10, s10, my10⟩
          dsimp only
          have m10 := s10.itm G9_.out.qs M9_.out
          obtain ⟨q10, r10⟩ := s10.mine G9_.out.qs Q9_.out
          rw [r9] at r10
          clear s10 r9 HTK_ G9_ M9_ Q9_
          have G10_ := hid g10
          clear g10
          have M10_ := hid m10
          clear m10
          have Q10_ := hid q10
          clear q10
          have MY10_ := hid my10
          clear my10
          go_upto_region 16 with (fail)
          obtain ⟨w11, hE, r11, o11, b11, _⟩ := newb w10 (ic 0 none 0 0) (ic y.k a4 y.bs.length c4) 32 (by simp)
          rw [hE]
          clear hE
          have s11 := Stp.below (ch := ch) (vs := us10) b11
          have m11 := s11.itm G10_.out.qs M10_.out
          have my11 := s11.itm G10_.out.qs MY10_.out
          obtain ⟨q11, r11'⟩ := s11.mine G10_.out.qs Q10_.out
          rw [r10] at r11'
          have g11 := G10_.out.below b11
          have z11 := G10_.out.fresh o11
          clear b11 s11 r10 G10_ M10_ Q10_ MY10_
          generalize w10.heap.size = n4 at *
          have hal := alive_g g11
          have HAL_ := hid hal
          clear hal
          have G11_ := hid g11
          clear g11
          have M11_ := hid m11
          clear m11
          have MY11_ := hid my11
          clear my11
          have Q11_ := hid q11
          clear q11
          have Z11_ := hid z11
          clear z11
          go_wp2_with fail
          refine HAL_.out.mono ?_
          rintro e w12 ⟨rfl, g12, s12⟩
          dsimp only
          have m12 := s12.itm G11_.out.qs M11_.out
          have my12 := s12.itm G11_.out.qs MY11_.out
          have e1 := (s12.mine G11_.out.qs Q11_.out).2.trans r11'
          have e2 := (s12.mine G11_.out.qs Z11_.out).2.trans r11
          have hsame := same_g y c3 c4 m12.itm.rows my12.itm.rows (Q := fun w' => Below w.heap.size w w') (fun d => (g12.below (gr_below w12 d)).bel)
          clear s12 r11 r11' m12 my12 HAL_ G11_ M11_ MY11_ Q11_ Z11_ g12
          have HSAME_ := hid hsame
          clear hsame
          go_wp2_with fail
          refine HSAME_.out.mono ?_
          rintro e w13 ⟨rfl, g13⟩
          dsimp only
          clear HSAME_
          have G13_ := hid g13
          clear g13
          go_wp2
          go_ret
          exact ⟨rfl, G13_.out⟩
end Go.Proofs.Ytbdpnmocbpplbaa
