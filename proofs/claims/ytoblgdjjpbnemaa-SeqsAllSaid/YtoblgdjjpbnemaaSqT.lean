/-
  The walk of the reference's Take. No condition.
-/
import Derived.Test.YtoblgdjjpbnemaaSqS
import Derived.Test.YtoblgdjjpbnemaaRegZ
namespace Go.Proofs.Ytoblgdjjpbnemaa
open Go.RowKit

theorem results_cell3 {P : Program} {fn : Func} {t t2 ty ty2 b b2 u : Nat} {tmps : Array Value} {w : World} {v v2 : Value} (h : fn.results = #[.cell t ty, .cell t2 ty2, .tmp u]) (ht : tmps.getD t undef = .pointer (some ⟨b, 0, none⟩)) (ht2 : tmps.getD t2 undef = .pointer (some ⟨b2, 0, none⟩)) (hv : (ldAt ty (.pointer (some ⟨b, 0, none⟩))).run P w = .ok v w) (hv2 : (ldAt ty2 (.pointer (some ⟨b2, 0, none⟩))).run P w = .ok v2 w) : (results fn tmps).run P w = .ok (.tuple #[v, v2, tmps.getD u undef]) w := by
  have hv' : (loadVar ty ⟨b, 0, none⟩).run P w = .ok v w := by
    unfold ldAt Instr.loadAt at hv
    simpa [Instr.sureAddr] using hv
  have hv2' : (loadVar ty2 ⟨b2, 0, none⟩).run P w = .ok v2 w := by
    unfold ldAt Instr.loadAt at hv2
    simpa [Instr.sureAddr] using hv2
  have ht' : tmps[t]?.getD undef = .pointer (some ⟨b, 0, none⟩) := by simpa using ht
  have ht2' : tmps[t2]?.getD undef = .pointer (some ⟨b2, 0, none⟩) := by simpa using ht2
  simp [results, h, ht', ht2', asAddr, hv', hv2']
def hitH (p : Prt) (q : Int) (x : HaR) : Bool := decide (x.p = p) && decide (x.q = q)
def takeR (r : RB) (p : Prt) (q : Int) : RB × X3 × Bool :=
  match r.hs.find? (hitH p q) with
  | some x => (⟨r.sent, r.sn, r.ls, withL r.hs p⟩, x.x, true)
  | none => (r, zeroX, false)
theorem find_at {l : List HaR} {c : HaR → Bool} {j : Nat} (hj : j < l.length) (h1 : ∀ a, a < j → c (l.getD a zeroHa) = false) (h2 : c (l.getD j zeroHa) = true) : l.find? c = some (l.getD j zeroHa) := by
  rw [List.find?_eq_some_iff_getElem]
  refine ⟨h2, j, hj, ?_, fun a ha => ?_⟩
  · rw [List.getD_eq_getElem?_getD, List.getElem?_eq_getElem hj]; rfl
  · have := h1 a ha
    rw [List.getD_eq_getElem?_getD, List.getElem?_eq_getElem (by omega)] at this
    simpa using this
theorem find_none {l : List HaR} {c : HaR → Bool} (h1 : ∀ a, a < l.length → c (l.getD a zeroHa) = false) : l.find? c = none := by
  rw [List.find?_eq_none]
  intro x hx
  obtain ⟨a, ha, rfl⟩ := List.getElem_of_mem hx
  have := h1 a ha
  rw [List.getD_eq_getElem?_getD, List.getElem?_eq_getElem ha] at this
  simpa using this
/-- The worlds in which what Take reads stays. -/
def KT (n0 n1 g : Nat) (A B C : Array Value) (w : World) : Prop := row? w n0 = A ∧ row? w n1 = B ∧ row? w g = C
set_option maxRecDepth 100000 in
set_option maxHeartbeats 8000000 in
theorem rtake_c (r : RB) (s1 s2 s3 : Sl) (p : Prt) (q : Int) (hl : r.hs.length ≤ 900) (w : World) (h : RL w r s1 s2 s3) :
    Calls Try.prog 22 #[.agg (rc r s1 s2 s3), .agg (pa p), .int .i64 q] w fun e w' => Back w (takeR r p q).1 (fun v => .tuple #[v, .agg (xc (takeR r p q).2.1), .bool (takeR r p q).2.2]) e w' := by
  have H_ := hid h
  clear h
  go_enter Try.func22, Try.ntmps22
  go_upto_region 1 with (fail)
  obtain ⟨W1, hW1⟩ : ∃ W1, (((w.alloc (.cells (rc r s1 s2 s3) 31)).alloc (.cells (pa p) 35)).alloc (.cells (rc zeroRB nilS nilS nilS) 31)).alloc (.cells (xc zeroX) 36) = W1 := ⟨_, rfl⟩
  have b1 : Below w.heap.size w W1 := by rw [← hW1]; exact ((((Below.refl _ _).alloc (Nat.le_refl _) _).alloc (by simp) _).alloc (by simp; omega) _).alloc (by simp; omega) _
  have m2 : ¬ w.heap.size = w.heap.size + 1 + 1 := by omega
  have m3 : ¬ w.heap.size = w.heap.size + 1 + 1 + 1 := by omega
  have r0 : row? W1 w.heap.size = rc r s1 s2 s3 := by rw [← hW1]; simp [row_alloc, rowOf, m2, m3]
  have r1 : row? W1 (w.heap.size + 1) = pa p := by rw [← hW1]; simp [row_alloc, rowOf]
  have r2 : row? W1 (w.heap.size + 1 + 1) = rc zeroRB nilS nilS nilS := by rw [← hW1]; simp [row_alloc, rowOf]
  have o2 : own? W1 (w.heap.size + 1 + 1) = true := by rw [← hW1]; simp [own_alloc, ownOf]
  have r3 : row? W1 (w.heap.size + 1 + 1 + 1) = xc zeroX := by rw [← hW1]; simp [row_alloc, rowOf]
  have o3 : own? W1 (w.heap.size + 1 + 1 + 1) = true := by rw [← hW1]; simp [own_alloc, ownOf]
  rw [rc_lit]
  try rw [zeroX_cells]
  rw [hW1]
  clear hW1 m2 m3
  have l3 := own_lt o3
  have k0 := gr_row r0 (by omega)
  have k1 := gr_row r1 (by omega)
  have k2 := gr_row r2 (by omega)
  have k3 := gr_row r3 (by omega)
  have ko2 := gr_own o2
  have ko3 := gr_own o3
  have hX := fun d => ((H_.out.below b1).hs).gr (by decide) d
  obtain ⟨d8, hd8⟩ : ∃ d, W1 = gr W1 d := ⟨W1, gr_self W1⟩
  rw [hd8]
  clear hd8 r0 r1 r2 r3 o2 o3
  have HX_ := hid hX
  clear hX
  have B1_ := hid b1
  clear b1
  have K2_ := hid k2
  clear k2
  have K3_ := hid k3
  clear k3
  have KO2_ := hid ko2
  clear ko2
  have KO3_ := hid ko3
  clear ko3
  go_wp2
  go_loopw [9] (fun i wr => ∃ (j : Nat) (d : World), j ≤ r.hs.length ∧ i = .int .i64 j ∧ (∀ a, a < j → hitH p q (r.hs.getD a zeroHa) = false) ∧ wr = gr W1 d) (fun i _ => r.hs.length - (intOf i).toNat)
  case atStart => exact ⟨0, d8, by omega, rfl, fun a ha => absurd ha (by omega), rfl⟩
  case round =>
    obtain ⟨j, d, hj, rfl, hn, rfl⟩ := hrel
    by_cases hjt : j < r.hs.length
    · have hjt' : (j : Int) < (r.hs.length : Int) := by omega
      have hne : r.hs ≠ [] := by intro e; rw [e] at hjt; simp at hjt
      obtain ⟨g, off, hs3, hr0⟩ := H_.out.hs.at hne
      have hgw : g < w.heap.size := hr0.lt (by decide) hne
      have hrow : ∀ d, RowsAt ha zeroHa 13 (gr W1 d) g off r.hs := fun d => by
        obtain ⟨g', off', e, hr⟩ := (HX_.out d).at hne
        rw [hs3] at e
        cases e
        exact hr
      have s1' := fun d => (hrow d j hjt).1
      have s2' := fun d => (hrow d j hjt).2
      have hfi := fun h => find_at (c := hitH p q) hjt hn h
      generalize hx : r.hs.getD j zeroHa = x at *
      clear hrow hne hr0
      have k9 : ∀ d, off + j * 13 + 9 ≤ (row? (gr W1 d) g).size := fun d => by have := s1' d; omega
      have k9s : ∀ d, sub (row? (gr W1 d) g) (off + j * 13) 9 = pa x.p := fun d => by
        have := sub_sub (row? (gr W1 d) g) (off + j * 13) 13 0 9 (by omega) (s1' d)
        rw [s2' d, ha_p] at this
        exact this
      have k9c : ∀ d, (row? (gr W1 d) g)[off + j * 13 + 9]? = some (.int .i64 x.q) := fun d => by
        have h9 := ha_get x 9 (by omega)
        rw [← s2' d] at h9
        unfold sub at h9
        rw [Array.getElem?_extract, if_pos (by have := s1' d; omega)] at h9
        exact h9
      have k9v : ∀ d h, (row? (gr W1 d) g)[off + j * 13 + 9]'h = .int .i64 x.q := fun d h => by
        have h1 := k9c d
        rw [Array.getElem?_eq_getElem h] at h1
        exact Option.some.inj h1
      have k9z : ∀ d, off + j * 13 + 9 < (row? (gr W1 d) g).size := fun d => by have := s1' d; omega
      have k10s : ∀ d, sub (row? (gr W1 d) g) (off + j * 13 + 10) 3 = xc x.x := fun d => by
        have := sub_sub (row? (gr W1 d) g) (off + j * 13) 13 10 3 (by omega) (s1' d)
        rw [s2' d, ha_x] at this
        exact this
      have k13 : ∀ d, off + j * 13 + 10 + 3 ≤ (row? (gr W1 d) g).size := fun d => by have := s1' d; omega
      clear s1' s2'
      have HN_ := hid hn
      clear hn
      have HFI_ := hid hfi
      clear hfi
      have HX_ := hid hx
      clear hx
      have HGW_ := hid hgw
      clear hgw
      have K10S_ := hid k10s
      clear k10s
      have K13_ := hid k13
      clear k13
      go_wp2
      by_cases hp : x.p = p
      · have hd : decide (x.p = p) = true := decide_eq_true hp
        by_cases hqq : x.q = q
        · have hkb : (x.q == q) = true := by simpa using hqq
          refine wp_region_gr W1 (by kernel_rfl) (by kernel_rfl) ⟨_, rfl⟩ ?_
          repeat (go_big_quiet_step (fail))
          refine wpQuiet_nil ?_
          rintro _ ⟨y, rfl⟩
          have hit : hitH p q x = true := by unfold hitH; rw [decide_eq_true hp, decide_eq_true hqq]; rfl
          have hfr : takeR r p q = (⟨r.sent, r.sn, r.ls, withL r.hs p⟩, x.x, true) := by
            unfold takeR
            rw [HFI_.out hit]
          have v0 := k0 y
          have v1 := k1 y
          have v2 := K2_.out y
          have v3 := K3_.out y
          have vo2 := KO2_.out y
          have vo3 := KO3_.out y
          have c10 := K10S_.out y
          have c13 := K13_.out y
          have hb2 := B1_.out.trans ((gr_below W1 y).mono B1_.out.size)
          clear k0 k1 k9 k9s k9c k9v k9z K10S_ K13_ K2_ K3_ KO2_ KO3_ HFI_ HN_ HX_ hit hd hkb hp hqq
          have HFR_ := hid hfr
          clear hfr
          have HB2_ := hid hb2
          clear hb2
          have V2_ := hid v2
          clear v2
          have V3_ := hid v3
          clear v3
          have VO2_ := hid vo2
          clear vo2
          have VO3_ := hid vo3
          clear vo3
          have V0_ := hid v0
          clear v0
          have V1_ := hid v1
          clear v1
          have C10_ := hid c10
          clear c10
          have C13_ := hid c13
          clear c13
          go_upto_region 5 with (fail)
          have c10 := C10_.out
          have c13 := C13_.out
          obtain ⟨C, hC⟩ : ∃ C, row? (gr W1 y) g = C := ⟨_, rfl⟩
          rw [hC] at c10 c13
          have hgb : g < (gr W1 y).heap.size := by have := HB2_.out.size; have := HGW_.out; omega
          generalize gr W1 y = wv at *
          have hK : KT w.heap.size (w.heap.size + 1) g (rc r s1 s2 s3) (pa p) C wv := ⟨V0_.out, V1_.out, hC⟩
          have hd : ∀ w', KT w.heap.size (w.heap.size + 1) g (rc r s1 s2 s3) (pa p) C w' → ∃ d, w' = grK (KT w.heap.size (w.heap.size + 1) g (rc r s1 s2 s3) (pa p) C) wv d := fun w' h => ⟨w', grK_of h⟩
          have kr0 := fun d => (grK_is hK d).1
          have kr1 := fun d => (grK_is hK d).2.1
          have kr2 := fun d => (grK_is hK d).2.2
          have bd : Below wv.heap.size wv wv.drew := (Below.refl _ _).drew
          clear C10_ C13_ hC V0_ V1_
          have HD_ := hid hd
          clear hd
          refine wp_region_seg (grK (KT w.heap.size (w.heap.size + 1) g (rc r s1 s2 s3) (pa p) C) wv) [([0, 1, 3, 4, 5, 6, 7, 8], 2), ([], 9), ([], 10), ([], 11)] (by kernel_rfl) (by kernel_rfl) (fun c a b w hd h => And.intro (hd.symm.trans (And.left h)) (And.right h)) (HD_.out _ hK) ?_
          simp only [wpSeg, selL, List.filterMap_cons, List.filterMap_nil, List.getElem?_cons_zero, List.getElem?_cons_succ]
          refine (show wpQuiet _ _ _ _ [_, _, _, _, _, _, _, _] _ from ?_)
          repeat (go_big_quiet_step (fail))
          refine wpQuiet_nil ?_
          have hb3 := HB2_.out.trans (bd.mono HB2_.out.size)
          have hz : wv.drew.heap.size = wv.heap.size := rfl
          have x2 : row? wv.drew (w.heap.size + 1 + 1) = rc zeroRB nilS nilS nilS := V2_.out
          have x3 : row? wv.drew (w.heap.size + 1 + 1 + 1) = xc zeroX := V3_.out
          have xo2 : own? wv.drew (w.heap.size + 1 + 1) = true := VO2_.out
          have xo3 : own? wv.drew (w.heap.size + 1 + 1 + 1) = true := VO3_.out
          have hK3 : KT w.heap.size (w.heap.size + 1) g (rc r s1 s2 s3) (pa p) C wv.drew := hK
          have hgb : g < wv.drew.heap.size := hgb
          clear bd hK kr0 kr1 kr2 HB2_ hz
          generalize wv.drew = w3 at *
          have hc := without_c r s1 s2 s3 p hl w3 (H_.out.below hb3)
          have HC_ := hid hc
          clear hc
          have HB3_ := hid hb3
          clear hb3
          have X2_ := hid x2
          clear x2
          have X3_ := hid x3
          clear x3
          have XO2_ := hid xo2
          clear xo2
          have XO3_ := hid xo3
          clear xo3
          have HK3_ := hid hK3
          clear hK3
          go_wp2_with fail
          refine HC_.out.mono ?_
          rintro e' w4 ⟨s', rfl, ho4, b4⟩
          dsimp only
          have hb4 := HB3_.out.trans (b4.mono HB3_.out.size)
          have hl3 := own_lt XO3_.out
          have hrow : ∀ i, i < w3.heap.size → row? w4 i = row? w3 i := fun i hi => row_of_block (b4.block i hi)
          have hown : ∀ i, i < w3.heap.size → own? w4 i = own? w3 i := fun i hi => own_of_block (b4.block i hi)
          have y2 := (hrow _ (by omega)).trans X2_.out
          have y3 := (hrow _ hl3).trans X3_.out
          have yo2 := (hown _ (by omega)).trans XO2_.out
          have yo3 := (hown _ hl3).trans XO3_.out
          have hK4 : KT w.heap.size (w.heap.size + 1) g (rc r s1 s2 s3) (pa p) C w4 := ⟨(hrow _ (by omega)).trans HK3_.out.1, (hrow _ (by omega)).trans HK3_.out.2.1, (hrow _ hgb).trans HK3_.out.2.2⟩
          have hdd := HD_.out _ hK4
          have hz4 := b4.size
          clear HC_ HB3_ b4 hrow hown X2_ X3_ XO2_ XO3_ HK3_
          have HDD_ := hid hdd
          clear hdd
          have HB4_ := hid hb4
          clear hb4
          have Y3_ := hid y3
          clear y3
          have YO3_ := hid yo3
          clear yo3
          have HK4_ := hid hK4
          clear hK4
          have HO4_ := hid ho4
          clear ho4
          go_wp2
          refine (show _ ∧ _ from ⟨HDD_.out, ?_⟩)
          refine wpQuiet_nil ?_
          obtain ⟨w5, hE, f2, fo2, hb5, c5⟩ := set_own (w0 := w) (w := w4) (b := w.heap.size + 1 + 1) (B := rc ⟨r.sent, r.sn, r.ls, withL r.hs p⟩ s1 s2 s') (by omega) y2 yo2 (by simp) HB4_.out
          have f3 := (c5.row (b := w.heap.size + 1 + 1 + 1) (own_lt YO3_.out) (by show ¬ _ = _; omega)).trans Y3_.out
          have fo3 := (c5.own (b := w.heap.size + 1 + 1 + 1) (own_lt YO3_.out) (by show ¬ _ = _; omega)).trans YO3_.out
          have hgw := HGW_.out
          have hK5 : KT w.heap.size (w.heap.size + 1) g (rc r s1 s2 s3) (pa p) C w5 := ⟨(c5.row (by omega) (by show ¬ _ = _; omega)).trans HK4_.out.1, (c5.row (by omega) (by show ¬ _ = _; omega)).trans HK4_.out.2.1, (c5.row (by omega) (by show ¬ _ = _; omega)).trans HK4_.out.2.2⟩
          have ho5 := owns_chg HO4_.out c5 (fun b hb e => by omega)
          have hdd := HD_.out _ hK5
          clear HDD_ Y3_ YO3_ HK4_ HO4_ HB4_ hgw
          have F2_ := hid f2
          clear f2
          have FO2_ := hid fo2
          clear fo2
          have HB5_ := hid hb5
          clear hb5
          have C5_ := hid c5
          clear c5
          have HK5_ := hid hK5
          clear hK5
          have HO5_ := hid ho5
          clear ho5
          have HDD_ := hid hdd
          clear hdd
          go_wp2
          refine (show _ ∧ _ from ⟨HDD_.out, ?_⟩)
          refine wpQuiet_nil ?_
          obtain ⟨w6, hE6, f3, fo3, hb6, c6⟩ := set_own (w0 := w) (w := w5) (b := w.heap.size + 1 + 1 + 1) (B := xc x.x) (by omega) f3 fo3 (by simp) HB5_.out
          have f26 := (c6.row (own_lt FO2_.out) (by show ¬ _ = _; omega)).trans F2_.out
          have hgw := HGW_.out
          have hz5 := C5_.out.size
          have hK6 : KT w.heap.size (w.heap.size + 1) g (rc r s1 s2 s3) (pa p) C w6 := ⟨(c6.row (by omega) (by show ¬ _ = _; omega)).trans HK5_.out.1, (c6.row (by omega) (by show ¬ _ = _; omega)).trans HK5_.out.2.1, (c6.row (by omega) (by show ¬ _ = _; omega)).trans HK5_.out.2.2⟩
          have ho6 := owns_chg HO5_.out c6 (fun b hb e => by omega)
          have hdd := HD_.out _ hK6
          have hr6 : RowsIn ha zeroHa 13 w6 s'.a (withL r.hs p) := by
            obtain ⟨a', c', ev, hr6, _⟩ := elH.rows2 ho6
            injection ev with ev1
            rw [ev1]
            exact hr6
          clear HDD_ HK5_ HO5_ HB5_ hgw F2_ FO2_ C5_ hK6 ho6
          have F3_ := hid f3
          clear f3
          have HB6_ := hid hb6
          clear hb6
          have F26_ := hid f26
          clear f26
          have HDD_ := hid hdd
          clear hdd
          have HR6_ := hid hr6
          clear hr6
          go_wp2
          refine (show _ ∧ _ from ⟨HDD_.out, ?_⟩)
          refine wpQuiet_nil ?_
          go_wp2
          refine (show _ ∧ _ from ⟨HDD_.out, ?_⟩)
          go_wp2
          refine bodyPost_ret (results_cell3 rfl rfl rfl (v := .agg (rc ⟨r.sent, r.sn, r.ls, withL r.hs p⟩ s1 s2 s')) (v2 := .agg (xc x.x)) (by rw [ldRB _ _ _ (by rw [F26_.out]; simp), F26_.out, rc_all]) (by rw [ldX _ _ _ (by rw [F3_.out]; simp), F3_.out, xc_all])) rfl ⟨s1, s2, s', by rw [HFR_.out]; rfl, ?_, HB6_.out⟩
          rw [HFR_.out]
          exact ⟨(H_.out.below HB6_.out).sn, (H_.out.below HB6_.out).ls, HR6_.out⟩
        · have hkb : (x.q == q) = false := by simpa using hqq
          refine wp_region_gr W1 (by kernel_rfl) (by kernel_rfl) ⟨_, rfl⟩ ?_
          repeat (go_big_quiet_step (fail))
          refine wpQuiet_nil ?_
          rintro _ ⟨y, rfl⟩
          have hit : hitH p q x = false := by unfold hitH; rw [decide_eq_false hqq, Bool.and_false]
          have HIT_ := hid hit
          clear hit
          go_wp2
          go_roundw
          case rel =>
            refine ⟨j + 1, _, by omega, by go_num, fun a ha => ?_, rfl⟩
            by_cases e : a = j
            · rw [e, HX_.out]; exact HIT_.out
            · exact HN_.out a (by omega)
          case measure => simp [intOf]; omega
      · have hd : decide (x.p = p) = false := decide_eq_false hp
        refine wp_region_gr W1 (by kernel_rfl) (by kernel_rfl) ⟨_, rfl⟩ ?_
        repeat (go_big_quiet_step (fail))
        refine wpQuiet_nil ?_
        rintro _ ⟨y, rfl⟩
        have hit : hitH p q x = false := by unfold hitH; rw [decide_eq_false hp]; rfl
        have HIT_ := hid hit
        clear hit
        go_wp2
        go_roundw
        case rel =>
          refine ⟨j + 1, _, by omega, by go_num, fun a ha => ?_, rfl⟩
          by_cases e : a = j
          · rw [e, HX_.out]; exact HIT_.out
          · exact HN_.out a (by omega)
        case measure => simp [intOf]; omega
    · obtain rfl : j = r.hs.length := by omega
      have hfr : takeR r p q = (r, zeroX, false) := by unfold takeR; rw [find_none hn]
      have q2 := K2_.out d
      have q3 := K3_.out d
      have p2 := KO2_.out d
      have p3 := KO3_.out d
      have hb2 := B1_.out.trans ((gr_below W1 d).mono B1_.out.size)
      clear hn hjt K2_ K3_ KO2_ KO3_
      have HFR_ := hid hfr
      clear hfr
      have HB2_ := hid hb2
      clear hb2
      go_wp2
      obtain ⟨W2, hE, e1, e1o, b3, c3⟩ := set_own (B := rc r s1 s2 s3) (by omega) q2 p2 (by simp) HB2_.out
      rw [hE]
      have q3' := (c3.row (b := w.heap.size + 1 + 1 + 1) (own_lt p3) (by show ¬ _ = _; omega)).trans q3
      have p3' := (c3.own (b := w.heap.size + 1 + 1 + 1) (own_lt p3) (by show ¬ _ = _; omega)).trans p3
      obtain ⟨W3, hE3, e3, _, b4, c4⟩ := set_own (B := xc zeroX) (by omega) q3' p3' (by simp) b3
      rw [hE3]
      have e14 := (c4.row (b := w.heap.size + 1 + 1) (own_lt e1o) (by show ¬ _ = _; omega)).trans e1
      exact bodyPost_ret (results_cell3 rfl rfl rfl (v := .agg (rc r s1 s2 s3)) (v2 := .agg (xc zeroX)) (by rw [ldRB _ _ _ (by rw [e14]; simp), e14, rc_all]) (by rw [ldX _ _ _ (by rw [e3]; simp), e3, xc_all])) rfl ⟨s1, s2, s3, by rw [HFR_.out]; rfl, by rw [HFR_.out]; exact H_.out.below b4, b4⟩
end Go.Proofs.Ytoblgdjjpbnemaa
