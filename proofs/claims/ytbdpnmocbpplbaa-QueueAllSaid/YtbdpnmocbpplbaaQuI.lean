/-
  The walk of Same; the law QueueOrder: it answers true. No condition.
-/
import Derived.Test.YtbdpnmocbpplbaaQuH
import Derived.Test.YtbdpnmocbpplbaaRdH
namespace Go.Proofs.Ytbdpnmocbpplbaa
open Go.RowKit Go.Conc

theorem agg30 (w : World) : (isAgg 30).run Try.prog w = .ok true w := by kernel_rfl
theorem siz30 (w : World) : (sizeOf 30).run Try.prog w = .ok 2 w := by kernel_rfl
@[go_sem] theorem ldRItm (w : World) (b off : Nat) (h : off + 2 ≤ (row? w b).size) : (ldAt 30 (.pointer (some ⟨b, off, none⟩))).run Try.prog w = .ok (.agg (sub (row? w b) off 2)) w := run_ldAt_agg agg30 siz30 w b off h
@[go_sem] theorem stRItm (w : World) (b : Nat) (k : Int) (a : Option Addr) (n c : Nat) (h : (row? w b).size = 2) (ho : own? w b = true) : (stAt 30 (.pointer (some ⟨b, 0, none⟩)) (.agg (ic k a n c))).run Try.prog w = .ok () (w.setRow b (ic k a n c)) :=
  run_stAt_row siz30 w b _ (Array.all_eq_true_iff_forall_mem.2 (ic_one k a n c)) (by simp) h ho
set_option maxRecDepth 100000 in
set_option maxHeartbeats 1000000 in
theorem same_fn (x : Itm) {W d : World} {a1 a2 : Option Addr} {c1 c2 : Nat} (h1 : ∀ d, RowsIn b1 0 1 (gr W d) a1 x.bs) (h2 : ∀ d, RowsIn b1 0 1 (gr W d) a2 x.bs) :
    Calls Try.prog 13 #[.agg (ic x.k a1 x.bs.length c1), .agg (ic x.k a2 x.bs.length c2)] (gr W d) fun e w' => e = .returned (.bool true) ∧ ∃ m, w' = gr W m := by
  have H1_ := hid h1
  clear h1
  have H2_ := hid h2
  clear h2
  go_enter Try.func13, Try.ntmps13
  go_upto_region 1 with (fail)
  refine cut_box2 fun V g1 _ g2 _ hz hB => ?_
  have hV : ∀ d', ∃ m, gr V d' = gr W m := fun d' => gr_ex ((gr_below W d).trans ((hB d').mono (gr_below W d).size))
  obtain ⟨m, hm⟩ := hV V
  have k1 := conv_rows (H1_.out m) c1
  have k2 := conv_rows (H2_.out m) c2
  rw [← hm] at k1 k2
  generalize strOfNums x.bs = st at *
  clear hB hz H1_ H2_ hm
  have HV_ := hid hV
  clear hV
  go_wp2
  go_ret
  exact ⟨rfl, HV_.out _⟩
/-- The items of a slice, as they lie. -/
def itms (xs : List ItR) : List Itm := xs.map (·.x)
theorem itms_getD (xs : List ItR) (k : Nat) (h : k < xs.length) : (itms xs).getD k zeroI = (xs.getD k zeroR).x := by simp [itms, h]
theorem itms_take (xs : List ItR) (k : Nat) (h : k < xs.length) : (itms xs).take (k + 1) = (itms xs).take k ++ [(xs.getD k zeroR).x] := by
  rw [List.take_add_one]
  congr 1
  simp [itms, h]
theorem itms_drop (xs : List Itm) (k : Nat) (h : k < xs.length) : xs.drop k = xs.getD k zeroI :: xs.drop (k + 1) := by
  rw [List.drop_eq_getElem_cons h]
  simp [h]
theorem alive18_g (W d : World) : Calls Try.prog 10 #[] (gr W d) fun e w' => e = .returned (.bool true) ∧ ∃ m, w' = gr W m :=
  (alive18_c (gr W d)).mono fun e w' ⟨h1, h2⟩ => ⟨h1, gr_ex ((gr_below W d).trans (h2.mono (gr_below W d).size))⟩
set_option maxRecDepth 100000 in
set_option maxHeartbeats 4000000 in
theorem qorder_fn (most : Int) (xs : List ItR) (hm : xs.length ≤ 9223372036854775807) (a : Option Addr) (cap : Nat) (w : World) (hX : RowsIn fR zeroR 2 w a xs) (hP : ∀ k, k < xs.length → PdR w (xs.getD k zeroR)) :
    Calls Try.prog 3 #[.int .i64 most, .slice a xs.length cap] w fun e w' => e = .returned (.bool true) ∧ Below w.heap.size w w' := by
  by_cases hbad : most < 1 ∨ 64 < most
  · clear hX hP
    have hn := new_bad most hbad
    have HN_ := hid hn
    clear hn
    clear hbad
    go_enter Try.func3, Try.ntmps3
    go_wp2_with fail
    refine (HN_.out w).mono ?_
    rintro e w1 ⟨rfl, hb⟩
    dsimp only
    go_wp2_with fail
    refine (alive18_c w1).mono ?_
    rintro e w2 ⟨rfl, hb2⟩
    dsimp only
    go_wp2
    go_ret
    exact ⟨rfl, hb.trans (hb2.mono hb.size)⟩
  obtain ⟨n, rfl⟩ : ∃ n : Nat, most = n := ⟨most.toNat, by omega⟩
  have hn1 : 1 ≤ n := by omega
  have hn2 : n ≤ 64 := by omega
  clear hbad
  by_cases hl : 200 < xs.length
  · clear hX hP
    have h2 : (200 : Int) < (xs.length : Int) := by omega
    have hn := new_ok n hn1 hn2 w
    have HN_ := hid hn
    clear hn
    clear hn1 hn2 hl hm
    go_enter Try.func3, Try.ntmps3
    go_wp2_with fail
    refine HN_.out.mono ?_
    rintro e w1 ⟨b, ch, rfl, hb, _, _, _⟩
    dsimp only
    go_wp2_with fail
    refine (alive18_c w1).mono ?_
    rintro e w2 ⟨rfl, hb2⟩
    dsimp only
    go_wp2
    go_ret
    exact ⟨rfl, hb.trans (hb2.mono hb.size)⟩
  have h2 : ¬ (200 : Int) < (xs.length : Int) := by omega
  have hlen : xs.length ≤ 200 := by omega
  clear hl hm
  have hA : ∀ V, Below w.heap.size w V → RowsIn fR zeroR 2 V a xs ∧ ∀ k, k < xs.length → PdR V (xs.getD k zeroR) := fun V hb => ⟨hX.below (by decide) hb, fun k hk => ⟨(hP k hk).1.below (by decide) hb, (hP k hk).2⟩⟩
  have hnew := new_ok n hn1 hn2 w
  have HX_ := hid hX
  clear hX
  have HP_ := hid hP
  clear hP
  have HA_ := hid hA
  clear hA
  have HNEW_ := hid hnew
  clear hnew
  go_enter Try.func3, Try.ntmps3
  go_wp2_with fail
  refine HNEW_.out.mono ?_
  rintro e w1 ⟨b, ch, rfl, hb1, hlb, hlc, hq⟩
  dsimp only
  clear HNEW_
  have HB1_ := hid hb1
  clear hb1
  have HQ_ := hid hq
  clear hq
  go_wp2
  go_loopw [31] (fun i wr => ∃ (j : Nat) (vs : List Value), j ≤ xs.length ∧ i = .int .i64 j ∧ Que wr b ch n vs ∧ Its wr vs ((itms xs).take (min j n)) ∧ Below w.heap.size w wr) (fun i _ => xs.length - (intOf i).toNat)
  case atStart => exact ⟨0, [], by omega, rfl, HQ_.out, by simpa using Its.nil _, HB1_.out⟩
  case round =>
    obtain ⟨j, vs, hj, rfl, q1, i1, bw⟩ := hrel
    by_cases hjt : j < xs.length
    · obtain ⟨hr, hpd⟩ := HA_.out wr bw
      obtain ⟨g, off, rfl, hrow⟩ := hr.at (by intro e; rw [e] at hjt; simp at hjt)
      obtain ⟨s1, s2⟩ := hrow j hjt
      obtain ⟨hb0, hlb0⟩ := hpd j hjt
      have hjt' : (j : Int) < (xs.length : Int) := by omega
      have htk := itms_take xs j hjt
      generalize xs.getD j zeroR = s at *
      obtain ⟨x, sa, sc⟩ := s
      simp only [fR] at s2
      clear hrow hr hpd
      have Q1_ := hid q1
      clear q1
      have I1_ := hid i1
      clear i1
      have BW_ := hid bw
      clear bw
      have HTK_ := hid htk
      clear htk
      have HB0_ := hid hb0
      clear hb0
      have HLB0_ := hid hlb0
      clear hlb0
      go_upto_region 7 with (fail)
      obtain ⟨w2, hE, r2, _, b2, _⟩ := newb wr (ic 0 none 0 0) (ic x.k sa x.bs.length sc) 30 (by simp)
      rw [hE]
      clear hE s1 s2
      have q2 := Q1_.out.below b2
      have i2 := I1_.out.kept (S := fun _ => False) (.of_below b2) (fun _ _ _ _ h => h.elim)
      have bw2 := BW_.out.trans (b2.mono BW_.out.size)
      have x2 : ItmIn w2 (.agg (ic x.k sa x.bs.length sc)) x := ⟨sa, sc, rfl, HB0_.out.below (by decide) b2⟩
      have hvl := i2.1
      have hil : (itms xs).length = xs.length := by simp [itms]
      rw [List.length_take, hil] at hvl
      clear b2 Q1_ I1_ BW_ HB0_
      generalize wr.heap.size = nb at *
      by_cases hjn : j < n
      · have hjn' : (j : Int) < (n : Int) := by omega
        have hroom : vs.length < n := by omega
        have htk : (itms xs).take (min (j + 1) n) = (itms xs).take (min j n) ++ [x] := by
          rw [show min (j + 1) n = j + 1 by omega, show min j n = j by omega]
          exact HTK_.out
        clear HTK_ hvl hil
        have Q2_ := hid q2
        clear q2
        have I2_ := hid i2
        clear i2
        have BW2_ := hid bw2
        clear bw2
        have X2_ := hid x2
        clear x2
        have HROOM_ := hid hroom
        clear hroom
        have HTK_ := hid htk
        clear htk
        go_wp2_with fail
        refine (put_ok _ x HLB0_.out w2 Q2_.out X2_.out HROOM_.out).mono ?_
        rintro e w3 ⟨rfl, v', q3, n3, c3⟩
        dsimp only
        have i3 : Its w3 (vs ++ [v']) ((itms xs).take (min (j + 1) n)) := by
          rw [HTK_.out]
          exact (I2_.out.kept c3 (fun _ _ g _ e => by rw [e]; exact Q2_.out.rowc)).snoc n3.itm
        have bw3 := BW2_.out.trans (c3.below BW2_.out.size (fun k hk e => by omega))
        clear n3 c3 Q2_ I2_ BW2_ X2_ HROOM_ HTK_ r2
        have Q3_ := hid q3
        clear q3
        have I3_ := hid i3
        clear i3
        have BW3_ := hid bw3
        clear bw3
        go_wp2
        exact ⟨⟨j + 1, _, by omega, by go_num, Q3_.out, I3_.out, BW3_.out⟩, by simp [intOf]; omega⟩
      · have hjn' : ¬ (j : Int) < (n : Int) := by omega
        have hroom : n ≤ vs.length := by omega
        have htk : (itms xs).take (min (j + 1) n) = (itms xs).take (min j n) := by
          rw [show min (j + 1) n = n by omega, show min j n = n by omega]
        clear HTK_ hvl hil
        have Q2_ := hid q2
        clear q2
        have I2_ := hid i2
        clear i2
        have BW2_ := hid bw2
        clear bw2
        have X2_ := hid x2
        clear x2
        have HROOM_ := hid hroom
        clear hroom
        have HTK_ := hid htk
        clear htk
        go_wp2_with fail
        refine (put_full _ x HLB0_.out w2 Q2_.out X2_.out HROOM_.out).mono ?_
        rintro e w3 ⟨rfl, b3⟩
        dsimp only
        have q3 := Q2_.out.below b3
        have i3 : Its w3 vs ((itms xs).take (min (j + 1) n)) := by
          rw [HTK_.out]
          exact I2_.out.kept (S := fun _ => False) (.of_below b3) (fun _ _ _ _ h => h.elim)
        have bw3 := BW2_.out.trans (b3.mono BW2_.out.size)
        clear b3 Q2_ I2_ BW2_ X2_ HROOM_ HTK_ r2
        have Q3_ := hid q3
        clear q3
        have I3_ := hid i3
        clear i3
        have BW3_ := hid bw3
        clear bw3
        go_wp2
        exact ⟨⟨j + 1, _, by omega, by go_num, Q3_.out, I3_.out, BW3_.out⟩, by simp [intOf]; omega⟩
    · obtain rfl : j = xs.length := by omega
      have Q1_ := hid q1
      clear q1
      have I1_ := hid i1
      clear i1
      have BW_ := hid bw
      clear bw
      go_upto_region 10 with (fail)
      go_cut [48, 49] (fun v48 v49 wr2 => v48 = .int .i64 ((min n xs.length : Nat) : Int) ∧ v49 = .int .i64 0 ∧ wr2 = wr)
      case first =>
        go_wp2
        all_goals go_meet
        all_goals (first | (refine ⟨congrArg _ ?_, rfl, rfl⟩; omega) | skip)
      case rest =>
        obtain ⟨rfl, rfl, rfl⟩ := hcut
        have i1 := I1_.out
        rw [show min xs.length n = min n xs.length from Nat.min_comm _ _] at i1
        have hrl : min n xs.length ≤ xs.length := Nat.min_le_right _ _
        have hil : (itms xs).length = xs.length := by simp [itms]
        clear I1_
        generalize min n xs.length = r at *
        have htl : ((itms xs).take r).length = r := by rw [List.length_take, hil]; omega
        have htg : ∀ i, i < r → ((itms xs).take r).getD i zeroI = (xs.getD i zeroR).x := fun i hi => by
          rw [← itms_getD xs i (by omega), List.getD_eq_getElem?_getD, List.getElem?_take, if_pos hi, ← List.getD_eq_getElem?_getD]
        generalize (itms xs).take r = ys at *
        have I1_ := hid i1
        clear i1
        have HTL_ := hid htl
        clear htl
        have HTG_ := hid htg
        clear htg
        have HIL_ := hid hil
        clear hil
        go_wp2
        go_loopw [49] (fun i wr => ∃ (j : Nat) (vs : List Value), j ≤ r ∧ i = .int .i64 j ∧ Que wr b ch n vs ∧ Its wr vs (ys.drop j) ∧ Below w.heap.size w wr) (fun i _ => r - (intOf i).toNat)
        case atStart => exact ⟨0, vs, by omega, rfl, Q1_.out, I1_.out, BW_.out⟩
        case round =>
          obtain ⟨j, vs, hj, rfl, q1, i1, bw⟩ := hrel
          by_cases hjt : j < r
          · obtain ⟨hr, hpd⟩ := HA_.out wr bw
            have hjx : j < xs.length := by omega
            have hxne : xs ≠ [] := by intro e; rw [e] at hjx; simp at hjx
            obtain ⟨g, off, rfl, _⟩ := hr.at hxne
            have hjr : (j : Int) < (r : Int) := by omega
            have hjx' : (j : Int) < (xs.length : Int) := by omega
            have hyx := HTG_.out j hjt
            have hdr := itms_drop ys j (by rw [HTL_.out]; exact hjt)
            rw [hyx] at hdr
            rw [hdr] at i1
            match vs, i1 with
            | [], i1 => exact absurd i1.1 (by simp)
            | v :: vs, i1 =>
              obtain ⟨hv, i5⟩ := Its.cons.1 i1
              clear i1
              have hvv := hv
              have hA2 : ∀ V, Below w.heap.size w V → off + j * 2 + 2 ≤ (row? V g).size ∧ sub (row? V g) (off + j * 2) 2 = fR (xs.getD j zeroR) ∧ RowsIn b1 0 1 V (xs.getD j zeroR).a (xs.getD j zeroR).x.bs := fun V hb => by
                obtain ⟨h1, h2⟩ := HA_.out V hb
                obtain ⟨g', off', e, h3⟩ := h1.at hxne
                cases e
                exact ⟨(h3 j hjx).1, (h3 j hjx).2, (h2 j hjx).1⟩
              clear hr hpd hdr hyx hxne
              generalize xs.getD j zeroR = s at *
              obtain ⟨x, sa, sc⟩ := s
              simp only [fR] at hA2 hv hvv
              have Q1_ := hid q1
              clear q1
              have I5_ := hid i5
              clear i5
              have BW_ := hid bw
              clear bw
              have HV_ := hid hv
              clear hv
              have HA2_ := hid hA2
              clear hA2
              obtain ⟨va, vc, rfl, _⟩ := hvv
              go_wp2_with fail
              refine (take_ok _ _ wr Q1_.out HV_.out).mono ?_
              rintro e w2 ⟨rfl, q2, c2⟩
              dsimp only
              go_upto_region 14 with (fail)
              obtain ⟨w3, hE, r3, _, b3, _⟩ := newb w2 (ic 0 none 0 0) (ic x.k va x.bs.length vc) 32 (by simp)
              rw [hE]
              clear hE
              have q3 := q2.below b3
              have c3 := c2.trans (.of_below b3)
              have i3 := I5_.out.kept c3 (fun _ _ g _ e => by rw [e]; exact Q1_.out.rowc)
              have bw3 := BW_.out.trans (c3.below BW_.out.size (fun k hk e => by omega))
              obtain ⟨va', vc', hve, hvr⟩ := HV_.out
              have hvr3 : RowsIn b1 0 1 w3 va x.bs := by
                have e : va = va' := by injection hve with h; simp [ic] at h; exact h.1
                rw [e]
                exact hvr.kept (by decide) c3 (fun g _ e => by rw [e]; exact Q1_.out.rowc)
              have z1 : ∀ d, off + j * 2 + 2 ≤ (row? (gr w3 d) g).size := fun d => (HA2_.out _ (bw3.trans ((gr_below w3 d).mono bw3.size))).1
              have z2 : ∀ d, sub (row? (gr w3 d) g) (off + j * 2) 2 = ic x.k sa x.bs.length sc := fun d => (HA2_.out _ (bw3.trans ((gr_below w3 d).mono bw3.size))).2.1
              have hs1 : ∀ d, RowsIn b1 0 1 (gr w3 d) sa x.bs := fun d => (HA2_.out _ (bw3.trans ((gr_below w3 d).mono bw3.size))).2.2
              have hs2 : ∀ d, RowsIn b1 0 1 (gr w3 d) va x.bs := fun d => hvr3.gr (by decide) d
              have g3 := gr_row r3 (row_lt (by rw [r3]; simp))
              generalize w2.heap.size = nb at *
              have hsame := fun d => same_fn x (W := w3) (d := d) (c1 := vc) (c2 := sc) hs2 hs1
              clear c2 b3 q2 c3 hve hvr hvr3 hs1 hs2 r3 Q1_ I5_ BW_ HV_ HA2_
              have Q3_ := hid q3
              clear q3
              have I3_ := hid i3
              clear i3
              have BW3_ := hid bw3
              clear bw3
              have HSAME_ := hid hsame
              clear hsame
              rw [gr_self w3]
              refine wp_region_gr w3 (by kernel_rfl) (by kernel_rfl) ⟨_, rfl⟩ ?_
              repeat (go_big_quiet_step (((go_at_call 13; exact HSAME_.out _))))
              refine wpQuiet_nil ?_
              rintro _ ⟨y, rfl⟩
              have q4 := Q3_.out.below (gr_below w3 y)
              have i4 := I3_.out.kept (S := fun _ => False) (.of_below (gr_below w3 y)) (fun _ _ _ _ h => h.elim)
              have bw4 := BW3_.out.trans ((gr_below w3 y).mono BW3_.out.size)
              clear z1 z2 g3 Q3_ I3_ BW3_ HSAME_
              generalize gr w3 y = w4 at *
              have Q4_ := hid q4
              clear q4
              have I4_ := hid i4
              clear i4
              have BW4_ := hid bw4
              clear bw4
              go_wp2
              exact ⟨⟨j + 1, vs, by omega, by go_num, Q4_.out, I4_.out, BW4_.out⟩, by simp [intOf]; omega⟩
          · obtain rfl : j = r := by omega
            have hvs : vs = [] := by
              have h := i1.1
              rw [List.length_drop, HTL_.out, Nat.sub_self] at h
              exact List.length_eq_zero_iff.1 h
            subst hvs
            have Q1_ := hid q1
            clear q1
            have I1_ := hid i1
            clear i1
            have BW_ := hid bw
            clear bw
            go_wp2_with fail
            refine (alive18_c wr).mono ?_
            rintro e w2 ⟨rfl, hb2⟩
            dsimp only
            have q2 := Q1_.out.below hb2
            have bw2 := BW_.out.trans (hb2.mono BW_.out.size)
            clear hb2 Q1_ I1_ BW_
            have BW2_ := hid bw2
            clear bw2
            go_wp2_with fail
            refine (len_c q2).mono ?_
            rintro e w3 ⟨rfl, rfl⟩
            dsimp only
            go_wp2
            go_ret
            exact ⟨rfl, BW2_.out⟩
end Go.Proofs.Ytbdpnmocbpplbaa
