/-
  The walk of the reference's Forget. No condition.
-/
import Derived.Test.YtoblgdjjpbnemaaSqT
namespace Go.Proofs.Ytoblgdjjpbnemaa
open Go.RowKit

def notP (p : Prt) (x : Prt) : Bool := !decide (x = p)
def notL (p : Prt) (x : LaR) : Bool := !decide (x.p = p)
def forgetR (r : RB) (p : Prt) : RB × Bool := if knownR r p = true then (⟨r.sent, r.sn.filter (notP p), r.ls.filter (notL p), withL r.hs p⟩, true) else (r, false)
theorem filter_take {α : Type} (l : List α) (c : α → Bool) (z : α) (j : Nat) (h : j < l.length) : (l.take (j + 1)).filter c = (l.take j).filter c ++ if c (l.getD j z) = true then [l.getD j z] else [] := by
  have e : l.take (j + 1) = l.take j ++ [l.getD j z] := by
    rw [List.take_add_one]
    congr 1
    simp [h]
  rw [e, List.filter_append]
  congr 1
  generalize l.getD j z = x
  cases hx : c x <;> simp [hx]
attribute [-go_sem] Instr.buildSlice
attribute [local go_sem] bsH bsL bsP bsP0
set_option maxRecDepth 100000 in
set_option maxHeartbeats 8000000 in
theorem rforget_c (r : RB) (s1 s2 s3 : Sl) (p : Prt) (hl : r.hs.length ≤ 900) (hsn : r.sn.length ≤ 900) (hls : r.ls.length ≤ 900) (w : World) (h : RL w r s1 s2 s3) :
    Calls Try.prog 23 #[.agg (rc r s1 s2 s3), .agg (pa p)] w fun e w' => Back w (forgetR r p).1 (fun v => .tuple #[v, .bool (forgetR r p).2]) e w' := by
  have H_ := hid h
  clear h
  go_enter Try.func23, Try.ntmps23
  go_upto_region 1 with (fail)
  obtain ⟨W1, hW1⟩ : ∃ W1, ((w.alloc (.cells (rc r s1 s2 s3) 31)).alloc (.cells (pa p) 35)).alloc (.cells (rc zeroRB nilS nilS nilS) 31) = W1 := ⟨_, rfl⟩
  have b1 : Below w.heap.size w W1 := by rw [← hW1]; exact (((Below.refl _ _).alloc (Nat.le_refl _) _).alloc (by simp) _).alloc (by simp; omega) _
  have m2 : ¬ w.heap.size = w.heap.size + 1 + 1 := by omega
  have r0 : row? W1 w.heap.size = rc r s1 s2 s3 := by rw [← hW1]; simp [row_alloc, rowOf, m2]
  have o0 : own? W1 w.heap.size = true := by rw [← hW1]; simp [own_alloc, ownOf]
  have r1 : row? W1 (w.heap.size + 1) = pa p := by rw [← hW1]; simp [row_alloc, rowOf]
  have r2 : row? W1 (w.heap.size + 1 + 1) = rc zeroRB nilS nilS nilS := by rw [← hW1]; simp [row_alloc, rowOf]
  have o2 : own? W1 (w.heap.size + 1 + 1) = true := by rw [← hW1]; simp [own_alloc, ownOf]
  rw [rc_lit, hW1]
  clear hW1 m2
  have l2 := own_lt o2
  have hc := known_c r s1 s2 s3 p (by omega) W1 (H_.out.below b1)
  have B1_ := hid b1
  clear b1
  have HC_ := hid hc
  clear hc
  have O0_ := hid o0
  clear o0
  have O2_ := hid o2
  clear o2
  have R2_ := hid r2
  clear r2
  go_wp2_with fail
  refine HC_.out.mono ?_
  rintro e w2 ⟨rfl, b2⟩
  dsimp only
  have hb2 := B1_.out.trans (b2.mono B1_.out.size)
  have hrow : ∀ g, g < W1.heap.size → row? w2 g = row? W1 g := fun g hg => row_of_block (b2.block g hg)
  have hown : ∀ g, g < W1.heap.size → own? w2 g = own? W1 g := fun g hg => own_of_block (b2.block g hg)
  have q0 := (hrow w.heap.size (by omega)).trans r0
  have q1 := (hrow (w.heap.size + 1) (by omega)).trans r1
  have q2 := (hrow (w.heap.size + 1 + 1) (by omega)).trans R2_.out
  have p0 := (hown w.heap.size (by omega)).trans O0_.out
  have p2 := (hown (w.heap.size + 1 + 1) (by omega)).trans O2_.out
  have l2w : w.heap.size + 1 + 1 < w2.heap.size := own_lt p2
  clear HC_ B1_ b2 hrow hown r0 r1 R2_ O0_ O2_
  cases hk : knownR r p with
  | false =>
    have hfr : forgetR r p = (r, false) := by unfold forgetR; rw [hk, if_neg (by simp)]
    clear hk
    have HFR_ := hid hfr
    clear hfr
    have HB2_ := hid hb2
    clear hb2
    go_wp2
    obtain ⟨W2, hE, e1, _, b3, _⟩ := set_own (B := rc r s1 s2 s3) (by omega) q2 p2 (by simp) HB2_.out
    rw [hE]
    exact bodyPost_ret (results_cell2 rfl rfl (v := .agg (rc r s1 s2 s3)) (by rw [ldRB _ _ _ (by rw [e1]; simp), e1, rc_all])) rfl ⟨s1, s2, s3, by rw [HFR_.out]; rfl, by rw [HFR_.out]; exact H_.out.below b3, b3⟩
  | true =>
    have hfr : forgetR r p = (⟨r.sent, r.sn.filter (notP p), r.ls.filter (notL p), withL r.hs p⟩, true) := by unfold forgetR; rw [hk, if_pos rfl]
    have hX := H_.out.below hb2
    clear hk
    have HFR_ := hid hfr
    clear hfr
    have HB2_ := hid hb2
    clear hb2
    have HX_ := hid hX
    clear hX
    have Q0_ := hid q0
    clear q0
    have Q1_ := hid q1
    clear q1
    have Q2_ := hid q2
    clear q2
    have P0_ := hid p0
    clear p0
    have P2_ := hid p2
    clear p2
    go_wp2
    go_loopw [6, 7] (fun v i wr => ∃ j : Nat, j ≤ r.sn.length ∧ i = .int .i64 j ∧ wr.ownsRow w2.heap.size 35 9 v ((r.sn.take j).filter (notP p)).length (rowsL pa ((r.sn.take j).filter (notP p))) ∧ Below w2.heap.size w2 wr) (fun _ i _ => r.sn.length - (intOf i).toNat)
    case atStart => exact ⟨0, by omega, rfl, World.ownsRow_nil _ _ _ _, Below.refl _ _⟩
    case round =>
      obtain ⟨j, hj, rfl, hown, hbl⟩ := hrel
      have e0 : row? wr w.heap.size = rc r s1 s2 s3 := (row_of_block (hbl.block _ (by omega))).trans Q0_.out
      by_cases hjt : j < r.sn.length
      · have hjt' : (j : Int) < (r.sn.length : Int) := by omega
        have hne : r.sn ≠ [] := by intro e; rw [e] at hjt; simp at hjt
        obtain ⟨g, off, hs3, hrow⟩ := (HX_.out.below hbl).sn.at hne
        obtain ⟨s1', s2'⟩ := hrow j hjt
        have e1 : row? wr (w.heap.size + 1) = pa p := (row_of_block (hbl.block _ (by omega))).trans Q1_.out
        have hlt := row_lt (w := wr) (b := w.heap.size) (by rw [e0]; simp)
        have hlt1 := row_lt (w := wr) (b := w.heap.size + 1) (by rw [e1]; simp)
        have hltg : g < wr.heap.size := hrow.lt (by decide) hne
        have hkk := filter_take r.sn (notP p) zeroP j hjt
        have hlw : ((r.sn.take j).filter (notP p)).length ≤ r.sn.length := Nat.le_trans (List.length_filter_le _ _) (by rw [List.length_take]; omega)
        generalize r.sn.getD j zeroP = x at *
        clear hrow hne
        have k0 := gr_row e0 hlt
        have k1 := gr_row e1 hlt1
        have kg : ∀ d, row? (gr wr d) g = row? wr g := fun d => Below_row (gr_below wr d) hltg
        have s2'' : sub (row? wr g) (off + j * 9) 9 = pa x := by
          exact s2'
        have k9 : ∀ d, off + j * 9 + 9 ≤ (row? (gr wr d) g).size := fun d => by rw [kg d]; omega
        have k9s : ∀ d, sub (row? (gr wr d) g) (off + j * 9) 9 = pa x := fun d => by rw [kg d]; exact s2''
        have kn : ∀ d, off + j * 9 + 9 ≤ (row? (gr wr d) g).size := fun d => by rw [kg d]; exact s1'
        have kns : ∀ d, sub (row? (gr wr d) g) (off + j * 9) 9 = pa x := fun d => by rw [kg d]; exact s2'
        clear kg s1' s2' s2'' hlt hlt1 hltg
        have HOWN_ := hid hown
        clear hown
        have HBL_ := hid hbl
        clear hbl
        have HKK_ := hid hkk
        clear hkk
        have HLW_ := hid hlw
        clear hlw
        have KN_ := hid kn
        clear kn
        have KNS_ := hid kns
        clear kns
        go_upto_region 7 with (fail)
        obtain ⟨d8, hd8⟩ : ∃ d, wr = gr wr d := ⟨wr, gr_self wr⟩
        rw [hd8]
        clear hd8
        refine wp_region_gr wr (by kernel_rfl) (by kernel_rfl) ⟨_, rfl⟩ ?_
        repeat (go_big_quiet_step (fail))
        refine wpQuiet_nil ?_
        rintro _ ⟨y, rfl⟩
        have hown2 := ownsRow_gr HOWN_.out y
        have hbl2 := HBL_.out.trans ((gr_below wr y).mono HBL_.out.size)
        have e0 := k0 y
        have t1 := KN_.out y
        have t2 := KNS_.out y
        clear k0 k1 k9 k9s KN_ KNS_ HOWN_ HBL_
        generalize gr wr y = w3 at *
        by_cases hp : x = p
        · have hd : (!decide (x = p)) = false := by rw [decide_eq_true hp]; rfl
          rw [hd]
          have hkz := HKK_.out
          rw [show notP p x = false from hd, if_neg (by simp), List.append_nil] at hkz
          clear HKK_ hp
          have HKZ_ := hid hkz
          clear hkz
          have HOWN2_ := hid hown2
          clear hown2
          have HBL2_ := hid hbl2
          clear hbl2
          go_wp2
          exact ⟨⟨j + 1, by omega, by go_num, by rw [HKZ_.out]; exact HOWN2_.out, HBL2_.out⟩, by simp [intOf]; omega⟩
        · have hd : (!decide (x = p)) = true := by rw [decide_eq_false hp]; rfl
          rw [hd]
          have hkz := HKK_.out
          rw [show notP p x = true from hd, if_pos rfl] at hkz
          have hbs := hbl2.size
          obtain ⟨v', w4, hrun, ho3, hb3⟩ := elP.app x _ (by have := HLW_.out; omega) hown2 hbs
          rw [← hkz] at ho3
          have n1 : ¬ w.heap.size = w3.heap.size := by omega
          have n2 : ¬ g = w3.heap.size := fun e => by
            have := row_lt (w := w3) (b := g) (fun e => by rw [e] at t1; simp at t1)
            omega
          obtain ⟨_, a', c', rfl, _⟩ := elP.rows hown2
          obtain ⟨_, a'', c'', rfl, _⟩ := elP.rows ho3
          have hbl3 := hbl2.trans hb3
          clear HKK_ hkz hp hown2 hb3 hbl2 HLW_ hbs
          have HRUN_ := hid hrun
          clear hrun
          have HO3_ := hid ho3
          clear ho3
          have HBL3_ := hid hbl3
          clear hbl3
          go_wp2_with (at_builtin; refine wpList_append_runE rfl _ _ 27 rfl _ _ rfl rfl HRUN_.out ?_)
          exact ⟨⟨j + 1, by omega, by go_num, HO3_.out, HBL3_.out⟩, by simp [intOf]; omega⟩
      · obtain rfl : j = r.sn.length := by omega
        have ht : r.sn.take r.sn.length = r.sn := List.take_of_length_le (Nat.le_refl _)
        rw [ht] at hown
        clear hjt hj ht
        obtain ⟨A1, hA1⟩ : ∃ A1, r.sn.filter (notP p) = A1 := ⟨_, rfl⟩
        have hfr := HFR_.out
        rw [hA1] at hown hfr
        clear hA1 HFR_
        obtain ⟨A1a, A1c, rfl, _, _, _⟩ := elP.rows2 hown
        have w25 := hbl.size
        have x5 := HX_.out.below hbl
        have hb5 := HB2_.out.trans (hbl.mono HB2_.out.size)
        have e05 := e0
        have e15 : row? wr (w.heap.size + 1) = pa p := (row_of_block (hbl.block _ (by omega))).trans Q1_.out
        have e25 : row? wr (w.heap.size + 1 + 1) = rc zeroRB nilS nilS nilS := (row_of_block (hbl.block _ (by omega))).trans Q2_.out
        have t0 : own? wr w.heap.size = true := (own_of_block (hbl.block _ (by omega))).trans P0_.out
        have t2 : own? wr (w.heap.size + 1 + 1) = true := (own_of_block (hbl.block _ (by omega))).trans P2_.out
        have hown1 := hown
        clear hown HX_ HB2_ hbl Q0_ Q1_ Q2_ P0_ P2_
        generalize wr = w5 at *
        have HFR_ := hid hfr
        clear hfr
        have X5_ := hid x5
        clear x5
        have HB5_ := hid hb5
        clear hb5
        have E15_ := hid e15
        clear e15
        have E25_ := hid e25
        clear e25
        have T0_ := hid t0
        clear t0
        have T2_ := hid t2
        clear t2
        have HOWN1_ := hid hown1
        clear hown1
        clear e0
        have W25_ := hid w25
        go_wp2
        have E05_ := hid e05
        clear e05
        go_loopw [8, 9] (fun v i wr => ∃ j : Nat, j ≤ r.ls.length ∧ i = .int .i64 j ∧ wr.ownsRow w5.heap.size 75 11 v ((r.ls.take j).filter (notL p)).length (rowsL la ((r.ls.take j).filter (notL p))) ∧ Below w5.heap.size w5 wr) (fun _ i _ => r.ls.length - (intOf i).toNat)
        case atStart => exact ⟨0, by omega, rfl, World.ownsRow_nil _ _ _ _, Below.refl _ _⟩
        case round =>
          obtain ⟨j, hj, rfl, hown, hbl⟩ := hrel
          have e0 : row? wr w.heap.size = rc r s1 s2 s3 := (row_of_block (hbl.block _ (by omega))).trans E05_.out
          by_cases hjt : j < r.ls.length
          · have hjt' : (j : Int) < (r.ls.length : Int) := by omega
            have hne : r.ls ≠ [] := by intro e; rw [e] at hjt; simp at hjt
            obtain ⟨g, off, hs3, hrow⟩ := (X5_.out.below hbl).ls.at hne
            obtain ⟨s1', s2'⟩ := hrow j hjt
            have e1 : row? wr (w.heap.size + 1) = pa p := (row_of_block (hbl.block _ (by omega))).trans E15_.out
            have hlt := row_lt (w := wr) (b := w.heap.size) (by rw [e0]; simp)
            have hlt1 := row_lt (w := wr) (b := w.heap.size + 1) (by rw [e1]; simp)
            have hltg : g < wr.heap.size := hrow.lt (by decide) hne
            have hkk := filter_take r.ls (notL p) zeroLa j hjt
            have hlw : ((r.ls.take j).filter (notL p)).length ≤ r.ls.length := Nat.le_trans (List.length_filter_le _ _) (by rw [List.length_take]; omega)
            generalize r.ls.getD j zeroLa = x at *
            clear hrow hne
            have k0 := gr_row e0 hlt
            have k1 := gr_row e1 hlt1
            have kg : ∀ d, row? (gr wr d) g = row? wr g := fun d => Below_row (gr_below wr d) hltg
            have s2'' : sub (row? wr g) (off + j * 11) 9 = pa x.p := by
              have := sub_sub (row? wr g) (off + j * 11) 11 0 9 (by omega) s1'
              rw [s2', la_p] at this
              exact this
            have k9 : ∀ d, off + j * 11 + 9 ≤ (row? (gr wr d) g).size := fun d => by rw [kg d]; omega
            have k9s : ∀ d, sub (row? (gr wr d) g) (off + j * 11) 9 = pa x.p := fun d => by rw [kg d]; exact s2''
            have kn : ∀ d, off + j * 11 + 11 ≤ (row? (gr wr d) g).size := fun d => by rw [kg d]; exact s1'
            have kns : ∀ d, sub (row? (gr wr d) g) (off + j * 11) 11 = la x := fun d => by rw [kg d]; exact s2'
            clear kg s1' s2' s2'' hlt hlt1 hltg
            have HOWN_ := hid hown
            clear hown
            have HBL_ := hid hbl
            clear hbl
            have HKK_ := hid hkk
            clear hkk
            have HLW_ := hid hlw
            clear hlw
            have KN_ := hid kn
            clear kn
            have KNS_ := hid kns
            clear kns
            go_upto_region 13 with (fail)
            obtain ⟨d8, hd8⟩ : ∃ d, wr = gr wr d := ⟨wr, gr_self wr⟩
            rw [hd8]
            clear hd8
            refine wp_region_gr wr (by kernel_rfl) (by kernel_rfl) ⟨_, rfl⟩ ?_
            repeat (go_big_quiet_step (fail))
            refine wpQuiet_nil ?_
            rintro _ ⟨y, rfl⟩
            have hown2 := ownsRow_gr HOWN_.out y
            have hbl2 := HBL_.out.trans ((gr_below wr y).mono HBL_.out.size)
            have e0 := k0 y
            have t1 := KN_.out y
            have t2 := KNS_.out y
            clear k0 k1 k9 k9s KN_ KNS_ HOWN_ HBL_
            generalize gr wr y = w3 at *
            by_cases hp : x.p = p
            · have hd : (!decide (x.p = p)) = false := by rw [decide_eq_true hp]; rfl
              rw [hd]
              have hkz := HKK_.out
              rw [show notL p x = false from hd, if_neg (by simp), List.append_nil] at hkz
              clear HKK_ hp
              have HKZ_ := hid hkz
              clear hkz
              have HOWN2_ := hid hown2
              clear hown2
              have HBL2_ := hid hbl2
              clear hbl2
              go_wp2
              exact ⟨⟨j + 1, by omega, by go_num, by rw [HKZ_.out]; exact HOWN2_.out, HBL2_.out⟩, by simp [intOf]; omega⟩
            · have hd : (!decide (x.p = p)) = true := by rw [decide_eq_false hp]; rfl
              rw [hd]
              have hkz := HKK_.out
              rw [show notL p x = true from hd, if_pos rfl] at hkz
              have hbs := hbl2.size
              obtain ⟨v', w4, hrun, ho3, hb3⟩ := elL.app x _ (by have := HLW_.out; omega) hown2 hbs
              rw [← hkz] at ho3
              have n1 : ¬ w.heap.size = w3.heap.size := by omega
              have n2 : ¬ g = w3.heap.size := fun e => by
                have := row_lt (w := w3) (b := g) (fun e => by rw [e] at t1; simp at t1)
                omega
              obtain ⟨_, a', c', rfl, _⟩ := elL.rows hown2
              obtain ⟨_, a'', c'', rfl, _⟩ := elL.rows ho3
              have hbl3 := hbl2.trans hb3
              clear HKK_ hkz hp hown2 hb3 hbl2 HLW_ hbs
              have HRUN_ := hid hrun
              clear hrun
              have HO3_ := hid ho3
              clear ho3
              have HBL3_ := hid hbl3
              clear hbl3
              go_wp2_with (at_builtin; refine wpList_append_runE rfl _ _ 28 rfl _ _ rfl rfl HRUN_.out ?_)
              exact ⟨⟨j + 1, by omega, by go_num, HO3_.out, HBL3_.out⟩, by simp [intOf]; omega⟩
          · obtain rfl : j = r.ls.length := by omega
            have ht : r.ls.take r.ls.length = r.ls := List.take_of_length_le (Nat.le_refl _)
            rw [ht] at hown
            clear hjt hj ht
            obtain ⟨A2, hA2⟩ : ∃ A2, r.ls.filter (notL p) = A2 := ⟨_, rfl⟩
            have hfr := HFR_.out
            rw [hA2] at hown hfr
            clear hA2 HFR_
            obtain ⟨b2, cb2, rfl, hrl, hlo2, _⟩ := elL.rows2 hown
            have hown1 := owns_below HOWN1_.out hbl
            obtain ⟨ba, cba, ev1, hrs, hlo1, _⟩ := elP.rows2 hown1
            injection ev1 with ev1 _ ev2
            subst ev1 ev2
            have hb3 := HB5_.out.trans (hbl.mono HB5_.out.size)
            have x0 : row? wr w.heap.size = rc r s1 s2 s3 := e0
            have xp0 : own? wr w.heap.size = true := (own_of_block (hbl.block _ (by omega))).trans T0_.out
            have x1 : row? wr (w.heap.size + 1) = pa p := (row_of_block (hbl.block _ (by omega))).trans E15_.out
            have x2 : row? wr (w.heap.size + 1 + 1) = rc zeroRB nilS nilS nilS := (row_of_block (hbl.block _ (by omega))).trans E25_.out
            have xp2 : own? wr (w.heap.size + 1 + 1) = true := (own_of_block (hbl.block _ (by omega))).trans T2_.out
            have set1 := rc_set16 r s1 s2 s3 ⟨A1a, A1c⟩ A1
            have set2 := rc_set17 ⟨r.sent, A1, r.ls, r.hs⟩ ⟨A1a, A1c⟩ s2 s3 ⟨b2, cb2⟩ A2
            have h23 : w2.heap.size ≤ w5.heap.size := W25_.out
            clear e0 hown hown1 hbl HB5_ E05_ E15_ E25_ T0_ T2_ HOWN1_ X5_ W25_
            have HRL_ := hid hrl
            clear hrl
            have HLO2_ := hid hlo2
            clear hlo2
            have HRS_ := hid hrs
            clear hrs
            have HLO1_ := hid hlo1
            clear hlo1
            have HB3_ := hid hb3
            clear hb3
            have SET1_ := hid set1
            clear set1
            have SET2_ := hid set2
            clear set2
            have HFR_ := hid hfr
            clear hfr
            have X1_ := hid x1
            clear x1
            have X2_ := hid x2
            clear x2
            have XP2_ := hid xp2
            clear xp2
            go_upto_region 16 with (fail)
            have c6 : Chg (· = w.heap.size) wr (wr.setCell ⟨w.heap.size, 16, none⟩ (.slice A1a A1.length A1c)) := (Chg.refl (· = w.heap.size) wr).setCell (p := ⟨w.heap.size, 16, none⟩) (.inr rfl) _
            have z0 : row? (wr.setCell ⟨w.heap.size, 16, none⟩ (.slice A1a A1.length A1c)) w.heap.size = rc ⟨r.sent, A1, r.ls, r.hs⟩ ⟨A1a, A1c⟩ s2 s3 := by rw [row_setCell, if_pos rfl, x0]; exact SET1_.out
            have zp0 : own? (wr.setCell ⟨w.heap.size, 16, none⟩ (.slice A1a A1.length A1c)) w.heap.size = true := by rw [own_setCell]; exact xp0
            generalize wr.setCell ⟨w.heap.size, 16, none⟩ (.slice A1a A1.length A1c) = w6 at *
            clear x0 xp0
            have C6_ := hid c6
            clear c6
            go_upto_region 17 with (fail)
            have c7 : Chg (· = w.heap.size) wr (w6.setCell ⟨w.heap.size, 17, none⟩ (.slice b2 A2.length cb2)) := C6_.out.setCell (p := ⟨w.heap.size, 17, none⟩) (.inr rfl) _
            have x0 : row? (w6.setCell ⟨w.heap.size, 17, none⟩ (.slice b2 A2.length cb2)) w.heap.size = rc ⟨r.sent, A1, A2, r.hs⟩ ⟨A1a, A1c⟩ ⟨b2, cb2⟩ s3 := by rw [row_setCell, if_pos rfl, z0]; exact SET2_.out
            generalize w6.setCell ⟨w.heap.size, 17, none⟩ (.slice b2 A2.length cb2) = w7 at *
            have y1 := (c7.row (b := w.heap.size + 1) (row_lt (by rw [X1_.out]; simp)) (by show ¬ _ = _; omega)).trans X1_.out
            have y2 := (c7.row (b := w.heap.size + 1 + 1) (own_lt XP2_.out) (by show ¬ _ = _; omega)).trans X2_.out
            have yp2 := (c7.own (b := w.heap.size + 1 + 1) (own_lt XP2_.out) (by show ¬ _ = _; omega)).trans XP2_.out
            have hb7 := HB3_.out.trans (c7.below HB3_.out.size (fun k hk e => by omega))
            have hrs7 := HRS_.out.keptB (by decide) c7 (fun b hb e => by have := (HLO1_.out b hb).1; omega)
            have hrl7 := HRL_.out.keptB (by decide) c7 (fun b hb e => by have := (HLO2_.out b hb).1; omega)
            have hRL7 : RL w7 ⟨r.sent, A1, A2, r.hs⟩ ⟨A1a, A1c⟩ ⟨b2, cb2⟩ s3 := ⟨hrs7, hrl7, (H_.out.below hb7).hs⟩
            have hc := without_c ⟨r.sent, A1, A2, r.hs⟩ ⟨A1a, A1c⟩ ⟨b2, cb2⟩ s3 p hl w7 hRL7
            clear z0 zp0 C6_ c7 hrs7 hrl7 HRS_ HRL_ HLO1_ HLO2_ X1_ X2_ XP2_ SET1_ SET2_ HB3_
            have HC_ := hid hc
            clear hc
            have HRL7_ := hid hRL7
            clear hRL7
            have HB7_ := hid hb7
            clear hb7
            have Y2_ := hid y2
            clear y2
            have YP2_ := hid yp2
            clear yp2
            go_wp2_with fail
            refine HC_.out.mono ?_
            rintro e' w8 ⟨s', rfl, ho8, b8⟩
            dsimp only at ho8 ⊢
            have hb8 := HB7_.out.trans (b8.mono HB7_.out.size)
            have hl7 := own_lt YP2_.out
            have u2 := (row_of_block (b8.block _ hl7)).trans Y2_.out
            have up2 := (own_of_block (b8.block _ hl7)).trans YP2_.out
            have hRL8 := HRL7_.out.below b8
            have hr8 : RowsIn ha zeroHa 13 w8 s'.a (withL r.hs p) := by
              obtain ⟨a', c', ev, hr6, _⟩ := elH.rows2 ho8
              injection ev with ev1
              rw [ev1]
              exact hr6
            clear HC_ HRL7_ Y2_ YP2_ HB7_ ho8 b8
            have HRL8_ := hid hRL8
            clear hRL8
            have HR8_ := hid hr8
            clear hr8
            have HB8_ := hid hb8
            clear hb8
            go_wp2
            obtain ⟨W9, hE, e9, _, b9, c9⟩ := set_own (B := rc ⟨r.sent, A1, A2, withL r.hs p⟩ ⟨A1a, A1c⟩ ⟨b2, cb2⟩ s') (by omega) u2 up2 (by simp) HB8_.out
            rw [hE]
            have hno : ∀ b, b < w8.heap.size → b = w.heap.size + 1 + 1 → ∀ v ∈ row? w8 b, ∀ i, v ≠ .int .u8 i := fun b _ hb => by
              subst hb
              rw [u2]
              exact rc_nou _ _ _ _
            refine bodyPost_ret (results_cell2 rfl rfl (v := .agg (rc ⟨r.sent, A1, A2, withL r.hs p⟩ ⟨A1a, A1c⟩ ⟨b2, cb2⟩ s')) (by rw [ldRB _ _ _ (by rw [e9]; simp), e9, rc_all])) rfl ⟨⟨A1a, A1c⟩, ⟨b2, cb2⟩, s', by rw [HFR_.out]; rfl, ?_, b9⟩
            rw [HFR_.out]
            exact ⟨HRL8_.out.sn.noU (by decide) pa_u c9 hno, HRL8_.out.ls.noU (by decide) la_u c9 hno, HR8_.out.noU (by decide) ha_u c9 hno⟩
end Go.Proofs.Ytoblgdjjpbnemaa
