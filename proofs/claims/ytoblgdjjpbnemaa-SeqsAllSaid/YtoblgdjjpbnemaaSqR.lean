/-
  The walk of the reference's Fresh. No condition.
-/
import Derived.Test.YtoblgdjjpbnemaaSqQ
namespace Go.Proofs.Ytoblgdjjpbnemaa
open Go.RowKit

def hitL (p : Prt) (k : Int) (x : LaR) : Bool := decide (x.p = p) && decide (x.k = k)
def scanL (l : List LaR) (p : Prt) (k : Int) : List LaR := l.filter fun x => !hitL p k x
def badL (l : List LaR) (p : Prt) (k q : Int) : Bool := l.any fun x => hitL p k x && !behB q x.q
theorem take_one (l : List LaR) (j : Nat) (h : j < l.length) : l.take (j + 1) = l.take j ++ [l.getD j zeroLa] := by
  rw [List.take_add_one]
  congr 1
  simp [h]
theorem scanL_take (l : List LaR) (p : Prt) (k : Int) (j : Nat) (h : j < l.length) : scanL (l.take (j + 1)) p k = scanL (l.take j) p k ++ if hitL p k (l.getD j zeroLa) = true then [] else [l.getD j zeroLa] := by
  unfold scanL
  rw [take_one l j h, List.filter_append]
  congr 1
  generalize l.getD j zeroLa = x
  cases hx : hitL p k x <;> simp [hx]
theorem badL_take (l : List LaR) (p : Prt) (k q : Int) (j : Nat) (h : j < l.length) : badL (l.take (j + 1)) p k q = (badL (l.take j) p k q || (hitL p k (l.getD j zeroLa) && !behB q (l.getD j zeroLa).q)) := by
  unfold badL
  rw [take_one l j h, List.any_append]
  simp
theorem badL_of (l : List LaR) (p : Prt) (k q : Int) (j : Nat) (h : j < l.length) (h1 : hitL p k (l.getD j zeroLa) = true) (h2 : behB q (l.getD j zeroLa).q = false) : badL l p k q = true := by
  refine List.any_eq_true.2 ⟨l.getD j zeroLa, ?_, by rw [h1, h2]; rfl⟩
  rw [List.getD_eq_getElem?_getD, List.getElem?_eq_getElem h]
  exact List.getElem_mem h
/-- What a call of the reference hands back: a book, and more. -/
structure Back (w : World) (r : RB) (mk : Value → Value) (e : Ending) (w' : World) : Prop where
  ex : ∃ s1 s2 s3, e = .returned (mk (.agg (rc r s1 s2 s3))) ∧ RL w' r s1 s2 s3 ∧ Below w.heap.size w w'
def freshR (r : RB) (p : Prt) (k q : Int) : RB × Bool :=
  if (kindB k && rightB q) = false then (r, false)
  else if badL r.ls p k q = true then (r, false)
  else if knownR r p = false ∧ 16 ≤ r.sn.length then (r, false)
  else (⟨r.sent, if knownR r p = true then r.sn else r.sn ++ [p], scanL r.ls p k ++ [⟨p, k, q⟩], r.hs⟩, true)
@[go_sem] theorem bldLa (w : World) (p : Prt) (k q : Int) : (bld 75 #[(0, .agg (pa p)), (1, .int .i64 k), (2, .int .i64 q)]).run Try.prog w = .ok (.agg (la ⟨p, k, q⟩)) w := by
  obtain ⟨⟨l, h, r⟩, n⟩ := p
  match l, h with
  | [c0, c1, c2, c3, c4, c5, c6, c7], _ => exact run_bld w (by kernel_rfl)
@[go_sem] theorem bldHa (w : World) (p : Prt) (q : Int) (x : X3) : (bld 79 #[(0, .agg (pa p)), (1, .int .i64 q), (2, .agg (xc x))]).run Try.prog w = .ok (.agg (ha ⟨p, q, x⟩)) w := by
  obtain ⟨⟨l, h, r⟩, n⟩ := p
  match l, h with
  | [c0, c1, c2, c3, c4, c5, c6, c7], _ => exact run_bld w (by kernel_rfl)
attribute [-go_sem] Instr.buildSlice
attribute [local go_sem] bsH bsL bsP bsP0
set_option maxRecDepth 100000 in
set_option maxHeartbeats 8000000 in
theorem rfresh_c (r : RB) (s1 s2 s3 : Sl) (p : Prt) (k q : Int) (hl : r.ls.length ≤ 900) (hsn : r.sn.length ≤ 900) (w : World) (h : RL w r s1 s2 s3) (hq0 : ∀ x ∈ r.ls, 0 ≤ x.q ∧ x.q ≤ 65535) :
    Calls Try.prog 20 #[.agg (rc r s1 s2 s3), .agg (pa p), .int .i64 k, .int .i64 q] w fun e w' => Back w (freshR r p k q).1 (fun v => .tuple #[v, .bool (freshR r p k q).2]) e w' := by
  have hlong := fun w => rlong_fn k w
  have hkl := kindB_long k
  generalize longK k = ln at *
  have H_ := hid h
  clear h
  have HLONG_ := hid hlong
  clear hlong
  have HQ0_ := hid hq0
  clear hq0
  go_enter Try.func20, Try.ntmps20
  go_upto_region 1 with (fail)
  obtain ⟨W1, hW1⟩ : ∃ W1, ((w.alloc (.cells (rc r s1 s2 s3) 31)).alloc (.cells (pa p) 35)).alloc (.cells (rc zeroRB nilS nilS nilS) 31) = W1 := ⟨_, rfl⟩
  have b1 : Below w.heap.size w W1 := by rw [← hW1]; exact (((Below.refl _ _).alloc (Nat.le_refl _) _).alloc (by simp) _).alloc (by simp; omega) _
  have r0 : row? W1 w.heap.size = rc r s1 s2 s3 := by
    rw [← hW1]
    simp [row_alloc, rowOf]
    intro e
    omega
  have o0 : own? W1 w.heap.size = true := by
    rw [← hW1]
    simp [own_alloc, ownOf]
  have r1 : row? W1 (w.heap.size + 1) = pa p := by rw [← hW1]; simp [row_alloc, rowOf]
  have o1 : own? W1 (w.heap.size + 1) = true := by rw [← hW1]; simp [own_alloc, ownOf]
  have r2 : row? W1 (w.heap.size + 1 + 1) = rc zeroRB nilS nilS nilS := by rw [← hW1]; simp [row_alloc, rowOf]
  have o2 : own? W1 (w.heap.size + 1 + 1) = true := by rw [← hW1]; simp [own_alloc, ownOf]
  rw [rc_lit, hW1]
  clear hW1
  have B1_ := hid b1
  clear b1
  go_wp2_with fail
  refine (HLONG_.out W1).mono ?_
  rintro e w2 ⟨rfl, b2⟩
  dsimp only
  have hb2 := B1_.out.trans (b2.mono B1_.out.size)
  have q0 : row? w2 w.heap.size = rc r s1 s2 s3 := (row_of_block (b2.block _ (own_lt o0))).trans r0
  have p0 : own? w2 w.heap.size = true := (own_of_block (b2.block _ (own_lt o0))).trans o0
  have q1 : row? w2 (w.heap.size + 1) = pa p := (row_of_block (b2.block _ (own_lt o1))).trans r1
  have p1 : own? w2 (w.heap.size + 1) = true := (own_of_block (b2.block _ (own_lt o1))).trans o1
  have q2 : row? w2 (w.heap.size + 1 + 1) = rc zeroRB nilS nilS nilS := (row_of_block (b2.block _ (own_lt o2))).trans r2
  have p2 : own? w2 (w.heap.size + 1 + 1) = true := (own_of_block (b2.block _ (own_lt o2))).trans o2
  have l2 := own_lt p2
  clear HLONG_ B1_ b2 r0 r1 r2 o0 o1 o2
  clear W1
  by_cases hbad : (kindB k && rightB q) = false
  · have hfr : freshR r p k q = (r, false) := by unfold freshR; rw [if_pos hbad]
    have hbad' : kindB k = false ∨ (kindB k = true ∧ q < 0) ∨ (kindB k = true ∧ ¬ q < 0 ∧ 65535 < q) := by
      cases hk : kindB k with
      | false => exact .inl rfl
      | true =>
        rw [hk, Bool.true_and] at hbad
        have := of_decide_eq_false hbad
        by_cases h1 : q < 0
        · exact .inr (.inl ⟨rfl, h1⟩)
        · exact .inr (.inr ⟨rfl, h1, by omega⟩)
    have HFR_ := hid hfr
    clear hfr
    have HB2_ := hid hb2
    clear hb2
    clear hbad
    rcases hbad' with hk | ⟨hk, y⟩ | ⟨hk, y, y2⟩ <;> (
      rw [hk] at hkl
      clear hk
      go_wp2
      obtain ⟨W2, hE, e1, _, b3, _⟩ := set_own (B := rc r s1 s2 s3) (by omega) q2 p2 (by simp) HB2_.out
      rw [hE]
      exact bodyPost_ret (results_cell2 rfl rfl (v := .agg (rc r s1 s2 s3)) (by rw [ldRB _ _ _ (by rw [e1]; simp), e1, rc_all])) rfl ⟨s1, s2, s3, by rw [HFR_.out]; rfl, by rw [HFR_.out]; exact H_.out.below b3, b3⟩)
  have hkq : (kindB k && rightB q) = true := by simpa using hbad
  obtain ⟨hk, hrq⟩ := Bool.and_eq_true_iff.1 hkq
  have hq' := of_decide_eq_true hrq
  obtain ⟨y1, y2⟩ := hq'
  have y1' : ¬ q < 0 := by omega
  have y2' : ¬ 65535 < q := by omega
  rw [hk] at hkl
  clear hbad
  have hX := H_.out.below hb2
  have l0 := own_lt p0
  have l1 := own_lt p1
  have HX_ := hid hX
  clear hX
  have HB2_ := hid hb2
  clear hb2
  have HKQ_ := hid hkq
  clear hkq
  have HK_ := hid hk
  clear hk
  have HRQ_ := hid hrq
  clear hrq
  have P0_ := hid p0
  clear p0
  have P1_ := hid p1
  clear p1
  have P2_ := hid p2
  clear p2
  have Q1_ := hid q1
  clear q1
  have Q2_ := hid q2
  clear q2
  have Q0_ := hid q0
  clear q0
  go_wp2
  go_loopw [10, 11] (fun v i wr => ∃ j : Nat, j ≤ r.ls.length ∧ i = .int .i64 j ∧ wr.ownsRow w2.heap.size 75 11 v (scanL (r.ls.take j) p k).length (rowsL la (scanL (r.ls.take j) p k)) ∧ badL (r.ls.take j) p k q = false ∧ Below w2.heap.size w2 wr) (fun _ i _ => r.ls.length - (intOf i).toNat)
  case atStart => exact ⟨0, by omega, rfl, World.ownsRow_nil _ _ _ _, rfl, Below.refl _ _⟩
  case round =>
    obtain ⟨j, hj, rfl, hown, hbd, hbl⟩ := hrel
    have e0 : row? wr w.heap.size = rc r s1 s2 s3 := (row_of_block (hbl.block _ l0)).trans Q0_.out
    by_cases hjt : j < r.ls.length
    · have hjt' : (j : Int) < (r.ls.length : Int) := by omega
      have hne : r.ls ≠ [] := by intro e; rw [e] at hjt; simp at hjt
      obtain ⟨g, off, hs2, hrow⟩ := (HX_.out.below hbl).ls.at hne
      obtain ⟨s1', s2'⟩ := hrow j hjt
      have e1 : row? wr (w.heap.size + 1) = pa p := (row_of_block (hbl.block _ l1)).trans Q1_.out
      have hlt := row_lt (w := wr) (b := w.heap.size) (by rw [e0]; simp)
      have hlt1 := row_lt (w := wr) (b := w.heap.size + 1) (by rw [e1]; simp)
      have hltg : g < wr.heap.size := hrow.lt (by decide) hne
      have hk1 := scanL_take r.ls p k j hjt
      have hb1 := badL_take r.ls p k q j hjt
      have hbo := badL_of r.ls p k q j hjt
      have hxq := HQ0_.out (r.ls.getD j zeroLa) (by rw [List.getD_eq_getElem?_getD, List.getElem?_eq_getElem hjt]; exact List.getElem_mem hjt)
      have hlw : (scanL (r.ls.take j) p k).length ≤ r.ls.length := Nat.le_trans (List.length_filter_le _ _) (by rw [List.length_take]; omega)
      generalize r.ls.getD j zeroLa = x at *
      clear hrow hne
      have k0 := gr_row e0 hlt
      have k1 := gr_row e1 hlt1
      have kg : ∀ d, row? (gr wr d) g = row? wr g := fun d => Below_row (gr_below wr d) hltg
      have s2'' : sub (row? wr g) (off + j * 11) 9 = pa x.p := by
        have := sub_sub (row? wr g) (off + j * 11) 11 0 9 (by omega) s1'
        rw [s2', la_p] at this
        exact this
      have c9 : (row? wr g)[off + j * 11 + 9]? = some (.int .i64 x.k) := by
        have h9 := la_get x 9 (by omega)
        rw [← s2'] at h9
        unfold sub at h9
        rw [Array.getElem?_extract, if_pos (by omega)] at h9
        exact h9
      have c10 : (row? wr g)[off + j * 11 + 10]? = some (.int .i64 x.q) := by
        have h9 := la_get x 10 (by omega)
        rw [← s2'] at h9
        unfold sub at h9
        rw [Array.getElem?_extract, if_pos (by omega)] at h9
        exact h9
      have k9 : ∀ d, off + j * 11 + 9 ≤ (row? (gr wr d) g).size := fun d => by rw [kg d]; omega
      have k9s : ∀ d, sub (row? (gr wr d) g) (off + j * 11) 9 = pa x.p := fun d => by rw [kg d]; exact s2''
      have k9c : ∀ d, (row? (gr wr d) g)[off + j * 11 + 9]? = some (.int .i64 x.k) := fun d => by rw [kg d]; exact c9
      have k10c : ∀ d, (row? (gr wr d) g)[off + j * 11 + 10]? = some (.int .i64 x.q) := fun d => by rw [kg d]; exact c10
      have k11 : ∀ d, off + j * 11 + 11 ≤ (row? (gr wr d) g).size := fun d => by rw [kg d]; exact s1'
      have k11s : ∀ d, sub (row? (gr wr d) g) (off + j * 11) 11 = la x := fun d => by rw [kg d]; exact s2'
      have k9z : ∀ d, off + j * 11 + 9 < (row? (gr wr d) g).size := fun d => by have := k11 d; omega
      have k9v : ∀ d h, (row? (gr wr d) g)[off + j * 11 + 9]'h = .int .i64 x.k := fun d h => by
        have h1 := k9c d
        rw [Array.getElem?_eq_getElem h] at h1
        exact Option.some.inj h1
      clear kg s1' s2' s2'' hlt hlt1 hltg c9 c10
      have HOWN_ := hid hown
      clear hown
      have HBL_ := hid hbl
      clear hbl
      have HK1_ := hid hk1
      clear hk1
      have HB1_ := hid hb1
      clear hb1
      have HBO_ := hid hbo
      clear hbo
      have HXQ_ := hid hxq
      clear hxq
      have HLW_ := hid hlw
      clear hlw
      have HBD_ := hid hbd
      clear hbd
      have K11_ := hid k11
      clear k11
      have K11S_ := hid k11s
      clear k11s
      have K10C_ := hid k10c
      clear k10c
      go_upto_region 7 with (fail)
      obtain ⟨d8, hd8⟩ : ∃ d, wr = gr wr d := ⟨wr, gr_self wr⟩
      rw [hd8]
      clear hd8
      by_cases hp : x.p = p
      · have hd : decide (x.p = p) = true := decide_eq_true hp
        by_cases hkk : x.k = k
        · have hkb : (x.k == k) = true := by simpa using hkk
          refine wp_region_gr wr (by kernel_rfl) (by kernel_rfl) ⟨_, rfl⟩ ?_
          repeat (go_big_quiet_step (fail))
          refine wpQuiet_nil ?_
          rintro _ ⟨y, rfl⟩
          have hown2 := ownsRow_gr HOWN_.out y
          have hbl2 := HBL_.out.trans ((gr_below wr y).mono HBL_.out.size)
          have e0 := k0 y
          have t1 := K11_.out y
          have t2 := K11S_.out y
          have t3 := K10C_.out y
          have hkz := HK1_.out
          have hbz := HB1_.out
          rw [HBD_.out] at hbz
          clear k0 k1 k9 k9s k9c k9z k9v K11_ K11S_ K10C_ HOWN_ HBL_ HK1_ HB1_ HBD_ e1
          generalize gr wr y = w3 at *
          have hit : hitL p k x = true := by unfold hitL; rw [decide_eq_true hp, decide_eq_true hkk]; rfl
          rw [hit, if_pos rfl, List.append_nil] at hkz
          rw [hit, Bool.true_and, Bool.false_or] at hbz
          have hbo := fun h => HBO_.out hit h
          have hc := rbeh_fn q x.q ⟨by omega, by omega⟩ HXQ_.out
          have t3' : ∀ h, (row? w3 g)[off + j * 11 + 10]'h = .int .i64 x.q := fun h => by
            have h1 := t3
            rw [Array.getElem?_eq_getElem h] at h1
            exact Option.some.inj h1
          clear hit HBO_ HXQ_ HLW_
          have HC_ := hid hc
          clear hc
          have HOWN2_ := hid hown2
          clear hown2
          have HBL2_ := hid hbl2
          clear hbl2
          have HKZ_ := hid hkz
          clear hkz
          have HBZ_ := hid hbz
          clear hbz
          have HBO_ := hid hbo
          clear hbo
          go_wp2_with fail
          refine (HC_.out w3).mono ?_
          rintro e' w4 ⟨rfl, b4⟩
          dsimp only
          clear HC_
          cases hbb : behB q x.q with
          | false =>
            have hfr : freshR r p k q = (r, false) := by unfold freshR; rw [HKQ_.out, if_neg (by simp), if_pos (HBO_.out hbb)]
            have hb24 := HBL2_.out.trans (b4.mono HBL2_.out.size)
            have e04 : row? w4 w.heap.size = rc r s1 s2 s3 := (row_of_block (b4.block _ (row_lt (by rw [e0]; simp)))).trans e0
            have e24 : row? w4 (w.heap.size + 1 + 1) = rc zeroRB nilS nilS nilS := (row_of_block (hb24.block _ l2)).trans Q2_.out
            have p24 : own? w4 (w.heap.size + 1 + 1) = true := (own_of_block (hb24.block _ l2)).trans P2_.out
            have hbw := HB2_.out.trans (hb24.mono HB2_.out.size)
            clear t3 t3' t1 t2 e0 b4 hb24
            have HFR_ := hid hfr
            clear hfr
            have HBW_ := hid hbw
            clear hbw
            go_wp2
            obtain ⟨W2, hE, e1, _, b3, _⟩ := set_own (B := rc r s1 s2 s3) (by omega) e24 p24 (by simp) HBW_.out
            rw [hE]
            exact bodyPost_ret (results_cell2 rfl rfl (v := .agg (rc r s1 s2 s3)) (by rw [ldRB _ _ _ (by rw [e1]; simp), e1, rc_all])) rfl ⟨s1, s2, s3, by rw [HFR_.out]; rfl, by rw [HFR_.out]; exact H_.out.below b3, b3⟩
          | true =>
            have hbz := HBZ_.out
            rw [hbb] at hbz
            have ho4 := owns_below HOWN2_.out b4
            have hbl4 := HBL2_.out.trans (b4.mono HBL2_.out.size)
            clear b4 HBZ_ HOWN2_ HBL2_
            have HO4_ := hid ho4
            clear ho4
            have HBL4_ := hid hbl4
            clear hbl4
            have HBZ_ := hid hbz
            clear hbz
            go_wp2
            exact ⟨⟨j + 1, by omega, by go_num, by rw [HKZ_.out]; exact HO4_.out, HBZ_.out, HBL4_.out⟩, by simp [intOf]; omega⟩
        · have hkb : (x.k == k) = false := by simpa using hkk
          refine wp_region_gr wr (by kernel_rfl) (by kernel_rfl) ⟨_, rfl⟩ ?_
          repeat (go_big_quiet_step (fail))
          refine wpQuiet_nil ?_
          rintro _ ⟨y, rfl⟩
          have hown2 := ownsRow_gr HOWN_.out y
          have hbl2 := HBL_.out.trans ((gr_below wr y).mono HBL_.out.size)
          have e0 := k0 y
          have t1 := K11_.out y
          have t2 := K11S_.out y
          have t3 := K10C_.out y
          have hkz := HK1_.out
          have hbz := HB1_.out
          rw [HBD_.out] at hbz
          clear k0 k1 k9 k9s k9c k9z k9v K11_ K11S_ K10C_ HOWN_ HBL_ HK1_ HB1_ HBD_ e1
          generalize gr wr y = w3 at *
          have hit : hitL p k x = false := by unfold hitL; rw [decide_eq_false hkk, Bool.and_false]
          rw [hit, if_neg (by simp)] at hkz
          rw [hit, Bool.false_and, Bool.false_or] at hbz
          clear hit t3 HBO_ HXQ_
          have hbs := hbl2.size
          obtain ⟨v', w4, hrun, ho3, hb3⟩ := elL.app x _ (by have := HLW_.out; omega) hown2 hbs
          rw [← hkz] at ho3
          have n1 : ¬ w.heap.size = w3.heap.size := by omega
          have n2 : ¬ g = w3.heap.size := fun e => by
            have := row_lt (w := w3) (b := g) (fun e => by rw [e] at t1; simp at t1)
            omega
          obtain ⟨_, a', c', rfl, _⟩ := elL.rows hown2
          obtain ⟨_, a'', c'', rfl, _⟩ := elL.rows ho3
          have hbl3 := hbl2.trans hb3
          clear hkz hown2 hb3 hbl2 HLW_ hbs
          have HRUN_ := hid hrun
          clear hrun
          have HO3_ := hid ho3
          clear ho3
          have HBL3_ := hid hbl3
          clear hbl3
          have HBZ_ := hid hbz
          clear hbz
          go_wp2_with (at_builtin; refine wpList_append_runE rfl _ _ 28 rfl _ _ rfl rfl HRUN_.out ?_)
          exact ⟨⟨j + 1, by omega, by go_num, HO3_.out, HBZ_.out, HBL3_.out⟩, by simp [intOf]; omega⟩
      · have hd : decide (x.p = p) = false := decide_eq_false hp
        refine wp_region_gr wr (by kernel_rfl) (by kernel_rfl) ⟨_, rfl⟩ ?_
        repeat (go_big_quiet_step (fail))
        refine wpQuiet_nil ?_
        rintro _ ⟨y, rfl⟩
        have hown2 := ownsRow_gr HOWN_.out y
        have hbl2 := HBL_.out.trans ((gr_below wr y).mono HBL_.out.size)
        have e0 := k0 y
        have t1 := K11_.out y
        have t2 := K11S_.out y
        have t3 := K10C_.out y
        have hkz := HK1_.out
        have hbz := HB1_.out
        rw [HBD_.out] at hbz
        clear k0 k1 k9 k9s k9c k9z k9v K11_ K11S_ K10C_ HOWN_ HBL_ HK1_ HB1_ HBD_ e1
        generalize gr wr y = w3 at *
        have hit : hitL p k x = false := by unfold hitL; rw [decide_eq_false hp]; rfl
        rw [hit, if_neg (by simp)] at hkz
        rw [hit, Bool.false_and, Bool.false_or] at hbz
        clear hit t3 HBO_ HXQ_
        have hbs := hbl2.size
        obtain ⟨v', w4, hrun, ho3, hb3⟩ := elL.app x _ (by have := HLW_.out; omega) hown2 hbs
        rw [← hkz] at ho3
        have n1 : ¬ w.heap.size = w3.heap.size := by omega
        have n2 : ¬ g = w3.heap.size := fun e => by
          have := row_lt (w := w3) (b := g) (fun e => by rw [e] at t1; simp at t1)
          omega
        obtain ⟨_, a', c', rfl, _⟩ := elL.rows hown2
        obtain ⟨_, a'', c'', rfl, _⟩ := elL.rows ho3
        have hbl3 := hbl2.trans hb3
        clear hkz hown2 hb3 hbl2 HLW_ hbs
        have HRUN_ := hid hrun
        clear hrun
        have HO3_ := hid ho3
        clear ho3
        have HBL3_ := hid hbl3
        clear hbl3
        have HBZ_ := hid hbz
        clear hbz
        go_wp2_with (at_builtin; refine wpList_append_runE rfl _ _ 28 rfl _ _ rfl rfl HRUN_.out ?_)
        exact ⟨⟨j + 1, by omega, by go_num, HO3_.out, HBZ_.out, HBL3_.out⟩, by simp [intOf]; omega⟩
    · obtain rfl : j = r.ls.length := by omega
      have ht : r.ls.take r.ls.length = r.ls := List.take_of_length_le (Nat.le_refl _)
      rw [ht] at hown hbd
      have hlw : (scanL r.ls p k).length ≤ r.ls.length := List.length_filter_le _ _
      have e1 : row? wr (w.heap.size + 1) = pa p := (row_of_block (hbl.block _ l1)).trans Q1_.out
      have hX3 := HX_.out.below hbl
      have hc := known_c r s1 s2 s3 p (by omega) wr hX3
      clear hjt hj ht hX3
      have HC_ := hid hc
      clear hc
      have HOWN_ := hid hown
      clear hown
      have HBL_ := hid hbl
      clear hbl
      have HBD_ := hid hbd
      clear hbd
      go_wp2_with fail
      refine HC_.out.mono ?_
      rintro e' w3 ⟨rfl, b3⟩
      dsimp only
      have hbl3 := HBL_.out.trans (b3.mono HBL_.out.size)
      have zo := owns_below HOWN_.out b3
      obtain ⟨_, al, cl', rfl, _⟩ := elL.rows zo
      have z0 : row? w3 w.heap.size = rc r s1 s2 s3 := (row_of_block (hbl3.block _ l0)).trans Q0_.out
      have zp0 : own? w3 w.heap.size = true := (own_of_block (hbl3.block _ l0)).trans P0_.out
      have z1 : row? w3 (w.heap.size + 1) = pa p := (row_of_block (hbl3.block _ l1)).trans Q1_.out
      have zp1 : own? w3 (w.heap.size + 1) = true := (own_of_block (hbl3.block _ l1)).trans P1_.out
      have z2 : row? w3 (w.heap.size + 1 + 1) = rc zeroRB nilS nilS nilS := (row_of_block (hbl3.block _ l2)).trans Q2_.out
      have zp2 : own? w3 (w.heap.size + 1 + 1) = true := (own_of_block (hbl3.block _ l2)).trans P2_.out
      have zb := HB2_.out.trans (hbl3.mono HB2_.out.size)
      have zl : w2.heap.size ≤ w3.heap.size := hbl3.size
      have hsn3 := (H_.out.below zb).sn
      clear HC_ HOWN_ HBL_ b3 e0 e1 HX_ HB2_ hbl3
      cases hkn : knownR r p with
      | true =>
        have hfr : freshR r p k q = (⟨r.sent, r.sn, scanL r.ls p k ++ [⟨p, k, q⟩], r.hs⟩, true) := by
          unfold freshR
          rw [HKQ_.out, if_neg (by simp), if_neg (by rw [HBD_.out]; simp), if_neg (by rw [hkn]; simp), if_pos hkn]
        have zs := hsn3
        clear hsn3
        obtain ⟨v7, w7, hrun7, ho7, hb7, hc7⟩ := elL.app2 ⟨p, k, q⟩ _ (by omega) zo zl
        obtain ⟨L, hL⟩ : ∃ L, scanL r.ls p k ++ [(⟨p, k, q⟩ : LaR)] = L := ⟨_, rfl⟩
        rw [hL] at ho7 hfr
        clear hL
        obtain ⟨_, a7, c7, rfl, hr7⟩ := elL.rows ho7
        have n1 : ¬ w.heap.size = w3.heap.size := by omega
        have n2 : ¬ w.heap.size + 1 = w3.heap.size := by omega
        have t0 : row? w7 w.heap.size = rc ⟨r.sent, r.sn, r.ls, r.hs⟩ s1 s2 s3 := (row_of_block (hb7.block _ (by omega))).trans z0
        have tp0 : own? w7 w.heap.size = true := (own_of_block (hb7.block _ (by omega))).trans zp0
        have t2 : row? w7 (w.heap.size + 1 + 1) = rc zeroRB nilS nilS nilS := (row_of_block (hb7.block _ (by omega))).trans z2
        have tp2 : own? w7 (w.heap.size + 1 + 1) = true := (own_of_block (hb7.block _ (by omega))).trans zp2
        have hb7w : Below w.heap.size w w7 := zb.trans (hb7.mono (by omega))
        have hset := rc_set17 ⟨r.sent, r.sn, r.ls, r.hs⟩ s1 s2 s3 ⟨a7, c7⟩ L
        have hs7 : RowsIn pa zeroP 9 w7 s1.a r.sn := (H_.out.below hb7w).sn
        clear hb7 hc7 zs zb z2 zp2 zp0
        have HRUN7_ := hid hrun7
        clear hrun7
        have HR7_ := hid hr7
        clear hr7
        have HSET_ := hid hset
        clear hset
        have HB7W_ := hid hb7w
        clear hb7w
        have HS7_ := hid hs7
        clear hs7
        have ZO_ := hid zo
        clear zo
        have ZL_ := hid zl
        clear zl
        have HFR_ := hid hfr
        clear hfr
        go_upto_region 17 with (at_builtin; refine wpList_append_runE rfl _ _ 28 rfl _ _ rfl rfl HRUN7_.out ?_)
        have c8 : Chg (fun b => b = w.heap.size ∨ b = w.heap.size + 1 + 1) w7 (w7.setCell ⟨w.heap.size, 17, none⟩ (.slice a7 L.length c7)) := (Chg.refl (fun b => b = w.heap.size ∨ b = w.heap.size + 1 + 1) w7).setCell (p := ⟨w.heap.size, 17, none⟩) (.inr (.inl rfl)) _
        have u0 : row? (w7.setCell ⟨w.heap.size, 17, none⟩ (.slice a7 L.length c7)) w.heap.size = rc ⟨r.sent, r.sn, L, r.hs⟩ s1 ⟨a7, c7⟩ s3 := by rw [row_setCell, if_pos rfl, t0]; exact HSET_.out
        have u2 : row? (w7.setCell ⟨w.heap.size, 17, none⟩ (.slice a7 L.length c7)) (w.heap.size + 1 + 1) = rc zeroRB nilS nilS nilS := by rw [row_setCell, if_neg (by show ¬ w.heap.size + 1 + 1 = w.heap.size; omega)]; exact t2
        have up2 : own? (w7.setCell ⟨w.heap.size, 17, none⟩ (.slice a7 L.length c7)) (w.heap.size + 1 + 1) = true := by rw [own_setCell]; exact tp2
        generalize w7.setCell ⟨w.heap.size, 17, none⟩ (.slice a7 L.length c7) = w8 at *
        have C8_ := hid c8
        clear c8
        go_wp2
        have c9 := C8_.out.setRow (b := w.heap.size + 1 + 1) (.inr (.inr rfl)) (rc ⟨r.sent, r.sn, L, r.hs⟩ s1 ⟨a7, c7⟩ s3)
        have e9 : row? (w8.setRow (w.heap.size + 1 + 1) (rc ⟨r.sent, r.sn, L, r.hs⟩ s1 ⟨a7, c7⟩ s3)) (w.heap.size + 1 + 1) = rc ⟨r.sent, r.sn, L, r.hs⟩ s1 ⟨a7, c7⟩ s3 := by rw [row_setRow _ _ _ _ (by rw [u2]; simp), if_pos rfl]
        generalize w8.setRow (w.heap.size + 1 + 1) (rc ⟨r.sent, r.sn, L, r.hs⟩ s1 ⟨a7, c7⟩ s3) = w9 at *
        have hb9 : Below w.heap.size w w9 := HB7W_.out.trans (c9.below HB7W_.out.size (fun k hk e => by omega))
        have hno : ∀ b, b < w7.heap.size → (b = w.heap.size ∨ b = w.heap.size + 1 + 1) → ∀ v ∈ row? w7 b, ∀ i, v ≠ .int .u8 i := fun b _ hb => by
          rcases hb with rfl | rfl
          · rw [t0]; exact rc_nou _ _ _ _
          · rw [t2]; exact rc_nou _ _ _ _
        refine bodyPost_ret (results_cell2 rfl rfl (v := .agg (rc ⟨r.sent, r.sn, L, r.hs⟩ s1 ⟨a7, c7⟩ s3)) (by rw [ldRB _ _ _ (by rw [e9]; simp), e9, rc_all])) rfl ⟨s1, ⟨a7, c7⟩, s3, by rw [HFR_.out]; rfl, ?_, hb9⟩
        rw [HFR_.out]
        exact ⟨HS7_.out.noU (by decide) pa_u c9 hno, HR7_.out.noU (by decide) la_u c9 hno, (H_.out.below hb9).hs⟩
      | false =>
        by_cases h16 : 16 ≤ r.sn.length
        · have hfr : freshR r p k q = (r, false) := by
            unfold freshR
            rw [HKQ_.out, if_neg (by simp), if_neg (by rw [HBD_.out]; simp), if_pos ⟨hkn, h16⟩]
          have h16' : (16 : Int) ≤ (r.sn.length : Int) := by omega
          have HFR_ := hid hfr
          clear hfr
          have ZB_ := hid zb
          clear zb
          have ZO_ := hid zo
          clear zo
          go_wp2
          obtain ⟨W2, hE, e1, _, b3, _⟩ := set_own (B := rc r s1 s2 s3) (by omega) z2 zp2 (by simp) ZB_.out
          rw [hE]
          exact bodyPost_ret (results_cell2 rfl rfl (v := .agg (rc r s1 s2 s3)) (by rw [ldRB _ _ _ (by rw [e1]; simp), e1, rc_all])) rfl ⟨s1, s2, s3, by rw [HFR_.out]; rfl, by rw [HFR_.out]; exact H_.out.below b3, b3⟩
        · have hfr : freshR r p k q = (⟨r.sent, r.sn ++ [p], scanL r.ls p k ++ [⟨p, k, q⟩], r.hs⟩, true) := by
            unfold freshR
            rw [HKQ_.out, if_neg (by simp), if_neg (by rw [HBD_.out]; simp), if_neg (fun e => h16 e.2), if_neg (by rw [hkn]; simp)]
          have h16' : ¬ (16 : Int) ≤ (r.sn.length : Int) := by omega
          obtain ⟨v4, w4, hrun4, ho4, hb4⟩ := elP.all r.sn (by omega) s1.a s1.c hsn3
          obtain ⟨a4, c4, rfl, hr4, _, _⟩ := elP.rows2 ho4
          obtain ⟨v5, w5, hrun5, ho5, hb5⟩ := elP.app p r.sn (by omega) ho4 hb4.size
          obtain ⟨M, hM⟩ : ∃ M, r.sn ++ [p] = M := ⟨_, rfl⟩
          rw [hM] at ho5 hfr
          clear hM
          obtain ⟨a5, c5, rfl, hr5, hlo5, _⟩ := elP.rows2 ho5
          have hb35 : Below w3.heap.size w3 w5 := hb4.trans hb5
          have m1 : ¬ w.heap.size = w3.heap.size := by omega
          have m2 : ¬ w.heap.size + 1 = w3.heap.size := by omega
          have hz4 := hb4.size
          have hz5 := hb5.size
          have m3 : ¬ w.heap.size = w4.heap.size := by omega
          have m4 : ¬ w.heap.size + 1 = w4.heap.size := by omega
          have y1 : row? w4 (w.heap.size + 1) = pa p := (row_of_block (hb4.block _ (by omega))).trans z1
          have x0 : row? w5 w.heap.size = rc r s1 s2 s3 := (row_of_block (hb35.block _ (by omega))).trans z0
          have xp0 : own? w5 w.heap.size = true := (own_of_block (hb35.block _ (by omega))).trans zp0
          have x1 : row? w5 (w.heap.size + 1) = pa p := (row_of_block (hb35.block _ (by omega))).trans z1
          have x2 : row? w5 (w.heap.size + 1 + 1) = rc zeroRB nilS nilS nilS := (row_of_block (hb35.block _ (by omega))).trans z2
          have xp2 : own? w5 (w.heap.size + 1 + 1) = true := (own_of_block (hb35.block _ (by omega))).trans zp2
          have xo := owns_below zo hb35
          have hbo := elL.rows2 zo
          have xb := zb.trans (hb35.mono (by omega))
          have xset := rc_set16 r s1 s2 s3 ⟨a5, c5⟩ M
          clear ho4 hr4 ho5 hb4 hb5 z2 zp2 zb zo hb35 zp1 hsn3
          have HRUN4_ := hid hrun4
          clear hrun4
          have HRUN5_ := hid hrun5
          clear hrun5
          have HR5_ := hid hr5
          clear hr5
          have HLO5_ := hid hlo5
          clear hlo5
          have XSET_ := hid xset
          clear xset
          have XB_ := hid xb
          clear xb
          have XO_ := hid xo
          clear xo
          have HBO_ := hid hbo
          clear hbo
          have X0_ := hid x0
          clear x0
          have XP0_ := hid xp0
          clear xp0
          have X1_ := hid x1
          clear x1
          have X2_ := hid x2
          clear x2
          have XP2_ := hid xp2
          clear xp2
          go_upto_region 15 with (at_builtin; refine wpList_append_runE rfl _ _ 27 rfl _ _ rfl rfl HRUN4_.out ?_)
          have x0 := X0_.out
          have xp0 := XP0_.out
          clear z0 z1 zp0
          go_upto_region 16 with (at_builtin; refine wpList_append_runE rfl _ _ 27 rfl _ _ rfl rfl HRUN5_.out ?_)
          have c6 : Chg (· = w.heap.size) w5 (w5.setCell ⟨w.heap.size, 16, none⟩ (.slice a5 M.length c5)) := (Chg.refl (· = w.heap.size) w5).setCell (p := ⟨w.heap.size, 16, none⟩) (.inr rfl) _
          have z0 : row? (w5.setCell ⟨w.heap.size, 16, none⟩ (.slice a5 M.length c5)) w.heap.size = rc ⟨r.sent, M, r.ls, r.hs⟩ ⟨a5, c5⟩ s2 s3 := by rw [row_setCell, if_pos rfl, x0]; exact XSET_.out
          have zp0 : own? (w5.setCell ⟨w.heap.size, 16, none⟩ (.slice a5 M.length c5)) w.heap.size = true := by rw [own_setCell]; exact xp0
          generalize w5.setCell ⟨w.heap.size, 16, none⟩ (.slice a5 M.length c5) = w6 at *
          have h56 := c6.size
          have z1 : row? w6 (w.heap.size + 1) = pa p := (c6.row (by omega) (by show ¬ _ = _; omega)).trans X1_.out
          have z2 : row? w6 (w.heap.size + 1 + 1) = rc zeroRB nilS nilS nilS := (c6.row (by omega) (by show ¬ _ = _; omega)).trans X2_.out
          have zp2 : own? w6 (w.heap.size + 1 + 1) = true := (c6.own (by omega) (by show ¬ _ = _; omega)).trans XP2_.out
          have zo := owns_chg XO_.out c6 (fun b hb e => by omega)
          have zb := XB_.out.trans (c6.below XB_.out.size (fun k hk e => by omega))
          have zl : w2.heap.size ≤ w6.heap.size := by omega
          have zs := HR5_.out.keptB (by decide) c6 (fun b hb e => by have := (HLO5_.out b hb).1; omega)
          have hap : ∀ b, a5.map (·.block) = some b → ¬ Value.ownBlock (.slice al (scanL r.ls p k).length cl') = some b := fun b hb e => by
            obtain ⟨_, _, e1, _, h9, h10⟩ := HBO_.out
            rw [h10] at e
            have := (h9 b e).2
            have := (HLO5_.out b hb).1
            omega
          clear x0 xp0 X0_ XP0_ X1_ X2_ XP2_ XO_ XB_ XSET_ HR5_ HRUN4_ HRUN5_ c6 y1
          have HAP_ := hid hap
          clear hap
          obtain ⟨v7, w7, hrun7, ho7, hb7, hc7⟩ := elL.app2 ⟨p, k, q⟩ _ (by omega) zo zl
          obtain ⟨L, hL⟩ : ∃ L, scanL r.ls p k ++ [(⟨p, k, q⟩ : LaR)] = L := ⟨_, rfl⟩
          rw [hL] at ho7 hfr
          clear hL
          obtain ⟨_, a7, c7, rfl, hr7⟩ := elL.rows ho7
          have n1 : ¬ w.heap.size = w6.heap.size := by omega
          have n2 : ¬ w.heap.size + 1 = w6.heap.size := by omega
          have t0 : row? w7 w.heap.size = rc ⟨r.sent, M, r.ls, r.hs⟩ ⟨a5, c5⟩ s2 s3 := (row_of_block (hb7.block _ (by omega))).trans z0
          have tp0 : own? w7 w.heap.size = true := (own_of_block (hb7.block _ (by omega))).trans zp0
          have t2 : row? w7 (w.heap.size + 1 + 1) = rc zeroRB nilS nilS nilS := (row_of_block (hb7.block _ (by omega))).trans z2
          have tp2 : own? w7 (w.heap.size + 1 + 1) = true := (own_of_block (hb7.block _ (by omega))).trans zp2
          have hb7w : Below w.heap.size w w7 := zb.trans (hb7.mono (by omega))
          have hset := rc_set17 ⟨r.sent, M, r.ls, r.hs⟩ ⟨a5, c5⟩ s2 s3 ⟨a7, c7⟩ L
          have hs7 : RowsIn pa zeroP 9 w7 (⟨a5, c5⟩ : Sl).a M := zs.keptB (by decide) hc7 (fun b hb => HAP_.out b hb)
          clear hb7 hc7 zs zb z2 zp2 zp0
          have HRUN7_ := hid hrun7
          clear hrun7
          have HR7_ := hid hr7
          clear hr7
          have HSET_ := hid hset
          clear hset
          have HB7W_ := hid hb7w
          clear hb7w
          have HS7_ := hid hs7
          clear hs7
          have ZO_ := hid zo
          clear zo
          have ZL_ := hid zl
          clear zl
          have HFR_ := hid hfr
          clear hfr
          go_upto_region 17 with (at_builtin; refine wpList_append_runE rfl _ _ 28 rfl _ _ rfl rfl HRUN7_.out ?_)
          have c8 : Chg (fun b => b = w.heap.size ∨ b = w.heap.size + 1 + 1) w7 (w7.setCell ⟨w.heap.size, 17, none⟩ (.slice a7 L.length c7)) := (Chg.refl (fun b => b = w.heap.size ∨ b = w.heap.size + 1 + 1) w7).setCell (p := ⟨w.heap.size, 17, none⟩) (.inr (.inl rfl)) _
          have u0 : row? (w7.setCell ⟨w.heap.size, 17, none⟩ (.slice a7 L.length c7)) w.heap.size = rc ⟨r.sent, M, L, r.hs⟩ ⟨a5, c5⟩ ⟨a7, c7⟩ s3 := by rw [row_setCell, if_pos rfl, t0]; exact HSET_.out
          have u2 : row? (w7.setCell ⟨w.heap.size, 17, none⟩ (.slice a7 L.length c7)) (w.heap.size + 1 + 1) = rc zeroRB nilS nilS nilS := by rw [row_setCell, if_neg (by show ¬ w.heap.size + 1 + 1 = w.heap.size; omega)]; exact t2
          have up2 : own? (w7.setCell ⟨w.heap.size, 17, none⟩ (.slice a7 L.length c7)) (w.heap.size + 1 + 1) = true := by rw [own_setCell]; exact tp2
          generalize w7.setCell ⟨w.heap.size, 17, none⟩ (.slice a7 L.length c7) = w8 at *
          have C8_ := hid c8
          clear c8
          go_wp2
          have c9 := C8_.out.setRow (b := w.heap.size + 1 + 1) (.inr (.inr rfl)) (rc ⟨r.sent, M, L, r.hs⟩ ⟨a5, c5⟩ ⟨a7, c7⟩ s3)
          have e9 : row? (w8.setRow (w.heap.size + 1 + 1) (rc ⟨r.sent, M, L, r.hs⟩ ⟨a5, c5⟩ ⟨a7, c7⟩ s3)) (w.heap.size + 1 + 1) = rc ⟨r.sent, M, L, r.hs⟩ ⟨a5, c5⟩ ⟨a7, c7⟩ s3 := by rw [row_setRow _ _ _ _ (by rw [u2]; simp), if_pos rfl]
          generalize w8.setRow (w.heap.size + 1 + 1) (rc ⟨r.sent, M, L, r.hs⟩ ⟨a5, c5⟩ ⟨a7, c7⟩ s3) = w9 at *
          have hb9 : Below w.heap.size w w9 := HB7W_.out.trans (c9.below HB7W_.out.size (fun k hk e => by omega))
          have hno : ∀ b, b < w7.heap.size → (b = w.heap.size ∨ b = w.heap.size + 1 + 1) → ∀ v ∈ row? w7 b, ∀ i, v ≠ .int .u8 i := fun b _ hb => by
            rcases hb with rfl | rfl
            · rw [t0]; exact rc_nou _ _ _ _
            · rw [t2]; exact rc_nou _ _ _ _
          refine bodyPost_ret (results_cell2 rfl rfl (v := .agg (rc ⟨r.sent, M, L, r.hs⟩ ⟨a5, c5⟩ ⟨a7, c7⟩ s3)) (by rw [ldRB _ _ _ (by rw [e9]; simp), e9, rc_all])) rfl ⟨⟨a5, c5⟩, ⟨a7, c7⟩, s3, by rw [HFR_.out]; rfl, ?_, hb9⟩
          rw [HFR_.out]
          exact ⟨HS7_.out.noU (by decide) pa_u c9 hno, HR7_.out.noU (by decide) la_u c9 hno, (H_.out.below hb9).hs⟩
end Go.Proofs.Ytoblgdjjpbnemaa
