/-
  The walk of Turn. No condition.
-/
import Derived.Test.YtbdpnmocbpplbaaQuN
namespace Go.Proofs.Ytbdpnmocbpplbaa
open Go.RowKit Go.Conc Go.Shelf

theorem xor_all : ∀ n : Fin 256, IntKind.u8.wrap ((BitVec.ofInt 8 255 ^^^ BitVec.ofInt 8 (n.val : Int)).toNat : Int) = 255 - (n.val : Int) := by decide +kernel
@[go_sem high] theorem run_xor8 (w : World) (n : Int) (h0 : 0 ≤ n) (h1 : n < 256) : (Op.unary .xor (.int .u8 n)).run Try.prog w = .ok (.int .u8 (255 - n)) w := by
  obtain ⟨m, rfl⟩ : ∃ m : Nat, n = m := ⟨n.toNat, by omega⟩
  have hx := xor_all ⟨m, by omega⟩
  show Result.ok (Value.int .u8 (IntKind.u8.wrap ((BitVec.ofInt 8 255 ^^^ BitVec.ofInt 8 (m : Int)).toNat : Int))) w = _
  rw [hx]
theorem bits_xor (n : Int) (h0 : 0 ≤ n) (h1 : n < 256) : bits BinOp.xor .u8 (if IntKind.u8.signed = true then -1 else IntKind.u8.max) n = 255 - n := by
  obtain ⟨m, rfl⟩ : ∃ m : Nat, n = m := ⟨n.toNat, by omega⟩
  exact xor_all ⟨m, by omega⟩
/-- An item with a byte turned. -/
def turnI (x : Itm) (at_ : Int) : Itm := ⟨x.k, x.bs.set at_.toNat (255 - x.bs.getD at_.toNat 0)⟩
def turnsI (x : Itm) (at_ : Int) : Bool := decide (0 ≤ at_ ∧ at_ < x.bs.length)
def gT (p at_ : Int) (k : Nat) (x : Itm) : Itm := if (k : Int) = p ∧ turnsI x at_ = true then turnI x at_ else x
def okI (x : Itm) : Prop := ∀ j, j < x.bs.length → 0 ≤ x.bs.getD j 0 ∧ x.bs.getD j 0 < 256
theorem gT_len (p at_ : Int) (k : Nat) (x : Itm) : (gT p at_ k x).bs.length = x.bs.length := by
  unfold gT turnI
  split <;> simp
def doneT (p at_ : Int) (xs : List Itm) (k : Nat) : Bool := decide (0 ≤ p ∧ p < k) && turnsI (xs.getD p.toNat zeroI) at_
/-- What Turn's closure keeps: the number and the place that it looks for, whether it turned. -/
structure JT (kc ac dc : Nat) (p at_ : Int) (xs : List Itm) (k : Nat) (W : World) : Prop where
  rk : row? W kc = #[.int .i64 p]
  ok : own? W kc = true
  ra : row? W ac = #[.int .i64 at_]
  oa : own? W ac = true
  rd : row? W dc = #[.bool (doneT p at_ xs k)]
  od : own? W dc = true
  ne : kc ≠ dc ∧ ac ≠ dc
theorem JT.kept {kc ac dc : Nat} {p at_ : Int} {xs : List Itm} {k : Nat} {W W' : World} (h : JT kc ac dc p at_ xs k W) {S : Nat → Prop} (hc : Chg S W W') (h1 : ¬ S kc) (h2 : ¬ S ac) (h3 : ¬ S dc) : JT kc ac dc p at_ xs k W' :=
  ⟨(hc.row (own_lt h.ok) h1).trans h.rk, (hc.own (own_lt h.ok) h1).trans h.ok, (hc.row (own_lt h.oa) h2).trans h.ra, (hc.own (own_lt h.oa) h2).trans h.oa, (hc.row (own_lt h.od) h3).trans h.rd, (hc.own (own_lt h.od) h3).trans h.od, h.ne⟩
theorem RowsAt.set {w w' : World} {b off : Nat} {bs : List Int} (h : RowsAt b1 0 1 w b off bs) (j : Nat) (hj : j < bs.length) (y : Int) (hr : row? w' b = (row? w b).setIfInBounds (off + j) (.int .u8 y)) : RowsAt b1 0 1 w' b off (bs.set j y) := by
  intro i hi
  rw [List.length_set] at hi
  obtain ⟨h1, h2⟩ := h i hi
  rw [hr]
  refine ⟨by simpa using h1, ?_⟩
  have hb : (sub (row? w b) (off + i * 1) 1)[0]? = some (.int .u8 (bs.getD i 0)) := by rw [h2]; rfl
  unfold sub at hb ⊢
  rw [Array.getElem?_extract, if_pos (by omega)] at hb
  apply Array.ext_getElem?
  intro m
  rw [Array.getElem?_extract]
  by_cases hm : m < 1
  · obtain rfl : m = 0 := by omega
    rw [if_pos (by simp; omega), Array.getElem?_setIfInBounds]
    by_cases e : j = i
    · subst e
      rw [if_pos (by omega), if_pos (by omega)]
      simp [b1, hj]
    · rw [if_neg (by omega), hb]
      simp [b1, List.getElem?_set, e]
  · rw [if_neg (by omega), Array.getElem?_eq_none (by simp [b1]; omega)]
set_option maxRecDepth 100000 in
set_option maxHeartbeats 1000000 in
theorem turn1_c {kc ac dc : Nat} {p at_ : Int} {xs : List Itm} (k : Nat) (hk : k < xs.length) (hok : okI (xs.getD k zeroI)) (v : Value) (W : World) (hJ : JT kc ac dc p at_ xs k W) (hx : ItmIn W v (xs.getD k zeroI)) (hoff : ∀ b, blkOf v = some b → ¬ (b = dc ∨ b = kc ∨ b = ac) ∧ own? W b = true) :
    Calls Try.prog 27 #[.int .i64 k, v, .pointer (some ⟨kc, 0, none⟩), .pointer (some ⟨ac, 0, none⟩), .pointer (some ⟨dc, 0, none⟩)] W fun e W' => e = .returned (.tuple #[v, .bool true]) ∧ JT kc ac dc p at_ xs (k + 1) W' ∧ ItmIn W' v (gT p at_ k (xs.getD k zeroI)) ∧ Chg (fun b => b = dc ∨ blkOf v = some b) W W' := by
  have hdk : ∀ (h : (k : Int) = p), xs.getD p.toNat zeroI = xs.getD k zeroI := fun h => by rw [← h, Int.toNat_natCast]
  have hds : (k : Int) ≠ p → doneT p at_ xs (k + 1) = doneT p at_ xs k := fun h => by
    unfold doneT
    congr 1
    exact decide_eq_decide.2 (by omega)
  have hd0 : (k : Int) = p → turnsI (xs.getD k zeroI) at_ = false → doneT p at_ xs (k + 1) = doneT p at_ xs k := fun h h1 => by
    unfold doneT
    rw [hdk h, h1, Bool.and_false, Bool.and_false]
  have hd1 : (k : Int) = p → turnsI (xs.getD k zeroI) at_ = true → doneT p at_ xs (k + 1) = true := fun h h1 => by
    unfold doneT
    rw [hdk h, h1, decide_eq_true (by omega)]
    rfl
  generalize xs.getD k zeroI = x at *
  have hxx := hx
  obtain ⟨a, c, rfl, hra⟩ := hxx
  have HDK_ := hid hdk
  clear hdk
  have HDS_ := hid hds
  clear hds
  have HD0_ := hid hd0
  clear hd0
  have HD1_ := hid hd1
  clear hd1
  have HOK_ := hid hok
  clear hok
  go_enter Try.func27, Try.ntmps27
  go_upto_region 1 with (fail)
  obtain ⟨W1, hW1⟩ : ∃ W1, (W.alloc (.cells (ic x.k a x.bs.length c) 32)).alloc (.cells (ic 0 none 0 0) 32) = W1 := ⟨_, rfl⟩
  have b1' : Below W.heap.size W W1 := by rw [← hW1]; exact ((Below.refl _ _).alloc (Nat.le_refl _) _).alloc (by simp) _
  have r6 : row? W1 W.heap.size = ic x.k a x.bs.length c := by rw [← hW1]; simp [row_alloc, rowOf]
  have r7 : row? W1 (W.heap.size + 1) = ic 0 none 0 0 := by rw [← hW1]; simp [row_alloc, rowOf]
  have o7 : own? W1 (W.heap.size + 1) = true := by rw [← hW1]; simp [own_alloc, ownOf]
  rw [hW1]
  clear hW1
  have j1 := hJ.kept (S := fun _ => False) (.of_below b1') id id id
  have lk := own_lt hJ.ok
  have la := own_lt hJ.oa
  have ld := own_lt hJ.od
  have rk := j1.rk
  have ra := j1.ra
  have rd := j1.rd
  have od := j1.od
  obtain ⟨nkd, nad⟩ := j1.ne
  have s7 := own_lt o7
  by_cases hkp : (k : Int) = p
  · have hx0 : ∀ h : turnsI x at_ = false, gT p at_ k x = x := fun h => if_neg (fun h2 => by rw [h] at h2; cases h2.2)
    rcases (show at_ < 0 ∨ 0 ≤ at_ by omega) with ha0 | ha0
    · have ht : turnsI x at_ = false := decide_eq_false (by omega)
      have hg := hx0 ht
      have hdd := HD0_.out hkp ht
      have ha1 : ¬ 0 ≤ at_ := by omega
      have ha2 : decide (0 ≤ at_) = false := decide_eq_false ha1
      clear hx0
      have HX_ := hid hx
      clear hx
      have HOFF_ := hid hoff
      clear hoff
      have HJ_ := hid hJ
      clear hJ
      have J1_ := hid j1
      clear j1
      have B1'_ := hid b1'
      clear b1'
      have HG_ := hid hg
      clear hg
      have HDD_ := hid hdd
      clear hdd
      have HRA_ := hid hra
      clear hra
      go_wp2
      have c3 : Chg (fun b => b = W.heap.size + 1) W1 (W1.setRow (W.heap.size + 1) (ic x.k a x.bs.length c)) := (Chg.refl (fun b => b = W.heap.size + 1) W1).setRow (.inr rfl) _
      have r8 : row? (W1.setRow (W.heap.size + 1) (ic x.k a x.bs.length c)) (W.heap.size + 1) = ic x.k a x.bs.length c := by rw [row_setRow _ _ _ _ (by rw [r7]; simp), if_pos rfl]
      generalize W1.setRow (W.heap.size + 1) (ic x.k a x.bs.length c) = w4 at *
      have cw : Chg (fun _ => False) W w4 := (Chg.of_below B1'_.out).then' c3 (fun i e h => by omega)
      have j4 := HJ_.out.kept cw id id id
      refine bodyPost_ret (results_cell2 rfl rfl (v := .agg (ic x.k a x.bs.length c)) (by rw [ldItm _ _ _ (by rw [r8]; simp), r8]; simp)) rfl ⟨rfl, ⟨j4.rk, j4.ok, j4.ra, j4.oa, by rw [HDD_.out]; exact j4.rd, j4.od, j4.ne⟩, by rw [HG_.out]; exact HX_.out.kept cw (fun _ _ h => h.elim), cw.mono (fun _ _ h => h.elim)⟩
    · rcases (show at_ < (x.bs.length : Int) ∨ (x.bs.length : Int) ≤ at_ by omega) with hal | hal
      · obtain ⟨j, rfl⟩ : ∃ j : Nat, at_ = (j : Int) := ⟨at_.toNat, by omega⟩
        have hj : j < x.bs.length := by omega
        have ht : turnsI x (j : Int) = true := decide_eq_true (by omega)
        have hg : gT p (j : Int) k x = ⟨x.k, x.bs.set j (255 - x.bs.getD j 0)⟩ := by
          unfold gT
          rw [if_pos ⟨hkp, ht⟩]
          unfold turnI
          rw [Int.toNat_natCast]
        have hdd := HD1_.out hkp ht
        obtain ⟨hy0, hy1⟩ := HOK_.out j hj
        have hne : x.bs ≠ [] := by intro e; rw [e] at hj; simp at hj
        obtain ⟨g, off, rfl, hrow⟩ := hra.at hne
        obtain ⟨hog, howg⟩ := hoff g (by simp)
        have hrow1 : RowsAt b1 0 1 W1 g off x.bs := hrow.same (Below_row b1' (own_lt howg))
        have howg1 := (Below_own b1' (own_lt howg)).trans howg
        have hlg := own_lt howg
        have hcell := bytes_cells hrow1 j (.int .u8 (x.bs.getD j 0)) (by simp [byts, hj])
        rw [add_pl, cell_row] at hcell
        have ha1 : decide (0 ≤ (j : Int)) = true := decide_eq_true ha0
        have ha2 : decide ((j : Int) < (x.bs.length : Int)) = true := decide_eq_true hal
        have hz : off + j < (row? W1 g).size := (Array.getElem?_eq_some_iff.1 hcell).1
        generalize hyv : x.bs.getD j 0 = y at *
        have HZ_ := hid hz
        clear hz
        have HCELL_ := hid hcell
        clear hcell
        clear hx0 hrow
        have HX_ := hid hx
        clear hx
        have HOFF_ := hid hoff
        clear hoff
        have HJ_ := hid hJ
        clear hJ
        have J1_ := hid j1
        clear j1
        have B1'_ := hid b1'
        clear b1'
        have HG_ := hid hg
        clear hg
        have HDD_ := hid hdd
        clear hdd
        have HRA_ := hid hra
        clear hra
        have HROW1_ := hid hrow1
        clear hrow1
        go_upto_region 2 with (fail)
        have g6 := gr_row r6 (row_lt (by rw [r6]; simp))
        have gra := gr_row ra (row_lt (by rw [ra]; simp))
        have gcell : ∀ d, (row? (gr W1 d) g)[off + j]? = some (.int .u8 y) := fun d => by rw [Below_row (gr_below W1 d) (own_lt howg1)]; exact HCELL_.out
        have gow := gr_own howg1
        rw [gr_self W1]
        refine wp_region_gr_tail W1 10 (by kernel_rfl) (by kernel_rfl) ⟨_, rfl⟩ ?_
        simp only [List.take_succ_cons, List.take_zero, List.drop_succ_cons, List.drop_zero]
        repeat (go_big_quiet_step (fail))
        refine wpQuiet_nil ?_
        rintro _ ⟨d1, rfl⟩
        rw [bits_xor y hy0 hy1]
        have b2 : Below W.heap.size W (gr W1 d1) := B1'_.out.trans ((gr_below W1 d1).mono B1'_.out.size)
        have hb2 := gr_below W1 d1
        have q6 := g6 d1
        have q7 := (Below_row hb2 s7).trans r7
        have qo7 := (Below_own hb2 s7).trans o7
        have qrow := HROW1_.out.same (Below_row hb2 (own_lt howg1))
        have qow := gow d1
        have qz := HZ_.out
        rw [← Below_row hb2 (own_lt howg1)] at qz
        obtain ⟨j2, jrest⟩ : JT kc ac dc p (j : Int) xs k (gr W1 d1) ∧ True := ⟨J1_.out.kept (S := fun _ => False) (.of_below hb2) id id id, trivial⟩
        have sz1 := hb2.size
        clear g6 gra gcell gow hb2 r6 r7 o7 HCELL_ HZ_ HROW1_ B1'_
        generalize gr W1 d1 = w1 at *
        have B2_ := hid b2
        clear b2
        have J2_ := hid j2
        clear j2
        have QROW_ := hid qrow
        clear qrow
        go_upto_region 3 with (fail)
        have c2 : Chg (fun b => b = g) w1 (w1.setCell ⟨g, off + j, none⟩ (.int .u8 (255 - y))) := (Chg.refl (fun b => b = g) w1).setCell (p := ⟨g, off + j, none⟩) (.inr rfl) _
        have hrg : row? (w1.setCell ⟨g, off + j, none⟩ (.int .u8 (255 - y))) g = (row? w1 g).setIfInBounds (off + j) (.int .u8 (255 - y)) := by rw [row_setCell, if_pos rfl]
        have hown2 : ∀ b, own? w1 b = true → own? (w1.setCell ⟨g, off + j, none⟩ (.int .u8 (255 - y))) b = true := fun b h => by rw [own_setCell]; exact h
        generalize w1.setCell ⟨g, off + j, none⟩ (.int .u8 (255 - y)) = w2 at *
        have hrow2 := RowsAt.set QROW_.out j hj (255 - y) hrg
        have j2 := J2_.out.kept c2 (fun e => hog (.inr (.inl e.symm))) (fun e => hog (.inr (.inr e.symm))) (fun e => hog (.inl e.symm))
        have p6 := (c2.row (row_lt (by rw [q6]; simp)) (by omega)).trans q6
        have p7 := (c2.row (own_lt qo7) (by omega)).trans q7
        have po7 := hown2 _ qo7
        have rd2 := j2.rd
        have od2 := j2.od
        have cw2 : Chg (fun b => b = dc ∨ b = g) W w2 := (Chg.of_below B2_.out).trans (c2.mono (fun _ _ h => .inr h))
        have howg2 := hown2 _ qow
        have sz2 := c2.size
        clear c2 hrg hown2 q6 q7 qo7 qow rd od QROW_ J2_ B2_
        have HROW2_ := hid hrow2
        clear hrow2
        have J2_ := hid j2
        clear j2
        have CW2_ := hid cw2
        clear cw2
        go_upto_region 4 with (fail)
        have c3 : Chg (fun b => b = dc) w2 (w2.setCell ⟨dc, 0, none⟩ (.bool true)) := (Chg.refl (fun b => b = dc) w2).setCell (p := ⟨dc, 0, none⟩) (.inr rfl) _
        have hrd : row? (w2.setCell ⟨dc, 0, none⟩ (.bool true)) dc = #[.bool true] := by
          rw [row_setCell, if_pos rfl, rd2]
          rfl
        have hown3 : ∀ b, own? w2 b = true → own? (w2.setCell ⟨dc, 0, none⟩ (.bool true)) b = true := fun b h => by rw [own_setCell]; exact h
        generalize w2.setCell ⟨dc, 0, none⟩ (.bool true) = w3 at *
        have t6 := (c3.row (row_lt (by rw [p6]; simp)) (by omega)).trans p6
        have t7 := (c3.row (own_lt po7) (by omega)).trans p7
        have to7 := hown3 _ po7
        have sz3 := c3.size
        clear p6 p7 po7 rd2
        have C3_ := hid c3
        clear c3
        have HRD_ := hid hrd
        clear hrd
        have HOWN3_ := hid hown3
        clear hown3
        go_wp2
        have c4 : Chg (fun b => b = W.heap.size + 1) w3 (w3.setRow (W.heap.size + 1) (ic x.k (some ⟨g, off, none⟩) x.bs.length c)) := (Chg.refl (fun b => b = W.heap.size + 1) w3).setRow (.inr rfl) _
        have r8 : row? (w3.setRow (W.heap.size + 1) (ic x.k (some ⟨g, off, none⟩) x.bs.length c)) (W.heap.size + 1) = ic x.k (some ⟨g, off, none⟩) x.bs.length c := by rw [row_setRow _ _ _ _ (by rw [t7]; simp), if_pos rfl]
        have hown4 : ∀ b, own? w3 b = true → own? (w3.setRow (W.heap.size + 1) (ic x.k (some ⟨g, off, none⟩) x.bs.length c)) b = true := fun b h => by rw [own_setRow]; exact h
        generalize w3.setRow (W.heap.size + 1) (ic x.k (some ⟨g, off, none⟩) x.bs.length c) = w4 at *
        have cw : Chg (fun b => b = dc ∨ b = g) W w4 := (CW2_.out.trans (C3_.out.mono (fun _ _ h => .inl h))).then' c4 (fun i e h => by omega)
        have hrow4 : RowsAt b1 0 1 w4 g off (x.bs.set j (255 - y)) := HROW2_.out.same ((c4.row (by omega) (by omega)).trans (C3_.out.row (by omega) (fun e => hog (.inl e))))
        have hro : ∀ b, b < W.heap.size → b ≠ dc → row? w4 b = row? w2 b := fun b hb hbd => (c4.row (by omega) (by omega)).trans (C3_.out.row (by omega) hbd)
        have how : ∀ b, own? w2 b = true → own? w4 b = true := fun b h => hown4 b (HOWN3_.out b h)
        refine bodyPost_ret (results_cell2 rfl rfl (v := .agg (ic x.k (some ⟨g, off, none⟩) x.bs.length c)) (by rw [ldItm _ _ _ (by rw [r8]; simp), r8]; simp)) rfl ⟨rfl, ⟨(hro _ lk nkd).trans J2_.out.rk, how _ J2_.out.ok, (hro _ la nad).trans J2_.out.ra, how _ J2_.out.oa, ?_, how _ od2, ⟨nkd, nad⟩⟩, ?_, ?_⟩
        · rw [HDD_.out]
          exact (c4.row (by omega) (by omega)).trans HRD_.out
        · rw [HG_.out]
          exact ⟨some ⟨g, off, none⟩, c, by simp, .inr ⟨g, off, rfl, hrow4⟩⟩
        · exact cw.mono (fun b _ h => h.imp id (fun e => by rw [e]; simp))
      · have ht : turnsI x at_ = false := decide_eq_false (by omega)
        have hg := hx0 ht
        have hdd := HD0_.out hkp ht
        have ha1 : decide (0 ≤ at_) = true := decide_eq_true ha0
        have ha2 : ¬ at_ < (x.bs.length : Int) := by omega
        have ha3 : decide (at_ < (x.bs.length : Int)) = false := decide_eq_false ha2
        clear hx0
        have HX_ := hid hx
        clear hx
        have HOFF_ := hid hoff
        clear hoff
        have HJ_ := hid hJ
        clear hJ
        have J1_ := hid j1
        clear j1
        have B1'_ := hid b1'
        clear b1'
        have HG_ := hid hg
        clear hg
        have HDD_ := hid hdd
        clear hdd
        have HRA_ := hid hra
        clear hra
        go_wp2
        have c3 : Chg (fun b => b = W.heap.size + 1) W1 (W1.setRow (W.heap.size + 1) (ic x.k a x.bs.length c)) := (Chg.refl (fun b => b = W.heap.size + 1) W1).setRow (.inr rfl) _
        have r8 : row? (W1.setRow (W.heap.size + 1) (ic x.k a x.bs.length c)) (W.heap.size + 1) = ic x.k a x.bs.length c := by rw [row_setRow _ _ _ _ (by rw [r7]; simp), if_pos rfl]
        generalize W1.setRow (W.heap.size + 1) (ic x.k a x.bs.length c) = w4 at *
        have cw : Chg (fun _ => False) W w4 := (Chg.of_below B1'_.out).then' c3 (fun i e h => by omega)
        have j4 := HJ_.out.kept cw id id id
        refine bodyPost_ret (results_cell2 rfl rfl (v := .agg (ic x.k a x.bs.length c)) (by rw [ldItm _ _ _ (by rw [r8]; simp), r8]; simp)) rfl ⟨rfl, ⟨j4.rk, j4.ok, j4.ra, j4.oa, by rw [HDD_.out]; exact j4.rd, j4.od, j4.ne⟩, by rw [HG_.out]; exact HX_.out.kept cw (fun _ _ h => h.elim), cw.mono (fun _ _ h => h.elim)⟩
  · have hg : gT p at_ k x = x := if_neg (fun h => hkp h.1)
    have hdd := HDS_.out hkp
    have HX_ := hid hx
    clear hx
    have HOFF_ := hid hoff
    clear hoff
    have HJ_ := hid hJ
    clear hJ
    have J1_ := hid j1
    clear j1
    have B1'_ := hid b1'
    clear b1'
    have HG_ := hid hg
    clear hg
    have HDD_ := hid hdd
    clear hdd
    have HRA_ := hid hra
    clear hra
    go_wp2
    have c3 : Chg (fun b => b = W.heap.size + 1) W1 (W1.setRow (W.heap.size + 1) (ic x.k a x.bs.length c)) := (Chg.refl (fun b => b = W.heap.size + 1) W1).setRow (.inr rfl) _
    have r8 : row? (W1.setRow (W.heap.size + 1) (ic x.k a x.bs.length c)) (W.heap.size + 1) = ic x.k a x.bs.length c := by rw [row_setRow _ _ _ _ (by rw [r7]; simp), if_pos rfl]
    generalize W1.setRow (W.heap.size + 1) (ic x.k a x.bs.length c) = w4 at *
    have cw : Chg (fun _ => False) W w4 := (Chg.of_below B1'_.out).then' c3 (fun i e h => by omega)
    have j4 := HJ_.out.kept cw id id id
    refine bodyPost_ret (results_cell2 rfl rfl (v := .agg (ic x.k a x.bs.length c)) (by rw [ldItm _ _ _ (by rw [r8]; simp), r8]; simp)) rfl ⟨rfl, ⟨j4.rk, j4.ok, j4.ra, j4.oa, by rw [HDD_.out]; exact j4.rd, j4.od, j4.ne⟩, by rw [HG_.out]; exact HX_.out.kept cw (fun _ _ h => h.elim), cw.mono (fun _ _ h => h.elim)⟩
end Go.Proofs.Ytbdpnmocbpplbaa
