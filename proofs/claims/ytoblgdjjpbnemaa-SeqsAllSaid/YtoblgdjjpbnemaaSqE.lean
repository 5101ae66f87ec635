/-
  The walks of Keep, Take and Forget. No condition.
-/
import Derived.Test.YtoblgdjjpbnemaaSqD
namespace Go.Proofs.Ytoblgdjjpbnemaa
open Go.RowKit

theorem results_cell2 {P : Program} {fn : Func} {t ty b u : Nat} {tmps : Array Value} {w : World} {v : Value} (h : fn.results = #[.cell t ty, .tmp u]) (ht : tmps.getD t undef = .pointer (some ⟨b, 0, none⟩)) (hv : (ldAt ty (.pointer (some ⟨b, 0, none⟩))).run P w = .ok v w) : (results fn tmps).run P w = .ok (.tuple #[v, tmps.getD u undef]) w := by
  have hv' : (loadVar ty ⟨b, 0, none⟩).run P w = .ok v w := by
    unfold ldAt Instr.loadAt at hv
    simpa [Instr.sureAddr] using hv
  have ht' : tmps[t]?.getD undef = .pointer (some ⟨b, 0, none⟩) := by simpa using ht
  simp [results, h, ht', asAddr, hv']
theorem agg36 (w : World) : (isAgg 36).run Try.prog w = .ok true w := by kernel_rfl
theorem siz36 (w : World) : (sizeOf 36).run Try.prog w = .ok 3 w := by kernel_rfl
theorem siz70 (w : World) : (sizeOf 70).run Try.prog w = .ok 5 w := by kernel_rfl
@[go_sem] theorem ldX (w : World) (b off : Nat) (h : off + 3 ≤ (row? w b).size) : (ldAt 36 (.pointer (some ⟨b, off, none⟩))).run Try.prog w = .ok (.agg (sub (row? w b) off 3)) w := run_ldAt_agg agg36 siz36 w b off h
@[go_sem] theorem stX (w : World) (b : Nat) (x : X3) (h : (row? w b).size = 3) (ho : own? w b = true) : (stAt 36 (.pointer (some ⟨b, 0, none⟩)) (.agg (xc x))).run Try.prog w = .ok () (w.setRow b (xc x)) :=
  run_stAt_row siz36 w b _ (Array.all_eq_true_iff_forall_mem.2 (xc_one x)) (by simp) h ho
theorem stHf (w : World) (b : Nat) (s : Sd) (h : Hf) (hr : row? w b = sd s) (ho : own? w b = true) : (stAt 70 (.pointer (some ⟨b, 16, none⟩)) (.agg (hc h))).run Try.prog w = .ok () (w.setRow b (sd ⟨s.last, h⟩)) := by
  have h1 := run_stAt_part siz70 w b 16 (hc h) (hc_one h) (by simp) (by rw [hr]; simp) ho
  rw [hr, sd_put] at h1
  exact h1
@[go_sem] theorem bldHf (w : World) (q : Int) (x : X3) : (bld 70 #[(0, .bool true), (1, .int .i64 q), (2, .agg (xc x))]).run Try.prog w = .ok (.agg (hc ⟨true, q, x⟩)) w := run_bld w (by kernel_rfl)
@[go_sem] theorem bldHf0 (w : World) : (bld 70 #[]).run Try.prog w = .ok (.agg (hc zeroH)) w := run_bld w (by kernel_rfl)
@[go_sem] theorem bldX0 (w : World) : (bld 36 #[]).run Try.prog w = .ok (.agg (xc zeroX)) w := run_bld w (by kernel_rfl)
@[go_sem] theorem zeroX_lit : (Value.agg #[.int .i64 0, .int .i64 0, .int .i64 0]) = .agg (xc zeroX) := rfl
theorem zeroX_cells : (#[.int .i64 0, .int .i64 0, .int .i64 0] : Array Value) = xc zeroX := rfl
def keepB (pb : PB) (p : Prt) (q : Int) (x : X3) : PB × Bool :=
  match getE pb.l p with
  | some e => if rightB q = true then (⟨pb.nx, setE pb.l p ⟨e.s.last, ⟨true, q, x⟩⟩⟩, true) else (pb, false)
  | none => (pb, false)
def hasB (h : Hf) (q : Int) : Bool := h.is && decide (h.sq = q)
def takeQ (pb : PB) (p : Prt) (q : Int) : PB × X3 × Bool :=
  match getE pb.l p with
  | some e => if hasB e.s.h q = true then (⟨pb.nx, setE pb.l p ⟨e.s.last, zeroH⟩⟩, e.s.h.x, true) else (pb, zeroX, false)
  | none => (pb, zeroX, false)
def dropE (l : List SE) (p : Prt) : List SE := l.filter fun x => !decide (x.p = p)
def forgetB (pb : PB) (p : Prt) : PB × Bool := (⟨pb.nx, dropE pb.l p⟩, (getE pb.l p).isSome)
set_option maxRecDepth 100000 in
set_option maxHeartbeats 4000000 in
theorem keep_c {w : World} {b m : Nat} {pb : PB} (p : Prt) (q : Int) (x : X3) (h : BkW w b m pb) : Calls Try.prog 15 #[.pointer (some ⟨b, 0, none⟩), .agg (pa p), .int .i64 q, .agg (xc x)] w fun e w' => e = .returned (.bool (keepB pb p q x).2) ∧ BkW w' b m (keepB pb p q x).1 ∧ Stq b m pb.l w (keepB pb p q x).1.l w' := by
  have hright := fun w => right_fn q w
  have H_ := hid h
  clear h
  have HRIGHT_ := hid hright
  clear hright
  go_enter Try.func15, Try.ntmps15
  go_upto_region 1 with (fail)
  obtain ⟨W1, hW1⟩ : ∃ W1, (w.alloc (.cells (pa p) 35)).alloc (.cells (xc x) 36) = W1 := ⟨_, rfl⟩
  have b1 : Below w.heap.size w W1 := by rw [← hW1]; exact ((Below.refl _ _).alloc (Nat.le_refl _) _).alloc (by simp) _
  have r5 : row? W1 w.heap.size = pa p := by rw [← hW1]; simp [row_alloc, rowOf]
  have o5 : own? W1 w.heap.size = true := by rw [← hW1]; simp [own_alloc, ownOf]
  have r6 : row? W1 (w.heap.size + 1) = xc x := by rw [← hW1]; simp [row_alloc, rowOf]
  have o6 : own? W1 (w.heap.size + 1) = true := by rw [← hW1]; simp [own_alloc, ownOf]
  rw [hW1]
  clear hW1
  have h1 := H_.out.below b1
  have kb := gr_row h1.row h1.ltb
  have k5 := gr_row r5 (own_lt o5)
  have lk := h1.look p
  rw [lookV_eq] at lk
  obtain ⟨d8, hd8⟩ : ∃ d, W1 = gr W1 d := ⟨W1, gr_self W1⟩
  rw [hd8]
  clear hd8
  have B1_ := hid b1
  clear b1
  have H1_ := hid h1
  clear h1
  have R5_ := hid r5
  clear r5
  have O5_ := hid o5
  clear o5
  have R6_ := hid r6
  clear r6
  have O6_ := hid o6
  clear o6
  refine wp_region_gr W1 (by kernel_rfl) (by kernel_rfl) ⟨_, rfl⟩ ?_
  repeat (go_big_quiet_step (fail))
  refine wpQuiet_nil ?_
  rintro _ ⟨y, rfl⟩
  have h2 := H1_.out.below (gr_below W1 y)
  have b2 := B1_.out.trans ((gr_below W1 y).mono B1_.out.size)
  have r2 := gr_row R6_.out (own_lt O6_.out) y
  have o2 := gr_own O6_.out y
  clear kb k5 lk H1_ B1_ R5_ O5_ R6_ O6_
  generalize gr W1 y = w2 at *
  clear W1
  have H2_ := hid h2
  clear h2
  have B2_ := hid b2
  clear b2
  have O2_ := hid o2
  clear o2
  cases hg : getE pb.l p with
  | none =>
    have hfr : keepB pb p q x = (pb, false) := by unfold keepB; rw [hg]
    clear hg
    have HFR_ := hid hfr
    clear hfr
    go_wp2
    go_ret
    exact ⟨by rw [HFR_.out]; rfl, by rw [HFR_.out]; exact H_.out.below B2_.out, by rw [HFR_.out]; exact .below B2_.out⟩
  | some e =>
    go_wp2_with fail
    refine (HRIGHT_.out w2).mono ?_
    rintro e' w3 ⟨rfl, b3⟩
    dsimp only
    have h3 := H2_.out.below b3
    have hb3 := B2_.out.trans (b3.mono B2_.out.size)
    have r3 : row? w3 (w.heap.size + 1) = xc x := (row_of_block (b3.block _ (own_lt O2_.out))).trans r2
    clear HRIGHT_ b3 H2_ B2_ r2 O2_
    clear w2
    cases hr : rightB q with
    | false =>
      have hfr : keepB pb p q x = (pb, false) := by unfold keepB; rw [hg, hr]; exact if_neg (by simp)
      clear hg
      have HFR_ := hid hfr
      clear hfr
      have H3_ := hid h3
      clear h3
      have HB3_ := hid hb3
      clear hb3
      go_wp2
      go_ret
      exact ⟨by rw [HFR_.out]; rfl, by rw [HFR_.out]; exact H_.out.below HB3_.out, by rw [HFR_.out]; exact .below HB3_.out⟩
    | true =>
      have hfr : keepB pb p q x = (⟨pb.nx, setE pb.l p ⟨e.s.last, ⟨true, q, x⟩⟩⟩, true) := by unfold keepB; rw [hg, hr]; exact if_pos rfl
      obtain ⟨he, hp⟩ := getE_some hg
      obtain ⟨hrow, how⟩ := h3.snd e he
      have hst := stHf w3 e.g e.s ⟨true, q, x⟩ hrow how
      clear hg
      have HFR_ := hid hfr
      clear hfr
      have H3_ := hid h3
      clear h3
      have HB3_ := hid hb3
      clear hb3
      have HE_ := hid he
      clear he
      have HP_ := hid hp
      clear hp
      have HROW_ := hid hrow
      clear hrow
      have HOW_ := hid how
      clear how
      go_wp2
      go_ret
      have hcc : Chg (· = e.g) w3 (w3.setRow e.g (sd ⟨e.s.last, ⟨true, q, x⟩⟩)) := (Chg.refl (· = e.g) w3).setRow (.inr rfl) _
      obtain ⟨k1, k2⟩ := H3_.out.store HE_.out (s := ⟨e.s.last, ⟨true, q, x⟩⟩) hcc (by rw [row_setRow _ _ _ _ (by rw [HROW_.out]; simp), if_pos rfl]) (by rw [own_setRow]; exact HOW_.out)
      rw [HP_.out] at k1 k2
      exact ⟨by rw [HFR_.out]; rfl, by rw [HFR_.out]; exact k1, by rw [HFR_.out]; exact (Stq.below HB3_.out).trans k2⟩
set_option maxRecDepth 100000 in
set_option maxHeartbeats 4000000 in
theorem take_c {w : World} {b m : Nat} {pb : PB} (p : Prt) (q : Int) (h : BkW w b m pb) : Calls Try.prog 16 #[.pointer (some ⟨b, 0, none⟩), .agg (pa p), .int .i64 q] w fun e w' => e = .returned (.tuple #[.agg (xc (takeQ pb p q).2.1), .bool (takeQ pb p q).2.2]) ∧ BkW w' b m (takeQ pb p q).1 ∧ Stq b m pb.l w (takeQ pb p q).1.l w' := by
  have H_ := hid h
  clear h
  go_enter Try.func16, Try.ntmps16
  go_upto_region 1 with (fail)
  obtain ⟨W1, hW1⟩ : ∃ W1, (w.alloc (.cells (pa p) 35)).alloc (.cells (xc zeroX) 36) = W1 := ⟨_, rfl⟩
  have b1 : Below w.heap.size w W1 := by rw [← hW1]; exact ((Below.refl _ _).alloc (Nat.le_refl _) _).alloc (by simp) _
  have r5 : row? W1 w.heap.size = pa p := by rw [← hW1]; simp [row_alloc, rowOf]
  have o5 : own? W1 w.heap.size = true := by rw [← hW1]; simp [own_alloc, ownOf]
  have r6 : row? W1 (w.heap.size + 1) = xc zeroX := by rw [← hW1]; simp [row_alloc, rowOf]
  have o6 : own? W1 (w.heap.size + 1) = true := by rw [← hW1]; simp [own_alloc, ownOf]
  try rw [zeroX_cells]
  rw [hW1]
  clear hW1
  have h1 := H_.out.below b1
  have kb := gr_row h1.row h1.ltb
  have k5 := gr_row r5 (own_lt o5)
  have lk := h1.look p
  rw [lookV_eq] at lk
  obtain ⟨d8, hd8⟩ : ∃ d, W1 = gr W1 d := ⟨W1, gr_self W1⟩
  rw [hd8]
  clear hd8
  have B1_ := hid b1
  clear b1
  have H1_ := hid h1
  clear h1
  have R5_ := hid r5
  clear r5
  have O5_ := hid o5
  clear o5
  have R6_ := hid r6
  clear r6
  have O6_ := hid o6
  clear o6
  refine wp_region_gr W1 (by kernel_rfl) (by kernel_rfl) ⟨_, rfl⟩ ?_
  repeat (go_big_quiet_step (fail))
  refine wpQuiet_nil ?_
  rintro _ ⟨y, rfl⟩
  have h2 := H1_.out.below (gr_below W1 y)
  have b2 := B1_.out.trans ((gr_below W1 y).mono B1_.out.size)
  have r2 := gr_row R6_.out (own_lt O6_.out) y
  have o2 := gr_own O6_.out y
  clear kb k5 lk H1_ B1_ R5_ O5_ R6_ O6_
  generalize gr W1 y = w2 at *
  clear W1
  cases hg : getE pb.l p with
  | none =>
    have hfr : takeQ pb p q = (pb, zeroX, false) := by unfold takeQ; rw [hg]
    clear hg
    have hno : ¬ InB b m pb.l (w.heap.size + 1) := fun e => by have := H_.out.lt e; omega
    have HFR_ := hid hfr
    clear hfr
    have H2_ := hid h2
    clear h2
    have B2_ := hid b2
    clear b2
    have HNO_ := hid hno
    clear hno
    go_wp2
    have r7 : row? (w2.setRow (w.heap.size + 1) (xc zeroX)) (w.heap.size + 1) = xc zeroX := by rw [row_setRow _ _ _ _ (by rw [r2]; simp), if_pos rfl]
    have hk := H2_.out.kept (S := (· = w.heap.size + 1)) ((Chg.refl (· = w.heap.size + 1) w2).setRow (.inr rfl) (xc zeroX)) (fun g hg e => HNO_.out (by rw [← e]; exact hg))
    have hs : Stq b m pb.l w pb.l (w2.setRow (w.heap.size + 1) (xc zeroX)) := ⟨(Chg.of_below B2_.out).setRow (.inl (by omega)) _, fun x hx => .inr ⟨x, hx, rfl⟩⟩
    exact bodyPost_ret (results_cell2 rfl rfl (v := .agg (xc zeroX)) (by rw [ldX _ _ _ (by rw [r7]; simp), r7, xc_all])) rfl ⟨by rw [HFR_.out]; rfl, by rw [HFR_.out]; exact hk, by rw [HFR_.out]; exact hs⟩
  | some e =>
    obtain ⟨he, hp⟩ := getE_some hg
    obtain ⟨hrow, how⟩ := h2.snd e he
    cases his : e.s.h.is with
    | false =>
      have hfr : takeQ pb p q = (pb, zeroX, false) := by
        unfold takeQ
        rw [hg]
        exact if_neg (by unfold hasB; rw [his]; simp)
      clear hg
      have hno : ¬ InB b m pb.l (w.heap.size + 1) := fun e => by have := H_.out.lt e; omega
      have HFR_ := hid hfr
      clear hfr
      have H2_ := hid h2
      clear h2
      have B2_ := hid b2
      clear b2
      have HNO_ := hid hno
      clear hno
      go_wp2
      have r7 : row? (w2.setRow (w.heap.size + 1) (xc zeroX)) (w.heap.size + 1) = xc zeroX := by rw [row_setRow _ _ _ _ (by rw [r2]; simp), if_pos rfl]
      have hk := H2_.out.kept (S := (· = w.heap.size + 1)) ((Chg.refl (· = w.heap.size + 1) w2).setRow (.inr rfl) (xc zeroX)) (fun g hg e => HNO_.out (by rw [← e]; exact hg))
      have hs : Stq b m pb.l w pb.l (w2.setRow (w.heap.size + 1) (xc zeroX)) := ⟨(Chg.of_below B2_.out).setRow (.inl (by omega)) _, fun x hx => .inr ⟨x, hx, rfl⟩⟩
      exact bodyPost_ret (results_cell2 rfl rfl (v := .agg (xc zeroX)) (by rw [ldX _ _ _ (by rw [r7]; simp), r7, xc_all])) rfl ⟨by rw [HFR_.out]; rfl, by rw [HFR_.out]; exact hk, by rw [HFR_.out]; exact hs⟩
    | true =>
      by_cases hsq : e.s.h.sq = q
      · have hfr : takeQ pb p q = (⟨pb.nx, setE pb.l p ⟨e.s.last, zeroH⟩⟩, e.s.h.x, true) := by
          unfold takeQ
          rw [hg]
          exact if_pos (by unfold hasB; rw [his, hsq]; simp)
        clear hg
        have HFR_ := hid hfr
        clear hfr
        have H2_ := hid h2
        clear h2
        have B2_ := hid b2
        clear b2
        have HE_ := hid he
        clear he
        have HP_ := hid hp
        clear hp
        go_upto_region 5 with (fail)
        obtain ⟨w3, hE, r10, o10, b3, l3⟩ := newb w2 (xc zeroX) (xc e.s.h.x) 36 (by simp)
        rw [hE]
        clear hE
        have h3 := H2_.out.below b3
        have hb3 := B2_.out.trans (b3.mono B2_.out.size)
        have r3 : row? w3 (w.heap.size + 1) = xc zeroX := (row_of_block (b3.block _ (own_lt o2))).trans r2
        have o3 : own? w3 (w.heap.size + 1) = true := (own_of_block (b3.block _ (own_lt o2))).trans o2
        have hrow3 : row? w3 e.g = sd e.s := (row_of_block (b3.block _ (own_lt how))).trans hrow
        have how3 : own? w3 e.g = true := (own_of_block (b3.block _ (own_lt how))).trans how
        have n10 : ¬ w2.heap.size = e.g := by have := H2_.out.lts HE_.out; omega
        have n11 : ¬ w2.heap.size = w.heap.size + 1 := by have := own_lt o2; omega
        have n12 : ¬ w.heap.size + 1 = e.g := by have := H_.out.lts HE_.out; omega
        have hst := stHf w3 e.g e.s zeroH hrow3 how3
        clear b3 l3 B2_ H2_ r2 o2 hrow how
        generalize w2.heap.size = n9 at *
        have H3_ := hid h3
        clear h3
        have HB3_ := hid hb3
        clear hb3
        go_upto_region 6 with (fail)
        have hcc : Chg (· = e.g) w3 (w3.setRow e.g (sd ⟨e.s.last, zeroH⟩)) := (Chg.refl (· = e.g) w3).setRow (.inr rfl) _
        obtain ⟨k1, k2⟩ := H3_.out.store HE_.out (s := ⟨e.s.last, zeroH⟩) hcc (by rw [row_setRow _ _ _ _ (by rw [hrow3]; simp), if_pos rfl]) (by rw [own_setRow]; exact how3)
        have r4 : row? (w3.setRow e.g (sd ⟨e.s.last, zeroH⟩)) (w.heap.size + 1) = xc zeroX := by rw [row_setRow _ _ _ _ (by rw [hrow3]; simp), if_neg n12]; exact r3
        have o4 : own? (w3.setRow e.g (sd ⟨e.s.last, zeroH⟩)) (w.heap.size + 1) = true := by rw [own_setRow]; exact o3
        have r104 : row? (w3.setRow e.g (sd ⟨e.s.last, zeroH⟩)) n9 = xc e.s.h.x := by rw [row_setRow _ _ _ _ (by rw [hrow3]; simp), if_neg n10]; exact r10
        rw [HP_.out] at k1 k2
        generalize w3.setRow e.g (sd ⟨e.s.last, zeroH⟩) = w4 at *
        have k3 := (Stq.below HB3_.out).trans k2
        clear k2 hst hcc r3 o3 r10 o10 hrow3 how3 H3_ HB3_
        have k2 := k3
        have hno : ¬ InB b m (setE pb.l p ⟨e.s.last, zeroH⟩) (w.heap.size + 1) := fun e0 => by
          rcases k2.inb e0 with h1 | h1
          · have h9 := k1.lt e0
            rcases e0 with e0 | e0 | ⟨x, hx, e0⟩
            · have := H_.out.ltb; omega
            · have := H_.out.ltm; omega
            · obtain ⟨x0, hx0, hg0, _⟩ := setE_mem hx
              have := H_.out.lts hx0
              omega
          · have := H_.out.lt h1; omega
        clear k3
        have K1_ := hid k1
        clear k1
        have K2_ := hid k2
        clear k2
        have HNO_ := hid hno
        clear hno
        go_wp2
        have r7 : row? (w4.setRow (w.heap.size + 1) (xc e.s.h.x)) (w.heap.size + 1) = xc e.s.h.x := by rw [row_setRow _ _ _ _ (by rw [r4]; simp), if_pos rfl]
        have hk := K1_.out.kept (S := (· = w.heap.size + 1)) ((Chg.refl (· = w.heap.size + 1) w4).setRow (.inr rfl) (xc e.s.h.x)) (fun g hg e1 => HNO_.out (by rw [← e1]; exact hg))
        have hs : Stq b m pb.l w (setE pb.l p ⟨e.s.last, zeroH⟩) (w4.setRow (w.heap.size + 1) (xc e.s.h.x)) := ⟨K2_.out.chg.setRow (.inl (by omega)) _, K2_.out.blk⟩
        exact bodyPost_ret (results_cell2 rfl rfl (v := .agg (xc e.s.h.x)) (by rw [ldX _ _ _ (by rw [r7]; simp), r7, xc_all])) rfl ⟨by rw [HFR_.out]; rfl, by rw [HFR_.out]; exact hk, by rw [HFR_.out]; exact hs⟩
      · have hfr : takeQ pb p q = (pb, zeroX, false) := by
          unfold takeQ
          rw [hg]
          exact if_neg (by unfold hasB; rw [his, decide_eq_false hsq]; simp)
        have hsq' : (e.s.h.sq != q) = true := by simpa using hsq
        clear hg hsq
        have hno : ¬ InB b m pb.l (w.heap.size + 1) := fun e => by have := H_.out.lt e; omega
        have HFR_ := hid hfr
        clear hfr
        have H2_ := hid h2
        clear h2
        have B2_ := hid b2
        clear b2
        have HNO_ := hid hno
        clear hno
        go_wp2
        have r7 : row? (w2.setRow (w.heap.size + 1) (xc zeroX)) (w.heap.size + 1) = xc zeroX := by rw [row_setRow _ _ _ _ (by rw [r2]; simp), if_pos rfl]
        have hk := H2_.out.kept (S := (· = w.heap.size + 1)) ((Chg.refl (· = w.heap.size + 1) w2).setRow (.inr rfl) (xc zeroX)) (fun g hg e => HNO_.out (by rw [← e]; exact hg))
        have hs : Stq b m pb.l w pb.l (w2.setRow (w.heap.size + 1) (xc zeroX)) := ⟨(Chg.of_below B2_.out).setRow (.inl (by omega)) _, fun x hx => .inr ⟨x, hx, rfl⟩⟩
        exact bodyPost_ret (results_cell2 rfl rfl (v := .agg (xc zeroX)) (by rw [ldX _ _ _ (by rw [r7]; simp), r7, xc_all])) rfl ⟨by rw [HFR_.out]; rfl, by rw [HFR_.out]; exact hk, by rw [HFR_.out]; exact hs⟩
theorem dropE_none {l : List SE} {p : Prt} (h : ∀ x ∈ l, x.p ≠ p) : dropE l p = l := List.filter_eq_self.2 (fun x hx => by simpa using h x hx)
theorem dropE_ix {p : Prt} {e : SE} (hp : e.p = p) : ∀ {l : List SE} {j : Nat}, (l.map (·.p)).Nodup → l[j]? = some e → dropE l p = l.eraseIdx j
  | [], j, _, h => by simp at h
  | x :: l, 0, hn, h => by
    obtain rfl : x = e := by simpa using h
    rw [List.map_cons, List.nodup_cons] at hn
    have h2 : dropE l p = l := dropE_none (fun y hy e2 => hn.1 (List.mem_map.2 ⟨y, hy, by rw [e2, hp]⟩))
    unfold dropE at *
    rw [List.filter_cons, if_neg (by simp [hp]), h2]
    rfl
  | x :: l, j + 1, hn, h => by
    rw [List.map_cons, List.nodup_cons] at hn
    have h' : l[j]? = some e := by simpa using h
    have hx : x.p ≠ p := fun e2 => hn.1 (List.mem_map.2 ⟨e, List.mem_of_getElem? h', by rw [e2, hp]⟩)
    have ih := dropE_ix hp hn.2 h'
    unfold dropE at *
    rw [List.filter_cons, if_pos (by simpa using hx), ih]
    rfl
theorem dropE_mem {l : List SE} {p : Prt} {x : SE} (h : x ∈ dropE l p) : x ∈ l ∧ x.p ≠ p := by
  have := List.mem_filter.1 h
  exact ⟨this.1, by simpa using this.2⟩
/-- Who is forgotten is dropped. -/
theorem BkW.drop {w : World} {b m : Nat} {pb : PB} (h : BkW w b m pb) (p : Prt) {es : Array MapEntry} {c : Nat} (hk : Ents es.toList (ksOf (dropE pb.l p))) : BkW (setMap w m es c) b m ⟨pb.nx, dropE pb.l p⟩ ∧ Stq b m pb.l w (dropE pb.l p) (setMap w m es c) := by
  have hc := chg_setMap w m es c
  refine ⟨⟨(hc.row h.ltb h.nbm).trans h.row, (hc.own h.ltb h.nbm).trans h.own, ⟨es, c, heap_setMap h.ltm es c, hk⟩, fun x hx => ?_, fun x hx y hy e => h.inj x (dropE_mem hx).1 y (dropE_mem hy).1 e, ?_⟩, ⟨hc.mono (fun k _ hk => .inr (.inl hk)), fun x hx => .inr ⟨x, (dropE_mem hx).1, rfl⟩⟩⟩
  · have hx' := (dropE_mem hx).1
    exact ⟨(hc.row (h.lts hx') (h.ngm hx')).trans (h.snd x hx').1, (hc.own (h.lts hx') (h.ngm hx')).trans (h.snd x hx').2⟩
  · exact List.Nodup.sublist (List.Sublist.map _ List.filter_sublist) h.nd
theorem run_forget {w : World} {b m : Nat} {pb : PB} (h : BkW w b m pb) (p : Prt) : ∃ w', (∀ t, (Builtin.delete_ #[55, 35] t #[.map (some m), .agg (pa p)]).run Try.prog w = .ok (.tuple #[]) w') ∧ BkW w' b m ⟨pb.nx, dropE pb.l p⟩ ∧ Stq b m pb.l w (dropE pb.l p) w' := by
  obtain ⟨es, c, hm, hk⟩ := h.map
  cases hg : getE pb.l p with
  | none =>
    have hd := dropE_none (getE_none' hg)
    obtain ⟨h1, h2⟩ := h.drop p (es := es) (c := c) (by rw [hd]; exact hk)
    exact ⟨_, fun t => run_delP_none p hm hk (getE_none hg), h1, h2⟩
  | some e =>
    obtain ⟨j, hj, hn⟩ := getE_ix hg
    have hp := (getE_some hg).2
    have hd := dropE_ix hp h.nd hj
    obtain ⟨h1, h2⟩ := h.drop p (es := es.eraseIdxIfInBounds j) (c := c) (by
      have := hk.erase j
      rw [hd]
      show Ents _ ((pb.l.eraseIdx j).map _)
      rw [map_erase]
      exact this)
    exact ⟨_, fun t => run_delP_some (g := e.g) p hm hk hn (by simp [ksOf, hj, hp]), h1, h2⟩
set_option maxRecDepth 100000 in
set_option maxHeartbeats 4000000 in
theorem forget_c {w : World} {b m : Nat} {pb : PB} (p : Prt) (h : BkW w b m pb) : Calls Try.prog 18 #[.pointer (some ⟨b, 0, none⟩), .agg (pa p)] w fun e w' => e = .returned (.bool (forgetB pb p).2) ∧ BkW w' b m (forgetB pb p).1 ∧ Stq b m pb.l w (forgetB pb p).1.l w' := by
  have H_ := hid h
  clear h
  go_enter Try.func18, Try.ntmps18
  go_upto_region 1 with (fail)
  obtain ⟨W1, hW1⟩ : ∃ W1, w.alloc (.cells (pa p) 35) = W1 := ⟨_, rfl⟩
  have b1 : Below w.heap.size w W1 := by rw [← hW1]; exact (Below.refl _ _).alloc (Nat.le_refl _) _
  have r5 : row? W1 w.heap.size = pa p := by rw [← hW1]; simp [row_alloc, rowOf]
  have o5 : own? W1 w.heap.size = true := by rw [← hW1]; simp [own_alloc, ownOf]
  rw [hW1]
  clear hW1
  have h1 := H_.out.below b1
  have kb := gr_row h1.row h1.ltb
  have k5 := gr_row r5 (own_lt o5)
  have lk := h1.look p
  rw [lookV_eq] at lk
  obtain ⟨d8, hd8⟩ : ∃ d, W1 = gr W1 d := ⟨W1, gr_self W1⟩
  rw [hd8]
  clear hd8
  have B1_ := hid b1
  clear b1
  have H1_ := hid h1
  clear h1
  have R5_ := hid r5
  clear r5
  have O5_ := hid o5
  clear o5
  refine wp_region_gr W1 (by kernel_rfl) (by kernel_rfl) ⟨_, rfl⟩ ?_
  repeat (go_big_quiet_step (fail))
  refine wpQuiet_nil ?_
  rintro _ ⟨y, rfl⟩
  have h2 := H1_.out.below (gr_below W1 y)
  have b2 := B1_.out.trans ((gr_below W1 y).mono B1_.out.size)
  have r2 := gr_row R5_.out (own_lt O5_.out) y
  have o2 := gr_own O5_.out y
  clear kb k5 lk H1_ B1_ R5_ O5_
  generalize gr W1 y = w2 at *
  clear W1
  have kb := gr_row h2.row h2.ltb
  have k5 := gr_row r2 (own_lt o2)
  obtain ⟨d9, hd9⟩ : ∃ d, w2 = gr w2 d := ⟨w2, gr_self w2⟩
  rw [hd9]
  clear hd9
  have H2_ := hid h2
  clear h2
  have B2_ := hid b2
  clear b2
  have R2_ := hid r2
  clear r2
  have O2_ := hid o2
  clear o2
  go_upto_region 2 with (fail)
  refine wp_region_gr_tail w2 5 (by kernel_rfl) (by kernel_rfl) ⟨_, rfl⟩ ?_
  simp only [List.take_succ_cons, List.take_zero, List.drop_succ_cons, List.drop_zero]
  repeat (go_big_quiet_step (fail))
  refine wpQuiet_nil ?_
  rintro _ ⟨z, rfl⟩
  have h3 := H2_.out.below (gr_below w2 z)
  have b3 := B2_.out.trans ((gr_below w2 z).mono B2_.out.size)
  clear kb k5 H2_ B2_ R2_ O2_
  generalize gr w2 z = w3 at *
  clear w2
  obtain ⟨w4, hdel, h4, s4⟩ := run_forget h3 p
  have H3_ := hid h3
  clear h3
  have B3_ := hid b3
  clear b3
  have H4_ := hid h4
  clear h4
  have S4_ := hid s4
  clear s4
  go_wp2
  go_ret
  exact ⟨rfl, H4_.out, (Stq.below B3_.out).trans S4_.out⟩
end Go.Proofs.Ytoblgdjjpbnemaa
