/-
  The walk of Pick's closure. No condition.
-/
import Derived.Test.YtbdpnmocbpplbaaQuE
namespace Go.Proofs.Ytbdpnmocbpplbaa
open Go.RowKit Go.Conc

attribute [local go_sem] Oper.semAt_some
/-- What Pick's closure keeps: the number that it looks for, what it found, whether it did. -/
structure JP (kc oc bc rc : Nat) (p : Int) (xs : List Itm) (k : Nat) (W : World) : Prop where
  rk : row? W kc = #[.int .i64 p]
  oo : own? W oc = true
  ob : own? W bc = true
  ne : oc ≠ bc ∧ kc ≠ oc ∧ kc ≠ bc
  rb : row? W bc = #[.bool (decide (0 ≤ p ∧ p < k))]
  rr : row? W rc = ic 0 none 0 0
  orr : own? W rc = true
  ner : rc ≠ oc ∧ rc ≠ bc
  ro : ∃ q a n c, row? W oc = ic q a n c ∧ ((0 ≤ p ∧ p < k) → ItmIn W (.agg (ic q a n c)) (xs.getD p.toNat zeroI) ∧ ∀ b, blkOf (.agg (ic q a n c)) = some b → ¬ (b = oc ∨ b = bc ∨ b = rc)) ∧ (¬ (0 ≤ p ∧ p < k) → ic q a n c = ic 0 none 0 0)
theorem JP.kept {kc oc bc rc : Nat} {p : Int} {xs : List Itm} {k : Nat} {W W' : World} (h : JP kc oc bc rc p xs k W) {S : Nat → Prop} (hc : Chg S W W') (hS : ∀ b, S b → row? W b = #[]) : JP kc oc bc rc p xs k W' := by
  have hk : ¬ S kc := fun s => by have := hS kc s; rw [h.rk] at this; cases this
  have hb : ¬ S bc := fun s => by have := hS bc s; rw [h.rb] at this; cases this
  obtain ⟨q, a, n, c, r, h1, h2⟩ := h.ro
  have ho : ¬ S oc := fun s => by have := hS oc s; rw [r] at this; exact absurd this (by simp)
  have hr : ¬ S rc := fun s => by have := hS rc s; rw [h.rr] at this; exact absurd this (by simp)
  exact ⟨(hc.row (row_lt (by rw [h.rk]; simp)) hk).trans h.rk, (hc.own (own_lt h.oo) ho).trans h.oo, (hc.own (own_lt h.ob) hb).trans h.ob, h.ne, (hc.row (own_lt h.ob) hb).trans h.rb, (hc.row (own_lt h.orr) hr).trans h.rr, (hc.own (own_lt h.orr) hr).trans h.orr, h.ner, q, a, n, c, (hc.row (own_lt h.oo) ho).trans r, fun hh => ⟨(h1 hh).1.kept hc (fun b _ s => hS b s), (h1 hh).2⟩, h2⟩
set_option maxRecDepth 100000 in
set_option maxHeartbeats 1000000 in
theorem pick1_c {kc oc bc rc : Nat} {p : Int} {xs : List Itm} (k : Nat) (hk : k < xs.length) (v : Value) (W : World) (hJ : JP kc oc bc rc p xs k W) (hx : ItmIn W v (xs.getD k zeroI)) (hoff : ∀ b, blkOf v = some b → ¬ (b = oc ∨ b = bc ∨ b = rc)) :
    Calls Try.prog 24 #[.int .i64 k, v, .pointer (some ⟨kc, 0, none⟩), .pointer (some ⟨oc, 0, none⟩), .pointer (some ⟨bc, 0, none⟩)] W fun e W' => e = .returned (.tuple #[v, .bool (decide ((k : Int) ≠ p))]) ∧ JP kc oc bc rc p xs (k + 1) W' ∧ Chg (fun b => b = oc ∨ b = bc) W W' := by
  have hxx := hx
  generalize hxk : xs.getD k zeroI = x at *
  have HXK_ := hid hxk
  clear hxk
  obtain ⟨a, c, rfl, _⟩ := hxx
  go_enter Try.func24, Try.ntmps24
  go_upto_region 1 with (fail)
  obtain ⟨W1, hW1⟩ : ∃ W1, (W.alloc (.cells (ic x.k a x.bs.length c) 32)).alloc (.cells (ic 0 none 0 0) 32) = W1 := ⟨_, rfl⟩
  have b1 : Below W.heap.size W W1 := by rw [← hW1]; exact ((Below.refl _ _).alloc (Nat.le_refl _) _).alloc (by simp) _
  have r6 : row? W1 W.heap.size = ic x.k a x.bs.length c := by rw [← hW1]; simp [row_alloc, rowOf]
  have r7 : row? W1 (W.heap.size + 1) = ic 0 none 0 0 := by rw [← hW1]; simp [row_alloc, rowOf]
  have o7 : own? W1 (W.heap.size + 1) = true := by rw [← hW1]; simp [own_alloc, ownOf]
  rw [hW1]
  clear hW1
  have j1 := hJ.kept (S := fun _ => False) (.of_below b1) (fun _ h => h.elim)
  have lk : kc < W.heap.size := row_lt (by rw [hJ.rk]; simp)
  have lo := own_lt hJ.oo
  have lb := own_lt hJ.ob
  have rk := j1.rk
  have rb := j1.rb
  have oo := j1.oo
  have ob := j1.ob
  obtain ⟨q, ha, hn, hcp, ro, hy1, hy2⟩ := j1.ro
  obtain ⟨nob, nko, nkb⟩ := j1.ne
  by_cases hkp : (k : Int) = p
  · have HY1_ := hid hy1
    clear hy1
    have HY2_ := hid hy2
    clear hy2
    have HX_ := hid hx
    clear hx
    have HOFF_ := hid hoff
    clear hoff
    have HJ_ := hid hJ
    clear hJ
    have J1_ := hid j1
    clear j1
    have B1_ := hid b1
    clear b1
    go_upto_region 3 with (fail)
    have c2 : Chg (fun b => b = oc ∨ b = bc) W1 ((W1.setRow oc (ic x.k a x.bs.length c)).setCell ⟨bc, 0, none⟩ (.bool true)) := ((Chg.refl _ W1).setRow (.inr (.inl rfl)) _).setCell (.inr (.inr rfl)) _
    have ro2 : row? ((W1.setRow oc (ic x.k a x.bs.length c)).setCell ⟨bc, 0, none⟩ (.bool true)) oc = ic x.k a x.bs.length c := by
      rw [row_setCell, if_neg (by simpa using nob), row_setRow _ _ _ _ (by rw [ro]; simp), if_pos rfl]
    have rb2 : row? ((W1.setRow oc (ic x.k a x.bs.length c)).setCell ⟨bc, 0, none⟩ (.bool true)) bc = #[.bool true] := by
      rw [row_setCell, if_pos rfl, row_setRow _ _ _ _ (by rw [ro]; simp), if_neg (by simpa using Ne.symm nob), rb]
      rfl
    have oo2 : own? ((W1.setRow oc (ic x.k a x.bs.length c)).setCell ⟨bc, 0, none⟩ (.bool true)) oc = true := by rw [own_setCell, own_setRow]; exact oo
    have ob2 : own? ((W1.setRow oc (ic x.k a x.bs.length c)).setCell ⟨bc, 0, none⟩ (.bool true)) bc = true := by rw [own_setCell, own_setRow]; exact ob
    generalize (W1.setRow oc (ic x.k a x.bs.length c)).setCell ⟨bc, 0, none⟩ (.bool true) = W2 at *
    have hr0 := (c2.row (own_lt o7) (by omega)).trans r7
    have ho0 := (c2.own (own_lt o7) (by omega)).trans o7
    have r6 := (c2.row (row_lt (by rw [r6]; simp)) (by omega)).trans r6
    have rk := (c2.row (row_lt (by rw [rk]; simp)) (by omega)).trans rk
    have c0 : Chg (fun b => b = oc ∨ b = bc) W W2 := (Chg.of_below B1_.out).trans c2
    have hdp : decide ((k : Int) ≠ p) = false := by simp [hkp]
    have HR0_ := hid hr0
    clear hr0
    have HO0_ := hid ho0
    clear ho0
    have C0_ := hid c0
    clear c0
    have HDP_ := hid hdp
    clear hdp
    refine wp_region_inv (by kernel_rfl) (fun s act_ w1 => ∃ v8 v13 v14 v15 v16, act_ = { tmps := #[.int .i64 k, .agg (ic x.k a x.bs.length c), .pointer (some ⟨kc, 0, none⟩), .pointer (some ⟨oc, 0, none⟩), .pointer (some ⟨bc, 0, none⟩), undef, .pointer (some ⟨W.heap.size, 0, none⟩), .pointer (some ⟨W.heap.size + 1, 0, none⟩), v8, .int .i64 k, .int .i64 p, .bool true, .agg (ic x.k a x.bs.length c), v13, v14, v15, v16], defers := [] } ∧ (s.getD 0 false = true → v13 = .agg (ic x.k a x.bs.length c)) ∧ (s.getD 1 false = true → v14 = .int .i64 k) ∧ (s.getD 2 false = true → v15 = .int .i64 p) ∧ (s.getD 3 false = true → v16 = .bool (false)) ∧ (s.getD 5 false = true → v8 = .bool (false)) ∧ row? w1 (W.heap.size + 1) = (if s.getD 4 false = true then ic x.k a x.bs.length c else ic 0 none 0 0) ∧ own? w1 (W.heap.size + 1) = true ∧ Chg (· = (W.heap.size + 1)) W2 w1 ∧ s.size = 6) ?h0 ?hstep ?hend
    case h0 => exact ⟨_, _, _, _, _, rfl, by simp, by simp, by simp, by simp, by simp, by rw [if_neg (by simp)]; exact HR0_.out, HO0_.out, (Chg.refl _ _).drew, by simp⟩
    case hstep =>
      intro s act_ w1 i hi hI
      obtain ⟨h1, o, h0, hpre⟩ := mem_ready.1 hi
      have hlt : i < 6 := (Array.getElem?_eq_some_iff.1 h0).1
      obtain ⟨v8, v13, v14, v15, v16, rfl, k0, k1, k2, k3, k5, hr, ho, hc, sz⟩ := hI
      have r6' : row? w1 W.heap.size = ic x.k a x.bs.length c := (hc.row (row_lt (by rw [r6]; simp)) (by show ¬ _ = _; omega)).trans r6
      have rk' : row? w1 kc = #[.int .i64 p] := (hc.row (row_lt (by rw [rk]; simp)) (by show ¬ _ = _; omega)).trans rk
      match i, hlt with
      | 0, _ =>
        cases h0
        refine wpOp_new rfl rfl (v := .agg (ic x.k a x.bs.length c)) (w' := w1) (by simp [go_sem, r6', rk', hkp]) ?_
        exact ⟨v8, .agg (ic x.k a x.bs.length c), v14, v15, v16, rfl, fun _ => rfl, fun h => k1 (by rwa [getD_set_ne false (by decide)] at h), fun h => k2 (by rwa [getD_set_ne false (by decide)] at h), fun h => k3 (by rwa [getD_set_ne false (by decide)] at h), fun h => k5 (by rwa [getD_set_ne false (by decide)] at h), by rw [getD_set_ne false (by decide)]; exact hr, ho, hc, by simpa using sz⟩
      | 1, _ =>
        cases h0
        refine wpOp_new rfl rfl (v := .int .i64 k) (w' := w1) (by simp [go_sem, r6', rk', hkp]) ?_
        exact ⟨v8, v13, .int .i64 k, v15, v16, rfl, fun h => k0 (by rwa [getD_set_ne false (by decide)] at h), fun _ => rfl, fun h => k2 (by rwa [getD_set_ne false (by decide)] at h), fun h => k3 (by rwa [getD_set_ne false (by decide)] at h), fun h => k5 (by rwa [getD_set_ne false (by decide)] at h), by rw [getD_set_ne false (by decide)]; exact hr, ho, hc, by simpa using sz⟩
      | 2, _ =>
        cases h0
        refine wpOp_new rfl rfl (v := .int .i64 p) (w' := w1) (by simp [go_sem, r6', rk', hkp]) ?_
        exact ⟨v8, v13, v14, .int .i64 p, v16, rfl, fun h => k0 (by rwa [getD_set_ne false (by decide)] at h), fun h => k1 (by rwa [getD_set_ne false (by decide)] at h), fun _ => rfl, fun h => k3 (by rwa [getD_set_ne false (by decide)] at h), fun h => k5 (by rwa [getD_set_ne false (by decide)] at h), by rw [getD_set_ne false (by decide)]; exact hr, ho, hc, by simpa using sz⟩
      | 3, _ =>
        cases h0
        have n1 : s.getD 1 false = true := hpre ⟨1, .data⟩ (by simp) rfl
        have x1 := k1 n1
        have n2 : s.getD 2 false = true := hpre ⟨2, .data⟩ (by simp) rfl
        have x2 := k2 n2
        subst x1
        subst x2
        refine wpOp_new rfl rfl (v := .bool (false)) (w' := w1) (by simp [go_sem, r6', rk', hkp]) ?_
        exact ⟨v8, v13, .int .i64 k, .int .i64 p, .bool (false), rfl, fun h => k0 (by rwa [getD_set_ne false (by decide)] at h), fun _ => rfl, fun _ => rfl, fun _ => rfl, fun h => k5 (by rwa [getD_set_ne false (by decide)] at h), by rw [getD_set_ne false (by decide)]; exact hr, ho, hc, by simpa using sz⟩
      | 4, _ =>
        cases h0
        have n0 : s.getD 0 false = true := hpre ⟨0, .data⟩ (by simp) rfl
        have x0 := k0 n0
        subst x0
        rw [getD_both h1, if_neg (by simp)] at hr
        have hs : (s.setIfInBounds 4 true).getD 4 false = true := by simp [Array.getD, sz]
        refine wpOp_skip rfl rfl rfl (w' := w1.setRow ((W.heap.size + 1)) (ic x.k a x.bs.length c)) (by simp [go_sem, hr, ho]) ?_
        exact ⟨v8, .agg (ic x.k a x.bs.length c), v14, v15, v16, rfl, fun _ => rfl, fun h => k1 (by rwa [getD_set_ne false (by decide)] at h), fun h => k2 (by rwa [getD_set_ne false (by decide)] at h), fun h => k3 (by rwa [getD_set_ne false (by decide)] at h), fun h => k5 (by rwa [getD_set_ne false (by decide)] at h), by rw [if_pos hs, row_setRow _ _ _ _ (by rw [hr]; simp), if_pos rfl], by rw [own_setRow]; exact ho, hc.setRow (.inr rfl) _, by simpa using sz⟩
      | 5, _ =>
        cases h0
        have n3 : s.getD 3 false = true := hpre ⟨3, .data⟩ (by simp) rfl
        have x3 := k3 n3
        subst x3
        refine wpOp_new rfl rfl (v := .bool (false)) (w' := w1) (by simp [go_sem, r6', rk', hkp]) ?_
        exact ⟨.bool (false), v13, v14, v15, .bool (false), rfl, fun h => k0 (by rwa [getD_set_ne false (by decide)] at h), fun h => k1 (by rwa [getD_set_ne false (by decide)] at h), fun h => k2 (by rwa [getD_set_ne false (by decide)] at h), fun _ => rfl, fun _ => rfl, by rw [getD_set_ne false (by decide)]; exact hr, ho, hc, by simpa using sz⟩
    case hend =>
      intro s act_ w1 hr hI
      obtain ⟨v8, v13, v14, v15, v16, rfl, k0, k1, k2, k3, k5, hr1, ho, hc, sz⟩ := hI
      have hall := all_done sz (by kernel_rfl) hr
      have x0 := k0 (hall 0 (by decide))
      have x1 := k1 (hall 1 (by decide))
      have x2 := k2 (hall 2 (by decide))
      have x3 := k3 (hall 3 (by decide))
      have x5 := k5 (hall 5 (by decide))
      subst x0
      subst x1
      subst x2
      subst x3
      subst x5
      rw [if_pos (hall 4 (by decide))] at hr1
      clear hall sz hr k0 k1 k2 k3 k5
      have cw := C0_.out.then' hc (fun i e hi => by rw [e] at hi; omega)
      have hJ2 : JP kc oc bc rc p xs (k + 1) w1 := by
        have e1 : (0 ≤ p ∧ p < ((k + 1 : Nat) : Int)) := by omega
        have n1 : ∀ b, b < W.heap.size → ¬ b = W.heap.size + 1 := fun b hb => by omega
        have nrc : ¬ (rc = oc ∨ rc = bc) := fun h => h.elim HJ_.out.ner.1 HJ_.out.ner.2
        refine ⟨(hc.row (row_lt (by rw [rk]; simp)) (n1 _ lk)).trans rk, (hc.own (own_lt oo2) (n1 _ lo)).trans oo2, (hc.own (own_lt ob2) (n1 _ lb)).trans ob2, ⟨nob, nko, nkb⟩, ?_, (cw.row (own_lt HJ_.out.orr) nrc).trans HJ_.out.rr, (cw.own (own_lt HJ_.out.orr) nrc).trans HJ_.out.orr, HJ_.out.ner, x.k, a, x.bs.length, c, (hc.row (own_lt oo2) (n1 _ lo)).trans ro2, fun _ => ⟨?_, HOFF_.out⟩, fun h => absurd e1 h⟩
        · rw [(hc.row (own_lt ob2) (n1 _ lb)).trans rb2, decide_eq_true e1]
        · rw [← hkp, Int.toNat_natCast, HXK_.out]
          exact HX_.out.kept cw (fun b hb hs => absurd (hs.imp id .inl) (HOFF_.out b hb))
      have hv : (ldAt 32 (.pointer (some ⟨W.heap.size + 1, 0, none⟩))).run Try.prog w1 = .ok (.agg (ic x.k a x.bs.length c)) w1 := by rw [ldItm _ _ _ (by rw [hr1]; simp), hr1]; simp
      have cw2 := cw
      clear cw hr1 ho hc
      have HJ2_ := hid hJ2
      clear hJ2
      have CW2_ := hid cw2
      clear cw2
      have HV_ := hid hv
      clear hv
      go_wp2
      refine bodyPost_ret (results_cell2 rfl rfl HV_.out) rfl ⟨by rw [HDP_.out]; rfl, HJ2_.out, CW2_.out⟩
  · have c0 : Chg (fun _ => False) W W1 := .of_below b1
    have j2 := hJ
    have hdp : decide ((k : Int) ≠ p) = true := decide_eq_true hkp
    have HY1_ := hid hy1
    clear hy1
    have HY2_ := hid hy2
    clear hy2
    have HX_ := hid hx
    clear hx
    have HOFF_ := hid hoff
    clear hoff
    have HJ_ := hid hJ
    clear hJ
    have J1_ := hid j1
    clear j1
    have B1_ := hid b1
    clear b1
    have C0_ := hid c0
    clear c0
    have hr0 := r7
    have ho0 := o7
    go_upto_region 3 with (fail)
    have HR0_ := hid hr0
    clear hr0
    have HO0_ := hid ho0
    clear ho0
    have HDP_ := hid hdp
    clear hdp
    refine wp_region_inv (by kernel_rfl) (fun s act_ w1 => ∃ v8 v13 v14 v15 v16, act_ = { tmps := #[.int .i64 k, .agg (ic x.k a x.bs.length c), .pointer (some ⟨kc, 0, none⟩), .pointer (some ⟨oc, 0, none⟩), .pointer (some ⟨bc, 0, none⟩), undef, .pointer (some ⟨W.heap.size, 0, none⟩), .pointer (some ⟨W.heap.size + 1, 0, none⟩), v8, .int .i64 k, .int .i64 p, .bool ((k : Int) == p), undef, v13, v14, v15, v16], defers := [] } ∧ (s.getD 0 false = true → v13 = .agg (ic x.k a x.bs.length c)) ∧ (s.getD 1 false = true → v14 = .int .i64 k) ∧ (s.getD 2 false = true → v15 = .int .i64 p) ∧ (s.getD 3 false = true → v16 = .bool (true)) ∧ (s.getD 5 false = true → v8 = .bool (true)) ∧ row? w1 (W.heap.size + 1) = (if s.getD 4 false = true then ic x.k a x.bs.length c else ic 0 none 0 0) ∧ own? w1 (W.heap.size + 1) = true ∧ Chg (· = (W.heap.size + 1)) W1 w1 ∧ s.size = 6) ?h0 ?hstep ?hend
    case h0 => exact ⟨_, _, _, _, _, rfl, by simp, by simp, by simp, by simp, by simp, by rw [if_neg (by simp)]; exact HR0_.out, HO0_.out, (Chg.refl _ _).drew, by simp⟩
    case hstep =>
      intro s act_ w1 i hi hI
      obtain ⟨h1, o, h0, hpre⟩ := mem_ready.1 hi
      have hlt : i < 6 := (Array.getElem?_eq_some_iff.1 h0).1
      obtain ⟨v8, v13, v14, v15, v16, rfl, k0, k1, k2, k3, k5, hr, ho, hc, sz⟩ := hI
      have r6' : row? w1 W.heap.size = ic x.k a x.bs.length c := (hc.row (row_lt (by rw [r6]; simp)) (by show ¬ _ = _; omega)).trans r6
      have rk' : row? w1 kc = #[.int .i64 p] := (hc.row (row_lt (by rw [rk]; simp)) (by show ¬ _ = _; omega)).trans rk
      match i, hlt with
      | 0, _ =>
        cases h0
        refine wpOp_new rfl rfl (v := .agg (ic x.k a x.bs.length c)) (w' := w1) (by simp [go_sem, r6', rk', hkp]) ?_
        exact ⟨v8, .agg (ic x.k a x.bs.length c), v14, v15, v16, rfl, fun _ => rfl, fun h => k1 (by rwa [getD_set_ne false (by decide)] at h), fun h => k2 (by rwa [getD_set_ne false (by decide)] at h), fun h => k3 (by rwa [getD_set_ne false (by decide)] at h), fun h => k5 (by rwa [getD_set_ne false (by decide)] at h), by rw [getD_set_ne false (by decide)]; exact hr, ho, hc, by simpa using sz⟩
      | 1, _ =>
        cases h0
        refine wpOp_new rfl rfl (v := .int .i64 k) (w' := w1) (by simp [go_sem, r6', rk', hkp]) ?_
        exact ⟨v8, v13, .int .i64 k, v15, v16, rfl, fun h => k0 (by rwa [getD_set_ne false (by decide)] at h), fun _ => rfl, fun h => k2 (by rwa [getD_set_ne false (by decide)] at h), fun h => k3 (by rwa [getD_set_ne false (by decide)] at h), fun h => k5 (by rwa [getD_set_ne false (by decide)] at h), by rw [getD_set_ne false (by decide)]; exact hr, ho, hc, by simpa using sz⟩
      | 2, _ =>
        cases h0
        refine wpOp_new rfl rfl (v := .int .i64 p) (w' := w1) (by simp [go_sem, r6', rk', hkp]) ?_
        exact ⟨v8, v13, v14, .int .i64 p, v16, rfl, fun h => k0 (by rwa [getD_set_ne false (by decide)] at h), fun h => k1 (by rwa [getD_set_ne false (by decide)] at h), fun _ => rfl, fun h => k3 (by rwa [getD_set_ne false (by decide)] at h), fun h => k5 (by rwa [getD_set_ne false (by decide)] at h), by rw [getD_set_ne false (by decide)]; exact hr, ho, hc, by simpa using sz⟩
      | 3, _ =>
        cases h0
        have n1 : s.getD 1 false = true := hpre ⟨1, .data⟩ (by simp) rfl
        have x1 := k1 n1
        have n2 : s.getD 2 false = true := hpre ⟨2, .data⟩ (by simp) rfl
        have x2 := k2 n2
        subst x1
        subst x2
        refine wpOp_new rfl rfl (v := .bool (true)) (w' := w1) (by simp [go_sem, r6', rk', hkp]) ?_
        exact ⟨v8, v13, .int .i64 k, .int .i64 p, .bool (true), rfl, fun h => k0 (by rwa [getD_set_ne false (by decide)] at h), fun _ => rfl, fun _ => rfl, fun _ => rfl, fun h => k5 (by rwa [getD_set_ne false (by decide)] at h), by rw [getD_set_ne false (by decide)]; exact hr, ho, hc, by simpa using sz⟩
      | 4, _ =>
        cases h0
        have n0 : s.getD 0 false = true := hpre ⟨0, .data⟩ (by simp) rfl
        have x0 := k0 n0
        subst x0
        rw [getD_both h1, if_neg (by simp)] at hr
        have hs : (s.setIfInBounds 4 true).getD 4 false = true := by simp [Array.getD, sz]
        refine wpOp_skip rfl rfl rfl (w' := w1.setRow ((W.heap.size + 1)) (ic x.k a x.bs.length c)) (by simp [go_sem, hr, ho]) ?_
        exact ⟨v8, .agg (ic x.k a x.bs.length c), v14, v15, v16, rfl, fun _ => rfl, fun h => k1 (by rwa [getD_set_ne false (by decide)] at h), fun h => k2 (by rwa [getD_set_ne false (by decide)] at h), fun h => k3 (by rwa [getD_set_ne false (by decide)] at h), fun h => k5 (by rwa [getD_set_ne false (by decide)] at h), by rw [if_pos hs, row_setRow _ _ _ _ (by rw [hr]; simp), if_pos rfl], by rw [own_setRow]; exact ho, hc.setRow (.inr rfl) _, by simpa using sz⟩
      | 5, _ =>
        cases h0
        have n3 : s.getD 3 false = true := hpre ⟨3, .data⟩ (by simp) rfl
        have x3 := k3 n3
        subst x3
        refine wpOp_new rfl rfl (v := .bool (true)) (w' := w1) (by simp [go_sem, r6', rk', hkp]) ?_
        exact ⟨.bool (true), v13, v14, v15, .bool (true), rfl, fun h => k0 (by rwa [getD_set_ne false (by decide)] at h), fun h => k1 (by rwa [getD_set_ne false (by decide)] at h), fun h => k2 (by rwa [getD_set_ne false (by decide)] at h), fun _ => rfl, fun _ => rfl, by rw [getD_set_ne false (by decide)]; exact hr, ho, hc, by simpa using sz⟩
    case hend =>
      intro s act_ w1 hr hI
      obtain ⟨v8, v13, v14, v15, v16, rfl, k0, k1, k2, k3, k5, hr1, ho, hc, sz⟩ := hI
      have hall := all_done sz (by kernel_rfl) hr
      have x0 := k0 (hall 0 (by decide))
      have x1 := k1 (hall 1 (by decide))
      have x2 := k2 (hall 2 (by decide))
      have x3 := k3 (hall 3 (by decide))
      have x5 := k5 (hall 5 (by decide))
      subst x0
      subst x1
      subst x2
      subst x3
      subst x5
      rw [if_pos (hall 4 (by decide))] at hr1
      clear hall sz hr k0 k1 k2 k3 k5
      have cw := C0_.out.then' hc (fun i e hi => by rw [e] at hi; omega)
      have hJ2 : JP kc oc bc rc p xs (k + 1) w1 := by
        have h := HJ_.out.kept cw (fun _ h => h.elim)
        have e1 : (0 ≤ p ∧ p < ((k + 1 : Nat) : Int)) ↔ (0 ≤ p ∧ p < (k : Int)) := by omega
        exact ⟨h.rk, h.oo, h.ob, h.ne, by rw [h.rb]; congr 3; exact (decide_eq_decide.2 e1).symm, h.rr, h.orr, h.ner, by simpa only [e1] using h.ro⟩
      have cw2 : Chg (fun b => b = oc ∨ b = bc) W w1 := cw.mono (fun _ _ h => h.elim)
      have hv : (ldAt 32 (.pointer (some ⟨W.heap.size + 1, 0, none⟩))).run Try.prog w1 = .ok (.agg (ic x.k a x.bs.length c)) w1 := by rw [ldItm _ _ _ (by rw [hr1]; simp), hr1]; simp
      clear cw hr1 ho hc
      have HJ2_ := hid hJ2
      clear hJ2
      have CW2_ := hid cw2
      clear cw2
      have HV_ := hid hv
      clear hv
      go_wp2
      refine bodyPost_ret (results_cell2 rfl rfl HV_.out) rfl ⟨by rw [HDP_.out]; rfl, HJ2_.out, CW2_.out⟩
end Go.Proofs.Ytbdpnmocbpplbaa
