/-
  The walk of does: a call on a book, as plain data. No condition.
-/
import Derived.Test.YtoblgdjjpbnemaaSqG
namespace Go.Proofs.Ytoblgdjjpbnemaa
open Go.RowKit

/-- Two blocks of one's own are set behind a call. -/
theorem does_fin {w0 w W1 w3 wF : World} {b m n1 n2 : Nat} {pb pb' : PB} (h : BkG w0 w b m pb) (b1 : Below w.heap.size w W1) (h3 : BkG w0 w3 b m pb') (s3 : Stq b m pb.l W1 pb'.l w3) (hc : Chg (fun g => g = n1 ∨ g = n2) w3 wF) (q1 : ¬ InB b m pb'.l n1) (q2 : ¬ InB b m pb'.l n2) (l1 : w.heap.size ≤ n1) (l2 : w.heap.size ≤ n2) : BkG w0 wF b m pb' ∧ Stq b m pb.l w pb'.l wF := by
  have hk : BkW wF b m pb' := h3.bk.kept hc (fun g hg e => by
    rcases e with rfl | rfl
    · exact q1 hg
    · exact q2 hg)
  have s : Stq b m pb.l w pb'.l w3 := (Stq.below b1).trans s3
  have s' : Stq b m pb.l w pb'.l wF := ⟨s.chg.then' hc (fun i hi hl => by omega), s.blk⟩
  exact ⟨h.step hk s' h3.ok, s'⟩
set_option maxRecDepth 100000 in
set_option maxHeartbeats 4000000 in
theorem does_g {w0 w : World} {b m : Nat} {pb : PB} (h : BkG w0 w b m pb) (o : OpQ) : Calls Try.prog 12 #[.pointer (some ⟨b, 0, none⟩), .agg (oq o)] w fun e w' => ∃ g, e = .returned (.agg (aq (doB pb o g).2.n (doB pb o g).2.x (doB pb o g).2.is)) ∧ BkG w0 w' b m (doB pb o g).1 ∧ Stq b m pb.l w (doB pb o g).1.l w' := by
  have H_ := hid h
  clear h
  go_enter Try.func12, Try.ntmps12
  go_upto_region 2 with (fail)
  obtain ⟨W1, hW1⟩ : ∃ W1, ((w.alloc (.cells (oq o) 38)).alloc (.cells (aq 0 zeroX false) 40)).alloc (.cells (aq 0 zeroX false) 40) = W1 := ⟨_, rfl⟩
  have b1 : Below w.heap.size w W1 := by rw [← hW1]; exact (((Below.refl _ _).alloc (Nat.le_refl _) _).alloc (by simp) _).alloc (by simp; omega) _
  have r0 : row? W1 w.heap.size = oq o := by
    rw [← hW1]
    simp [row_alloc, rowOf, show ¬ w.heap.size = w.heap.size + 1 + 1 by omega]
  have r1 : row? W1 (w.heap.size + 1) = aq 0 zeroX false := by rw [← hW1]; simp [row_alloc, rowOf]
  have r2 : row? W1 (w.heap.size + 1 + 1) = aq 0 zeroX false := by rw [← hW1]; simp [row_alloc, rowOf]
  have o1 : own? W1 (w.heap.size + 1) = true := by rw [← hW1]; simp [own_alloc, ownOf]
  have o2 : own? W1 (w.heap.size + 1 + 1) = true := by rw [← hW1]; simp [own_alloc, ownOf]
  simp only [aq_lit]
  rw [hW1]
  clear hW1
  have h1 := H_.out.below b1
  have q1 := H_.out.bk.fresh (g := w.heap.size + 1) (by omega) o1
  have q2 := H_.out.bk.fresh (g := w.heap.size + 1 + 1) (by omega) o2
  have hfin := fun (w3 wF : World) (pb' : PB) => does_fin (w0 := w0) (w := w) (W1 := W1) (w3 := w3) (wF := wF) (b := b) (m := m) (n1 := w.heap.size + 1) (n2 := w.heap.size + 1 + 1) (pb := pb) (pb' := pb') H_.out b1
  have ne : ¬ w.heap.size + 1 = w.heap.size + 1 + 1 := by omega
  obtain ⟨kd, ty, q, p, x⟩ := o
  have Q1_ := hid q1
  clear q1
  have Q2_ := hid q2
  clear q2
  have HFIN_ := hid hfin
  clear hfin
  have B1_ := hid b1
  clear b1
  rcases (show kd = 0 ∨ kd ≠ 0 by omega) with h0 | h0
  · subst h0
    have hR : ∀ g, doB pb ⟨0, ty, q, p, x⟩ g = ((nextB pb ty).1, ⟨(nextB pb ty).2, zeroX, false⟩) := fun g => by unfold doB; rw [if_pos rfl]
    have hc := next_g h1 ty
    clear h1
    have HC_ := hid hc
    clear hc
    have HR_ := hid hR
    clear hR
    go_wp2_with fail
    refine HC_.out.mono ?_
    rintro e w3 ⟨rfl, h3, s3⟩
    dsimp only
    obtain ⟨q13, e1⟩ := s3.mine Q1_.out
    obtain ⟨q23, e2⟩ := s3.mine Q2_.out
    rw [r1] at e1
    rw [r2] at e2
    have p1 := q13.1
    have p2 := q23.1
    have hR := HR_.out
    clear HR_
    generalize (nextB pb ty).2 = N at *
    have HR_ := hid hR
    clear hR
    clear HC_
    have H3_ := hid h3
    clear h3
    have S3_ := hid s3
    clear s3
    have Q13_ := hid q13
    clear q13
    have Q23_ := hid q23
    clear q23
    go_upto_region 13 with (fail)
    obtain ⟨w4, hE⟩ : ∃ w4, w3.setCell ⟨w.heap.size + 1 + 1, 0, none⟩ (.int .i64 N) = w4 := ⟨_, rfl⟩
    have e24 : row? w4 (w.heap.size + 1 + 1) = aq N zeroX false := by rw [← hE]; exact (by rw [row_setCell, if_pos rfl, e2]; rfl)
    have p24 : own? w4 (w.heap.size + 1 + 1) = true := by rw [← hE]; exact (by rw [own_setCell]; exact p2)
    have e14 : row? w4 (w.heap.size + 1) = aq 0 zeroX false := by rw [← hE]; exact (by rw [row_setCell, if_neg ne]; exact e1)
    have p14 : own? w4 (w.heap.size + 1) = true := by rw [← hE]; exact (by rw [own_setCell]; exact p1)
    have c4 : Chg (fun g => g = w.heap.size + 1 ∨ g = w.heap.size + 1 + 1) w3 w4 := by rw [← hE]; exact (Chg.refl (fun g => g = w.heap.size + 1 ∨ g = w.heap.size + 1 + 1) w3).setCell (p := ⟨w.heap.size + 1 + 1, 0, none⟩) (.inr (.inr rfl)) _
    rw [hE]
    clear hE e1 e2 p1 p2
    have C4_ := hid c4
    clear c4
    go_wp2
    have c5 : Chg (fun g => g = w.heap.size + 1 ∨ g = w.heap.size + 1 + 1) w3 (w4.setRow (w.heap.size + 1) (aq N zeroX false)) := C4_.out.setRow (.inr (.inl rfl)) _
    have e5 : row? (w4.setRow (w.heap.size + 1) (aq N zeroX false)) (w.heap.size + 1) = aq N zeroX false := by rw [row_setRow _ _ _ _ (by rw [e14]; simp), if_pos rfl]
    obtain ⟨f1, f2⟩ := HFIN_.out w3 _ _ H3_.out S3_.out c5 Q13_.out.2 Q23_.out.2 (by omega) (by omega)
    exact bodyPost_ret (results_cell rfl rfl (v := .agg (aq N zeroX false)) (by rw [ldAns _ _ _ (by rw [e5]; simp), e5, aq_all])) rfl ⟨0, by rw [HR_.out], by rw [HR_.out]; exact f1, by rw [HR_.out]; exact f2⟩
  rcases (show kd = 1 ∨ kd ≠ 1 by omega) with h1_ | h1_
  · subst h1_
    have hR : ∀ g, doB pb ⟨1, ty, q, p, x⟩ g = ((freshB pb p ty q g).1, ⟨0, zeroX, (freshB pb p ty q g).2⟩) := fun g => by unfold doB; rw [if_neg (show ¬ ((1 : Int) = 0) by decide)]; rw [if_pos rfl]
    have hc := fresh_g h1 p ty q
    clear h1
    have HC_ := hid hc
    clear hc
    have HR_ := hid hR
    clear hR
    go_wp2_with fail
    refine HC_.out.mono ?_
    rintro e w3 ⟨g, rfl, h3, s3⟩
    dsimp only
    obtain ⟨q13, e1⟩ := s3.mine Q1_.out
    obtain ⟨q23, e2⟩ := s3.mine Q2_.out
    rw [r1] at e1
    rw [r2] at e2
    have p1 := q13.1
    have p2 := q23.1
    have hR := HR_.out g
    clear HR_
    generalize (freshB pb p ty q g).2 = I at *
    have HR_ := hid hR
    clear hR
    clear HC_
    have H3_ := hid h3
    clear h3
    have S3_ := hid s3
    clear s3
    have Q13_ := hid q13
    clear q13
    have Q23_ := hid q23
    clear q23
    go_upto_region 13 with (fail)
    obtain ⟨w4, hE⟩ : ∃ w4, w3.setCell ⟨w.heap.size + 1 + 1, 4, none⟩ (.bool I) = w4 := ⟨_, rfl⟩
    have e24 : row? w4 (w.heap.size + 1 + 1) = aq 0 zeroX I := by rw [← hE]; exact (by rw [row_setCell, if_pos rfl, e2]; rfl)
    have p24 : own? w4 (w.heap.size + 1 + 1) = true := by rw [← hE]; exact (by rw [own_setCell]; exact p2)
    have e14 : row? w4 (w.heap.size + 1) = aq 0 zeroX false := by rw [← hE]; exact (by rw [row_setCell, if_neg ne]; exact e1)
    have p14 : own? w4 (w.heap.size + 1) = true := by rw [← hE]; exact (by rw [own_setCell]; exact p1)
    have c4 : Chg (fun g => g = w.heap.size + 1 ∨ g = w.heap.size + 1 + 1) w3 w4 := by rw [← hE]; exact (Chg.refl (fun g => g = w.heap.size + 1 ∨ g = w.heap.size + 1 + 1) w3).setCell (p := ⟨w.heap.size + 1 + 1, 4, none⟩) (.inr (.inr rfl)) _
    rw [hE]
    clear hE e1 e2 p1 p2
    have C4_ := hid c4
    clear c4
    go_wp2
    have c5 : Chg (fun g => g = w.heap.size + 1 ∨ g = w.heap.size + 1 + 1) w3 (w4.setRow (w.heap.size + 1) (aq 0 zeroX I)) := C4_.out.setRow (.inr (.inl rfl)) _
    have e5 : row? (w4.setRow (w.heap.size + 1) (aq 0 zeroX I)) (w.heap.size + 1) = aq 0 zeroX I := by rw [row_setRow _ _ _ _ (by rw [e14]; simp), if_pos rfl]
    obtain ⟨f1, f2⟩ := HFIN_.out w3 _ _ H3_.out S3_.out c5 Q13_.out.2 Q23_.out.2 (by omega) (by omega)
    exact bodyPost_ret (results_cell rfl rfl (v := .agg (aq 0 zeroX I)) (by rw [ldAns _ _ _ (by rw [e5]; simp), e5, aq_all])) rfl ⟨g, by rw [HR_.out], by rw [HR_.out]; exact f1, by rw [HR_.out]; exact f2⟩
  rcases (show kd = 2 ∨ kd ≠ 2 by omega) with h2 | h2
  · subst h2
    have hR : ∀ g, doB pb ⟨2, ty, q, p, x⟩ g = ((keepB pb p q x).1, ⟨0, zeroX, (keepB pb p q x).2⟩) := fun g => by unfold doB; rw [if_neg (show ¬ ((2 : Int) = 0) by decide)]; rw [if_neg (show ¬ ((2 : Int) = 1) by decide)]; rw [if_pos rfl]
    have hc := keep_g h1 p q x
    clear h1
    have HC_ := hid hc
    clear hc
    have HR_ := hid hR
    clear hR
    go_wp2_with fail
    refine HC_.out.mono ?_
    rintro e w3 ⟨rfl, h3, s3⟩
    dsimp only
    obtain ⟨q13, e1⟩ := s3.mine Q1_.out
    obtain ⟨q23, e2⟩ := s3.mine Q2_.out
    rw [r1] at e1
    rw [r2] at e2
    have p1 := q13.1
    have p2 := q23.1
    have hR := HR_.out
    clear HR_
    generalize (keepB pb p q x).2 = I at *
    have HR_ := hid hR
    clear hR
    clear HC_
    have H3_ := hid h3
    clear h3
    have S3_ := hid s3
    clear s3
    have Q13_ := hid q13
    clear q13
    have Q23_ := hid q23
    clear q23
    go_upto_region 13 with (fail)
    obtain ⟨w4, hE⟩ : ∃ w4, w3.setCell ⟨w.heap.size + 1 + 1, 4, none⟩ (.bool I) = w4 := ⟨_, rfl⟩
    have e24 : row? w4 (w.heap.size + 1 + 1) = aq 0 zeroX I := by rw [← hE]; exact (by rw [row_setCell, if_pos rfl, e2]; rfl)
    have p24 : own? w4 (w.heap.size + 1 + 1) = true := by rw [← hE]; exact (by rw [own_setCell]; exact p2)
    have e14 : row? w4 (w.heap.size + 1) = aq 0 zeroX false := by rw [← hE]; exact (by rw [row_setCell, if_neg ne]; exact e1)
    have p14 : own? w4 (w.heap.size + 1) = true := by rw [← hE]; exact (by rw [own_setCell]; exact p1)
    have c4 : Chg (fun g => g = w.heap.size + 1 ∨ g = w.heap.size + 1 + 1) w3 w4 := by rw [← hE]; exact (Chg.refl (fun g => g = w.heap.size + 1 ∨ g = w.heap.size + 1 + 1) w3).setCell (p := ⟨w.heap.size + 1 + 1, 4, none⟩) (.inr (.inr rfl)) _
    rw [hE]
    clear hE e1 e2 p1 p2
    have C4_ := hid c4
    clear c4
    go_wp2
    have c5 : Chg (fun g => g = w.heap.size + 1 ∨ g = w.heap.size + 1 + 1) w3 (w4.setRow (w.heap.size + 1) (aq 0 zeroX I)) := C4_.out.setRow (.inr (.inl rfl)) _
    have e5 : row? (w4.setRow (w.heap.size + 1) (aq 0 zeroX I)) (w.heap.size + 1) = aq 0 zeroX I := by rw [row_setRow _ _ _ _ (by rw [e14]; simp), if_pos rfl]
    obtain ⟨f1, f2⟩ := HFIN_.out w3 _ _ H3_.out S3_.out c5 Q13_.out.2 Q23_.out.2 (by omega) (by omega)
    exact bodyPost_ret (results_cell rfl rfl (v := .agg (aq 0 zeroX I)) (by rw [ldAns _ _ _ (by rw [e5]; simp), e5, aq_all])) rfl ⟨0, by rw [HR_.out], by rw [HR_.out]; exact f1, by rw [HR_.out]; exact f2⟩
  rcases (show kd = 3 ∨ kd ≠ 3 by omega) with h3_ | h3_
  · subst h3_
    have hR : ∀ g, doB pb ⟨3, ty, q, p, x⟩ g = ((takeQ pb p q).1, ⟨0, (takeQ pb p q).2.1, (takeQ pb p q).2.2⟩) := fun g => by unfold doB; rw [if_neg (show ¬ ((3 : Int) = 0) by decide)]; rw [if_neg (show ¬ ((3 : Int) = 1) by decide)]; rw [if_neg (show ¬ ((3 : Int) = 2) by decide)]; rw [if_pos rfl]
    have hc := take_g h1 p q
    clear h1
    have HC_ := hid hc
    clear hc
    have HR_ := hid hR
    clear hR
    go_wp2_with fail
    refine HC_.out.mono ?_
    rintro e w3 ⟨rfl, h3, s3⟩
    dsimp only
    obtain ⟨q13, e1⟩ := s3.mine Q1_.out
    obtain ⟨q23, e2⟩ := s3.mine Q2_.out
    rw [r1] at e1
    rw [r2] at e2
    have p1 := q13.1
    have p2 := q23.1
    have hR := HR_.out
    clear HR_
    generalize (takeQ pb p q).2.1 = X at *
    generalize (takeQ pb p q).2.2 = I at *
    have hst := stXP w3 (w.heap.size + 1 + 1) 0 zeroX X false e2 p2
    have HR_ := hid hR
    clear hR
    clear HC_
    have H3_ := hid h3
    clear h3
    have S3_ := hid s3
    clear s3
    have Q13_ := hid q13
    clear q13
    have Q23_ := hid q23
    clear q23
    go_upto_region 13 with (fail)
    obtain ⟨w4, hE⟩ : ∃ w4, (w3.setRow (w.heap.size + 1 + 1) (aq 0 X false)).setCell ⟨w.heap.size + 1 + 1, 4, none⟩ (.bool I) = w4 := ⟨_, rfl⟩
    have e24 : row? w4 (w.heap.size + 1 + 1) = aq 0 X I := by rw [← hE]; exact (by rw [row_setCell, if_pos rfl, row_setRow _ _ _ _ (by rw [e2]; simp), if_pos rfl]; rfl)
    have p24 : own? w4 (w.heap.size + 1 + 1) = true := by rw [← hE]; exact (by rw [own_setCell, own_setRow]; exact p2)
    have e14 : row? w4 (w.heap.size + 1) = aq 0 zeroX false := by rw [← hE]; exact (by rw [row_setCell, if_neg ne, row_setRow _ _ _ _ (by rw [e2]; simp), if_neg ne]; exact e1)
    have p14 : own? w4 (w.heap.size + 1) = true := by rw [← hE]; exact (by rw [own_setCell, own_setRow]; exact p1)
    have c4 : Chg (fun g => g = w.heap.size + 1 ∨ g = w.heap.size + 1 + 1) w3 w4 := by rw [← hE]; exact ((Chg.refl (fun g => g = w.heap.size + 1 ∨ g = w.heap.size + 1 + 1) w3).setRow (.inr (.inr rfl)) _).setCell (p := ⟨w.heap.size + 1 + 1, 4, none⟩) (.inr (.inr rfl)) _
    rw [hE]
    clear hst hE e1 e2 p1 p2
    have C4_ := hid c4
    clear c4
    go_wp2
    have c5 : Chg (fun g => g = w.heap.size + 1 ∨ g = w.heap.size + 1 + 1) w3 (w4.setRow (w.heap.size + 1) (aq 0 X I)) := C4_.out.setRow (.inr (.inl rfl)) _
    have e5 : row? (w4.setRow (w.heap.size + 1) (aq 0 X I)) (w.heap.size + 1) = aq 0 X I := by rw [row_setRow _ _ _ _ (by rw [e14]; simp), if_pos rfl]
    obtain ⟨f1, f2⟩ := HFIN_.out w3 _ _ H3_.out S3_.out c5 Q13_.out.2 Q23_.out.2 (by omega) (by omega)
    exact bodyPost_ret (results_cell rfl rfl (v := .agg (aq 0 X I)) (by rw [ldAns _ _ _ (by rw [e5]; simp), e5, aq_all])) rfl ⟨0, by rw [HR_.out], by rw [HR_.out]; exact f1, by rw [HR_.out]; exact f2⟩
  rcases (show kd = 4 ∨ kd ≠ 4 by omega) with h4 | h4
  · subst h4
    have hR : ∀ g, doB pb ⟨4, ty, q, p, x⟩ g = ((forgetB pb p).1, ⟨0, zeroX, (forgetB pb p).2⟩) := fun g => by unfold doB; rw [if_neg (show ¬ ((4 : Int) = 0) by decide)]; rw [if_neg (show ¬ ((4 : Int) = 1) by decide)]; rw [if_neg (show ¬ ((4 : Int) = 2) by decide)]; rw [if_neg (show ¬ ((4 : Int) = 3) by decide)]; rw [if_pos rfl]
    have hc := forget_g h1 p
    clear h1
    have HC_ := hid hc
    clear hc
    have HR_ := hid hR
    clear hR
    go_wp2_with fail
    refine HC_.out.mono ?_
    rintro e w3 ⟨rfl, h3, s3⟩
    dsimp only
    obtain ⟨q13, e1⟩ := s3.mine Q1_.out
    obtain ⟨q23, e2⟩ := s3.mine Q2_.out
    rw [r1] at e1
    rw [r2] at e2
    have p1 := q13.1
    have p2 := q23.1
    have hR := HR_.out
    clear HR_
    generalize (forgetB pb p).2 = I at *
    have HR_ := hid hR
    clear hR
    clear HC_
    have H3_ := hid h3
    clear h3
    have S3_ := hid s3
    clear s3
    have Q13_ := hid q13
    clear q13
    have Q23_ := hid q23
    clear q23
    go_upto_region 13 with (fail)
    obtain ⟨w4, hE⟩ : ∃ w4, w3.setCell ⟨w.heap.size + 1 + 1, 4, none⟩ (.bool I) = w4 := ⟨_, rfl⟩
    have e24 : row? w4 (w.heap.size + 1 + 1) = aq 0 zeroX I := by rw [← hE]; exact (by rw [row_setCell, if_pos rfl, e2]; rfl)
    have p24 : own? w4 (w.heap.size + 1 + 1) = true := by rw [← hE]; exact (by rw [own_setCell]; exact p2)
    have e14 : row? w4 (w.heap.size + 1) = aq 0 zeroX false := by rw [← hE]; exact (by rw [row_setCell, if_neg ne]; exact e1)
    have p14 : own? w4 (w.heap.size + 1) = true := by rw [← hE]; exact (by rw [own_setCell]; exact p1)
    have c4 : Chg (fun g => g = w.heap.size + 1 ∨ g = w.heap.size + 1 + 1) w3 w4 := by rw [← hE]; exact (Chg.refl (fun g => g = w.heap.size + 1 ∨ g = w.heap.size + 1 + 1) w3).setCell (p := ⟨w.heap.size + 1 + 1, 4, none⟩) (.inr (.inr rfl)) _
    rw [hE]
    clear hE e1 e2 p1 p2
    have C4_ := hid c4
    clear c4
    go_wp2
    have c5 : Chg (fun g => g = w.heap.size + 1 ∨ g = w.heap.size + 1 + 1) w3 (w4.setRow (w.heap.size + 1) (aq 0 zeroX I)) := C4_.out.setRow (.inr (.inl rfl)) _
    have e5 : row? (w4.setRow (w.heap.size + 1) (aq 0 zeroX I)) (w.heap.size + 1) = aq 0 zeroX I := by rw [row_setRow _ _ _ _ (by rw [e14]; simp), if_pos rfl]
    obtain ⟨f1, f2⟩ := HFIN_.out w3 _ _ H3_.out S3_.out c5 Q13_.out.2 Q23_.out.2 (by omega) (by omega)
    exact bodyPost_ret (results_cell rfl rfl (v := .agg (aq 0 zeroX I)) (by rw [ldAns _ _ _ (by rw [e5]; simp), e5, aq_all])) rfl ⟨0, by rw [HR_.out], by rw [HR_.out]; exact f1, by rw [HR_.out]; exact f2⟩
  have hR : ∀ g, doB pb ⟨kd, ty, q, p, x⟩ g = (pb, ⟨0, zeroX, false⟩) := fun g => by unfold doB; rw [if_neg h0, if_neg h1_, if_neg h2, if_neg h3_, if_neg h4]
  have HR_ := hid hR
  clear hR
  have H1_ := hid h1
  clear h1
  go_wp2
  have c5 : Chg (fun g => g = w.heap.size + 1 ∨ g = w.heap.size + 1 + 1) W1 (W1.setRow (w.heap.size + 1) (aq 0 zeroX false)) := (Chg.refl (fun g => g = w.heap.size + 1 ∨ g = w.heap.size + 1 + 1) W1).setRow (.inr (.inl rfl)) _
  have e5 : row? (W1.setRow (w.heap.size + 1) (aq 0 zeroX false)) (w.heap.size + 1) = aq 0 zeroX false := by rw [row_setRow _ _ _ _ (by rw [r1]; simp), if_pos rfl]
  obtain ⟨f1, f2⟩ := HFIN_.out W1 _ pb H1_.out (.below (Below.refl _ _)) c5 Q1_.out.2 Q2_.out.2 (by omega) (by omega)
  exact bodyPost_ret (results_cell rfl rfl (v := .agg (aq 0 zeroX false)) (by rw [ldAns _ _ _ (by rw [e5]; simp), e5, aq_all])) rfl ⟨0, by rw [HR_.out], by rw [HR_.out]; exact f1, by rw [HR_.out]; exact f2⟩
end Go.Proofs.Ytoblgdjjpbnemaa
