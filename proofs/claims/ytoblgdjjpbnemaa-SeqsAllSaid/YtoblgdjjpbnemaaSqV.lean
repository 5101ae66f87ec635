/-
  The walk of the reference's Do: a call, as plain data. No condition but that the numbers are such.
-/
import Derived.Test.YtoblgdjjpbnemaaSqU
namespace Go.Proofs.Ytoblgdjjpbnemaa
open Go.RowKit

theorem results_cell22 {P : Program} {fn : Func} {t t2 ty ty2 b b2 : Nat} {tmps : Array Value} {w : World} {v v2 : Value} (h : fn.results = #[.cell t ty, .cell t2 ty2]) (ht : tmps.getD t undef = .pointer (some ⟨b, 0, none⟩)) (ht2 : tmps.getD t2 undef = .pointer (some ⟨b2, 0, none⟩)) (hv : (ldAt ty (.pointer (some ⟨b, 0, none⟩))).run P w = .ok v w) (hv2 : (ldAt ty2 (.pointer (some ⟨b2, 0, none⟩))).run P w = .ok v2 w) : (results fn tmps).run P w = .ok (.tuple #[v, v2]) w := by
  have hv' : (loadVar ty ⟨b, 0, none⟩).run P w = .ok v w := by
    unfold ldAt Instr.loadAt at hv
    simpa [Instr.sureAddr] using hv
  have hv2' : (loadVar ty2 ⟨b2, 0, none⟩).run P w = .ok v2 w := by
    unfold ldAt Instr.loadAt at hv2
    simpa [Instr.sureAddr] using hv2
  have ht' : tmps[t]?.getD undef = .pointer (some ⟨b, 0, none⟩) := by simpa using ht
  have ht2' : tmps[t2]?.getD undef = .pointer (some ⟨b2, 0, none⟩) := by simpa using ht2
  simp [results, h, ht', ht2', asAddr, hv', hv2']
def doRR (r : RB) (o : OpQ) : RB × AnQ :=
  if o.kd = 0 then ((nextR r o.ty).1, ⟨(nextR r o.ty).2, zeroX, false⟩)
  else if o.kd = 1 then ((freshR r o.p o.ty o.q).1, ⟨0, zeroX, (freshR r o.p o.ty o.q).2⟩)
  else if o.kd = 2 then ((keepR r o.p o.q o.x).1, ⟨0, zeroX, (keepR r o.p o.q o.x).2⟩)
  else if o.kd = 3 then ((takeR r o.p o.q).1, ⟨0, (takeR r o.p o.q).2.1, (takeR r o.p o.q).2.2⟩)
  else if o.kd = 4 then ((forgetR r o.p).1, ⟨0, zeroX, (forgetR r o.p).2⟩)
  else (r, ⟨0, zeroX, false⟩)
/-- The numbers of the reference's book are such. -/
structure RB.Ok (r : RB) : Prop where
  sent : ∀ j, 0 ≤ r.sent j ∧ r.sent j ≤ 1000000
  sn : r.sn.length ≤ 900
  ls : r.ls.length ≤ 900
  hs : r.hs.length ≤ 900
  q : ∀ x ∈ r.ls, 0 ≤ x.q ∧ x.q ≤ 65535
theorem aq_nou (n : Int) (x : X3) (is : Bool) : ∀ v ∈ aq n x is, ∀ i, v ≠ .int .u8 i := by
  intro v hv i
  simp [aq] at hv
  rcases hv with rfl | rfl | rfl | rfl | rfl <;> simp
/-- The boxes of Do. -/
structure Bxq (w : World) (Q O : Array Value) (V : World) : Prop where
  r0 : row? V (w.heap.size) = Q
  o0 : own? V (w.heap.size) = true
  r1 : row? V (w.heap.size + 1) = O
  r2 : row? V (w.heap.size + 1 + 1) = rc zeroRB nilS nilS nilS
  o2 : own? V (w.heap.size + 1 + 1) = true
  r3 : row? V (w.heap.size + 1 + 1 + 1) = aq 0 zeroX false
  o3 : own? V (w.heap.size + 1 + 1 + 1) = true
  r4 : row? V (w.heap.size + 1 + 1 + 1 + 1) = aq 0 zeroX false
  o4 : own? V (w.heap.size + 1 + 1 + 1 + 1) = true
  lt : w.heap.size + 5 ≤ V.heap.size
  bel : Below w.heap.size w V
theorem Bxq.below {w V V' : World} {Q O : Array Value} (h : Bxq w Q O V) (hb : Below V.heap.size V V') : Bxq w Q O V' := by
  have hl := h.lt
  have hr : ∀ b, b < V.heap.size → row? V' b = row? V b := fun b h1 => row_of_block (hb.block b h1)
  have ho : ∀ b, b < V.heap.size → own? V' b = own? V b := fun b h1 => own_of_block (hb.block b h1)
  exact ⟨(hr _ (by omega)).trans h.r0, (ho _ (by omega)).trans h.o0, (hr _ (by omega)).trans h.r1, (hr _ (by omega)).trans h.r2, (ho _ (by omega)).trans h.o2, (hr _ (by omega)).trans h.r3, (ho _ (by omega)).trans h.o3, (hr _ (by omega)).trans h.r4, (ho _ (by omega)).trans h.o4, by have := hb.size; omega, h.bel.trans (hb.mono h.bel.size)⟩
/-- Behind the switch. -/
structure FinQ (w : World) (r : RB) (s1 s2 s3 : Sl) (A : Array Value) (wr : World) : Prop where
  x0 : row? wr (w.heap.size) = rc r s1 s2 s3
  x4 : row? wr (w.heap.size + 1 + 1 + 1 + 1) = A
  x2 : row? wr (w.heap.size + 1 + 1) = rc zeroRB nilS nilS nilS
  y2 : own? wr (w.heap.size + 1 + 1) = true
  x3 : row? wr (w.heap.size + 1 + 1 + 1) = aq 0 zeroX false
  y3 : own? wr (w.heap.size + 1 + 1 + 1) = true
  lt : w.heap.size + 5 ≤ wr.heap.size
  bel : Below w.heap.size w wr
  rl : RL wr r s1 s2 s3
theorem fin_of {w w3 w4 : World} {r r' : RB} {s1 s2 s3 t1 t2 t3 : Sl} {O A : Array Value} (bx : Bxq w (rc r s1 s2 s3) O w3) (rl : RL w3 r' t1 t2 t3) (c4 : Chg (fun b => b = w.heap.size ∨ b = w.heap.size + 1 + 1 + 1 + 1) w3 w4)
    (e0 : row? w4 w.heap.size = rc r' t1 t2 t3) (e4 : row? w4 (w.heap.size + 1 + 1 + 1 + 1) = A) : FinQ w r' t1 t2 t3 A w4 := by
  have l3 := bx.lt
  have s4 := c4.size
  have hno : ∀ b, b < w3.heap.size → (b = w.heap.size ∨ b = w.heap.size + 1 + 1 + 1 + 1) → ∀ v ∈ row? w3 b, ∀ i, v ≠ .int .u8 i := fun b _ hb => by
    rcases hb with rfl | rfl
    · rw [bx.r0]; exact rc_nou _ _ _ _
    · rw [bx.r4]; exact aq_nou _ _ _
  exact ⟨e0, e4, (c4.row (by omega) (by omega)).trans bx.r2, (c4.own (by omega) (by omega)).trans bx.o2, (c4.row (by omega) (by omega)).trans bx.r3, (c4.own (by omega) (by omega)).trans bx.o3, by omega, bx.bel.trans (c4.below bx.bel.size (fun k hk e => by omega)), rl.noU c4 hno⟩
/-- The worlds in which what the last region reads stays. -/
def KD (n0 n4 : Nat) (A B : Array Value) (w : World) : Prop := row? w n0 = A ∧ row? w n4 = B
set_option maxRecDepth 100000 in
set_option maxHeartbeats 8000000 in
theorem rdo_c (r : RB) (s1 s2 s3 : Sl) (o : OpQ) (w : World) (h : RL w r s1 s2 s3) (hok : r.Ok) :
    Calls Try.prog 11 #[.agg (rc r s1 s2 s3), .agg (oq o)] w fun e w' => Back w (doRR r o).1 (fun v => .tuple #[v, .agg (aq (doRR r o).2.n (doRR r o).2.x (doRR r o).2.is)]) e w' := by
  have H_ := hid h
  clear h
  go_enter Try.func11, Try.ntmps11
  go_upto_region 2 with (fail)
  obtain ⟨W1, hW1⟩ : ∃ W1, ((((w.alloc (.cells (rc r s1 s2 s3) 31)).alloc (.cells (oq o) 38)).alloc (.cells (rc zeroRB nilS nilS nilS) 31)).alloc (.cells (aq 0 zeroX false) 40)).alloc (.cells (aq 0 zeroX false) 40) = W1 := ⟨_, rfl⟩
  have bx : Bxq w (rc r s1 s2 s3) (oq o) W1 := by
    have n2 : ¬ w.heap.size = w.heap.size + 1 + 1 := by omega
    have n3 : ¬ w.heap.size = w.heap.size + 1 + 1 + 1 := by omega
    have n4 : ¬ w.heap.size = w.heap.size + 1 + 1 + 1 + 1 := by omega
    rw [← hW1]
    refine ⟨?_, ?_, ?_, ?_, ?_, ?_, ?_, ?_, ?_, ?_, (((((Below.refl _ _).alloc (Nat.le_refl _) _).alloc (by simp) _).alloc (by simp; omega) _).alloc (by simp; omega) _).alloc (by simp; omega) _⟩
    · simp [row_alloc, rowOf, n2, n3, n4]
    · simp [own_alloc, ownOf]
    · simp [row_alloc, rowOf]
    · simp [row_alloc, rowOf]
    · simp [own_alloc, ownOf]
    · simp [row_alloc, rowOf]
    · simp [own_alloc, ownOf]
    · simp [row_alloc, rowOf]
    · simp [own_alloc, ownOf]
    · simp
  simp only [rc_lit, aq_lit]
  rw [hW1]
  clear hW1
  have h1 := H_.out.below bx.bel
  obtain ⟨kd, ty, q, p, x⟩ := o
  rcases (show kd = 0 ∨ kd ≠ 0 by omega) with k0 | k0
  · subst k0
    have hR : doRR r ⟨0, ty, q, p, x⟩ = ((nextR r ty).1, ⟨(nextR r ty).2, zeroX, false⟩) := by unfold doRR; rw [if_pos rfl]
    have hc := rnext_c r s1 s2 s3 ty W1 hok.sent
    have r0 := bx.r0
    have r1 := bx.r1
    clear h1
    have HC_ := hid hc
    clear hc
    have HR_ := hid hR
    clear hR
    have BX_ := hid bx
    clear bx
    go_wp2_with fail
    refine HC_.out.mono ?_
    rintro e w3 ⟨rfl, b3⟩
    dsimp only
    have bx3 := BX_.out.below b3
    have hR := HR_.out
    clear HR_ HC_ BX_ b3 r0 r1
    generalize (nextR r ty).2 = N at *
    have rl3 : RL w3 (nextR r ty).1 s1 s2 s3 := by
      have h9 := H_.out.below bx3.bel
      unfold nextR
      split
      · exact ⟨h9.sn, h9.ls, h9.hs⟩
      · exact h9
    generalize (nextR r ty).1 = r' at *
    
    have r0 := bx3.r0
    have o0 := bx3.o0
    have r4 := bx3.r4
    have o4 := bx3.o4

    have HR_ := hid hR
    clear hR
    have BX3_ := hid bx3
    clear bx3
    have RL3_ := hid rl3
    clear rl3
    go_upto_region 13 with (fail)
    obtain ⟨w4, hE⟩ : ∃ w4, (w3.setRow w.heap.size (rc r' s1 s2 s3)).setCell ⟨w.heap.size + 1 + 1 + 1 + 1, 0, none⟩ (.int .i64 N) = w4 := ⟨_, rfl⟩
    have c4 : Chg (fun b => b = w.heap.size ∨ b = w.heap.size + 1 + 1 + 1 + 1) w3 w4 := by rw [← hE]; exact (((Chg.refl (fun b => b = w.heap.size ∨ b = w.heap.size + 1 + 1 + 1 + 1) w3).setRow (.inr (.inl rfl)) _).setCell (p := ⟨w.heap.size + 1 + 1 + 1 + 1, 0, none⟩) (.inr (.inr rfl)) _)
    have e0 : row? w4 w.heap.size = rc r' s1 s2 s3 := by rw [← hE]; exact (by rw [row_setCell, if_neg (by show ¬ w.heap.size = w.heap.size + 1 + 1 + 1 + 1; omega), row_setRow _ _ _ _ (by rw [r0]; simp), if_pos rfl])
    have e4 : row? w4 (w.heap.size + 1 + 1 + 1 + 1) = aq N zeroX false := by rw [← hE]; exact (by rw [row_setCell, if_pos rfl, row_setRow _ _ _ _ (by rw [r0]; simp), if_neg (by omega), r4]; rfl)
    rw [hE]
    have hF := fin_of BX3_.out RL3_.out c4 e0 e4
    clear hE c4 e0 e4 r0 o0 r4 o4 BX3_ RL3_
    clear w3
    have kr0 := fun d => (grK_is (K := KD w.heap.size (w.heap.size + 1 + 1 + 1 + 1) (rc r' s1 s2 s3) (aq N zeroX false)) (w := w4) ⟨hF.x0, hF.x4⟩ d).1
    have kr4 := fun d => (grK_is (K := KD w.heap.size (w.heap.size + 1 + 1 + 1 + 1) (rc r' s1 s2 s3) (aq N zeroX false)) (w := w4) ⟨hF.x0, hF.x4⟩ d).2
    have hd : ∀ w', KD w.heap.size (w.heap.size + 1 + 1 + 1 + 1) (rc r' s1 s2 s3) (aq N zeroX false) w' → ∃ d, w' = grK (KD w.heap.size (w.heap.size + 1 + 1 + 1 + 1) (rc r' s1 s2 s3) (aq N zeroX false)) w4 d := fun w' h => ⟨w', grK_of h⟩
    have HD_ := hid hd
    clear hd
    refine wp_region_seg (grK (KD w.heap.size (w.heap.size + 1 + 1 + 1 + 1) (rc r' s1 s2 s3) (aq N zeroX false)) w4) [([0, 1], 2), ([], 3)] (by kernel_rfl) (by kernel_rfl) (fun c a b w hd h => And.intro (hd.symm.trans (And.left h)) (And.right h)) (HD_.out _ ⟨hF.x0, hF.x4⟩) ?_
    simp only [wpSeg, selL, List.filterMap_cons, List.filterMap_nil, List.getElem?_cons_zero, List.getElem?_cons_succ]
    refine (show wpQuiet _ _ _ _ [_, _] _ from ?_)
    have HF_ := hid hF
    clear hF
    repeat (go_big_quiet_step (fail))
    refine wpQuiet_nil ?_
    have x2 : row? w4.drew (w.heap.size + 1 + 1) = rc zeroRB nilS nilS nilS := HF_.out.x2
    have y2 : own? w4.drew (w.heap.size + 1 + 1) = true := HF_.out.y2
    have x3 : row? w4.drew (w.heap.size + 1 + 1 + 1) = aq 0 zeroX false := HF_.out.x3
    have y3 : own? w4.drew (w.heap.size + 1 + 1 + 1) = true := HF_.out.y3
    have hb5 : Below w.heap.size w w4.drew := HF_.out.bel.trans (Below.refl _ _).drew
    have hK5 : KD w.heap.size (w.heap.size + 1 + 1 + 1 + 1) (rc r' s1 s2 s3) (aq N zeroX false) w4.drew := ⟨HF_.out.x0, HF_.out.x4⟩
    have hl5 : w.heap.size + 5 ≤ w4.drew.heap.size := HF_.out.lt
    have rl5 : RL w4.drew r' s1 s2 s3 := HF_.out.rl.below (Below.refl _ _).drew
    clear kr0 kr4 HF_
    generalize w4.drew = w5 at *
    obtain ⟨w6, hE, e2, eo2, hb6, c6⟩ := set_own (w0 := w) (w := w5) (b := w.heap.size + 1 + 1) (B := rc r' s1 s2 s3) (by omega) x2 y2 (by simp) hb5
    have f3 := (c6.row (b := w.heap.size + 1 + 1 + 1) (by omega) (by show ¬ _ = _; omega)).trans x3
    have fo3 := (c6.own (b := w.heap.size + 1 + 1 + 1) (by omega) (by show ¬ _ = _; omega)).trans y3
    have hK6 : KD w.heap.size (w.heap.size + 1 + 1 + 1 + 1) (rc r' s1 s2 s3) (aq N zeroX false) w6 := ⟨(c6.row (by omega) (by show ¬ _ = _; omega)).trans hK5.1, (c6.row (by omega) (by show ¬ _ = _; omega)).trans hK5.2⟩
    have rl6 := rl5.noU c6 (fun b _ hb => by subst hb; rw [x2]; exact rc_nou _ _ _ _)
    have hdd := HD_.out _ hK6
    have hl6 := c6.size
    clear rl5 hb5 hK5
    have HDD_ := hid hdd
    clear hdd
    have E2_ := hid e2
    clear e2
    have HB6_ := hid hb6
    clear hb6
    have HK6_ := hid hK6
    clear hK6
    have RL6_ := hid rl6
    clear rl6
    have EO2_ := hid eo2
    clear eo2
    go_wp2
    refine (show _ ∧ _ from ⟨HDD_.out, ?_⟩)
    refine wpQuiet_nil ?_
    obtain ⟨w7, hE7, e3, _, hb7, c7⟩ := set_own (w0 := w) (w := w6) (b := w.heap.size + 1 + 1 + 1) (B := aq N zeroX false) (by omega) f3 fo3 (by simp) HB6_.out
    have e27 := (c7.row (own_lt EO2_.out) (by show ¬ _ = _; omega)).trans E2_.out
    have hK7 : KD w.heap.size (w.heap.size + 1 + 1 + 1 + 1) (rc r' s1 s2 s3) (aq N zeroX false) w7 := ⟨(c7.row (by omega) (by show ¬ _ = _; omega)).trans HK6_.out.1, (c7.row (by omega) (by show ¬ _ = _; omega)).trans HK6_.out.2⟩
    have rl7 := RL6_.out.noU c7 (fun b _ hb => by subst hb; rw [f3]; exact aq_nou _ _ _)
    have hdd := HD_.out _ hK7
    clear HDD_ HK6_ HB6_ hK7
    have HDD_ := hid hdd
    clear hdd
    have E27_ := hid e27
    clear e27
    have HB7_ := hid hb7
    clear hb7
    have RL7_ := hid rl7
    clear rl7
    have E3_ := hid e3
    clear e3
    go_wp2
    refine (show _ ∧ _ from ⟨HDD_.out, ?_⟩)
    go_wp2
    exact bodyPost_ret (results_cell22 rfl rfl rfl (v := .agg (rc r' s1 s2 s3)) (v2 := .agg (aq N zeroX false)) (by rw [ldRB _ _ _ (by rw [E27_.out]; simp), E27_.out, rc_all]) (by rw [ldAns _ _ _ (by rw [E3_.out]; simp), E3_.out, aq_all])) rfl ⟨s1, s2, s3, by rw [HR_.out], by rw [HR_.out]; exact RL7_.out, HB7_.out⟩
  rcases (show kd = 1 ∨ kd ≠ 1 by omega) with k1 | k1
  · subst k1
    have hR : doRR r ⟨1, ty, q, p, x⟩ = ((freshR r p ty q).1, ⟨0, zeroX, (freshR r p ty q).2⟩) := by unfold doRR; rw [if_neg (show ¬ ((1 : Int) = 0) by decide)]; rw [if_pos rfl]
    have hc := rfresh_c r s1 s2 s3 p ty q hok.ls hok.sn W1 h1 hok.q
    have r0 := bx.r0
    have r1 := bx.r1
    clear h1
    have HC_ := hid hc
    clear hc
    have HR_ := hid hR
    clear hR
    have BX_ := hid bx
    clear bx
    go_wp2_with fail
    refine HC_.out.mono ?_
    rintro e w3 ⟨t1, t2, t3, rfl, rl3, b3⟩
    dsimp only
    have bx3 := BX_.out.below b3
    have hR := HR_.out
    clear HR_ HC_ BX_ b3 r0 r1
    generalize (freshR r p ty q).2 = I at *
    generalize (freshR r p ty q).1 = r' at *
    have r0 := bx3.r0
    have o0 := bx3.o0
    have r4 := bx3.r4
    have o4 := bx3.o4

    have HR_ := hid hR
    clear hR
    have BX3_ := hid bx3
    clear bx3
    have RL3_ := hid rl3
    clear rl3
    go_upto_region 13 with (fail)
    obtain ⟨w4, hE⟩ : ∃ w4, (w3.setRow w.heap.size (rc r' t1 t2 t3)).setCell ⟨w.heap.size + 1 + 1 + 1 + 1, 4, none⟩ (.bool I) = w4 := ⟨_, rfl⟩
    have c4 : Chg (fun b => b = w.heap.size ∨ b = w.heap.size + 1 + 1 + 1 + 1) w3 w4 := by rw [← hE]; exact (((Chg.refl (fun b => b = w.heap.size ∨ b = w.heap.size + 1 + 1 + 1 + 1) w3).setRow (.inr (.inl rfl)) _).setCell (p := ⟨w.heap.size + 1 + 1 + 1 + 1, 4, none⟩) (.inr (.inr rfl)) _)
    have e0 : row? w4 w.heap.size = rc r' t1 t2 t3 := by rw [← hE]; exact (by rw [row_setCell, if_neg (by show ¬ w.heap.size = w.heap.size + 1 + 1 + 1 + 1; omega), row_setRow _ _ _ _ (by rw [r0]; simp), if_pos rfl])
    have e4 : row? w4 (w.heap.size + 1 + 1 + 1 + 1) = aq 0 zeroX I := by rw [← hE]; exact (by rw [row_setCell, if_pos rfl, row_setRow _ _ _ _ (by rw [r0]; simp), if_neg (by omega), r4]; rfl)
    rw [hE]
    have hF := fin_of BX3_.out RL3_.out c4 e0 e4
    clear hE c4 e0 e4 r0 o0 r4 o4 BX3_ RL3_
    clear w3
    have kr0 := fun d => (grK_is (K := KD w.heap.size (w.heap.size + 1 + 1 + 1 + 1) (rc r' t1 t2 t3) (aq 0 zeroX I)) (w := w4) ⟨hF.x0, hF.x4⟩ d).1
    have kr4 := fun d => (grK_is (K := KD w.heap.size (w.heap.size + 1 + 1 + 1 + 1) (rc r' t1 t2 t3) (aq 0 zeroX I)) (w := w4) ⟨hF.x0, hF.x4⟩ d).2
    have hd : ∀ w', KD w.heap.size (w.heap.size + 1 + 1 + 1 + 1) (rc r' t1 t2 t3) (aq 0 zeroX I) w' → ∃ d, w' = grK (KD w.heap.size (w.heap.size + 1 + 1 + 1 + 1) (rc r' t1 t2 t3) (aq 0 zeroX I)) w4 d := fun w' h => ⟨w', grK_of h⟩
    have HD_ := hid hd
    clear hd
    refine wp_region_seg (grK (KD w.heap.size (w.heap.size + 1 + 1 + 1 + 1) (rc r' t1 t2 t3) (aq 0 zeroX I)) w4) [([0, 1], 2), ([], 3)] (by kernel_rfl) (by kernel_rfl) (fun c a b w hd h => And.intro (hd.symm.trans (And.left h)) (And.right h)) (HD_.out _ ⟨hF.x0, hF.x4⟩) ?_
    simp only [wpSeg, selL, List.filterMap_cons, List.filterMap_nil, List.getElem?_cons_zero, List.getElem?_cons_succ]
    refine (show wpQuiet _ _ _ _ [_, _] _ from ?_)
    have HF_ := hid hF
    clear hF
    repeat (go_big_quiet_step (fail))
    refine wpQuiet_nil ?_
    have x2 : row? w4.drew (w.heap.size + 1 + 1) = rc zeroRB nilS nilS nilS := HF_.out.x2
    have y2 : own? w4.drew (w.heap.size + 1 + 1) = true := HF_.out.y2
    have x3 : row? w4.drew (w.heap.size + 1 + 1 + 1) = aq 0 zeroX false := HF_.out.x3
    have y3 : own? w4.drew (w.heap.size + 1 + 1 + 1) = true := HF_.out.y3
    have hb5 : Below w.heap.size w w4.drew := HF_.out.bel.trans (Below.refl _ _).drew
    have hK5 : KD w.heap.size (w.heap.size + 1 + 1 + 1 + 1) (rc r' t1 t2 t3) (aq 0 zeroX I) w4.drew := ⟨HF_.out.x0, HF_.out.x4⟩
    have hl5 : w.heap.size + 5 ≤ w4.drew.heap.size := HF_.out.lt
    have rl5 : RL w4.drew r' t1 t2 t3 := HF_.out.rl.below (Below.refl _ _).drew
    clear kr0 kr4 HF_
    generalize w4.drew = w5 at *
    obtain ⟨w6, hE, e2, eo2, hb6, c6⟩ := set_own (w0 := w) (w := w5) (b := w.heap.size + 1 + 1) (B := rc r' t1 t2 t3) (by omega) x2 y2 (by simp) hb5
    have f3 := (c6.row (b := w.heap.size + 1 + 1 + 1) (by omega) (by show ¬ _ = _; omega)).trans x3
    have fo3 := (c6.own (b := w.heap.size + 1 + 1 + 1) (by omega) (by show ¬ _ = _; omega)).trans y3
    have hK6 : KD w.heap.size (w.heap.size + 1 + 1 + 1 + 1) (rc r' t1 t2 t3) (aq 0 zeroX I) w6 := ⟨(c6.row (by omega) (by show ¬ _ = _; omega)).trans hK5.1, (c6.row (by omega) (by show ¬ _ = _; omega)).trans hK5.2⟩
    have rl6 := rl5.noU c6 (fun b _ hb => by subst hb; rw [x2]; exact rc_nou _ _ _ _)
    have hdd := HD_.out _ hK6
    have hl6 := c6.size
    clear rl5 hb5 hK5
    have HDD_ := hid hdd
    clear hdd
    have E2_ := hid e2
    clear e2
    have HB6_ := hid hb6
    clear hb6
    have HK6_ := hid hK6
    clear hK6
    have RL6_ := hid rl6
    clear rl6
    have EO2_ := hid eo2
    clear eo2
    go_wp2
    refine (show _ ∧ _ from ⟨HDD_.out, ?_⟩)
    refine wpQuiet_nil ?_
    obtain ⟨w7, hE7, e3, _, hb7, c7⟩ := set_own (w0 := w) (w := w6) (b := w.heap.size + 1 + 1 + 1) (B := aq 0 zeroX I) (by omega) f3 fo3 (by simp) HB6_.out
    have e27 := (c7.row (own_lt EO2_.out) (by show ¬ _ = _; omega)).trans E2_.out
    have hK7 : KD w.heap.size (w.heap.size + 1 + 1 + 1 + 1) (rc r' t1 t2 t3) (aq 0 zeroX I) w7 := ⟨(c7.row (by omega) (by show ¬ _ = _; omega)).trans HK6_.out.1, (c7.row (by omega) (by show ¬ _ = _; omega)).trans HK6_.out.2⟩
    have rl7 := RL6_.out.noU c7 (fun b _ hb => by subst hb; rw [f3]; exact aq_nou _ _ _)
    have hdd := HD_.out _ hK7
    clear HDD_ HK6_ HB6_ hK7
    have HDD_ := hid hdd
    clear hdd
    have E27_ := hid e27
    clear e27
    have HB7_ := hid hb7
    clear hb7
    have RL7_ := hid rl7
    clear rl7
    have E3_ := hid e3
    clear e3
    go_wp2
    refine (show _ ∧ _ from ⟨HDD_.out, ?_⟩)
    go_wp2
    exact bodyPost_ret (results_cell22 rfl rfl rfl (v := .agg (rc r' t1 t2 t3)) (v2 := .agg (aq 0 zeroX I)) (by rw [ldRB _ _ _ (by rw [E27_.out]; simp), E27_.out, rc_all]) (by rw [ldAns _ _ _ (by rw [E3_.out]; simp), E3_.out, aq_all])) rfl ⟨t1, t2, t3, by rw [HR_.out], by rw [HR_.out]; exact RL7_.out, HB7_.out⟩
  rcases (show kd = 2 ∨ kd ≠ 2 by omega) with k2 | k2
  · subst k2
    have hR : doRR r ⟨2, ty, q, p, x⟩ = ((keepR r p q x).1, ⟨0, zeroX, (keepR r p q x).2⟩) := by unfold doRR; rw [if_neg (show ¬ ((2 : Int) = 0) by decide)]; rw [if_neg (show ¬ ((2 : Int) = 1) by decide)]; rw [if_pos rfl]
    have hc := rkeep_c r s1 s2 s3 p q x hok.hs hok.sn W1 h1
    have r0 := bx.r0
    have r1 := bx.r1
    clear h1
    have HC_ := hid hc
    clear hc
    have HR_ := hid hR
    clear hR
    have BX_ := hid bx
    clear bx
    go_wp2_with fail
    refine HC_.out.mono ?_
    rintro e w3 ⟨t1, t2, t3, rfl, rl3, b3⟩
    dsimp only
    have bx3 := BX_.out.below b3
    have hR := HR_.out
    clear HR_ HC_ BX_ b3 r0 r1
    generalize (keepR r p q x).2 = I at *
    generalize (keepR r p q x).1 = r' at *
    have r0 := bx3.r0
    have o0 := bx3.o0
    have r4 := bx3.r4
    have o4 := bx3.o4

    have HR_ := hid hR
    clear hR
    have BX3_ := hid bx3
    clear bx3
    have RL3_ := hid rl3
    clear rl3
    go_upto_region 13 with (fail)
    obtain ⟨w4, hE⟩ : ∃ w4, (w3.setRow w.heap.size (rc r' t1 t2 t3)).setCell ⟨w.heap.size + 1 + 1 + 1 + 1, 4, none⟩ (.bool I) = w4 := ⟨_, rfl⟩
    have c4 : Chg (fun b => b = w.heap.size ∨ b = w.heap.size + 1 + 1 + 1 + 1) w3 w4 := by rw [← hE]; exact (((Chg.refl (fun b => b = w.heap.size ∨ b = w.heap.size + 1 + 1 + 1 + 1) w3).setRow (.inr (.inl rfl)) _).setCell (p := ⟨w.heap.size + 1 + 1 + 1 + 1, 4, none⟩) (.inr (.inr rfl)) _)
    have e0 : row? w4 w.heap.size = rc r' t1 t2 t3 := by rw [← hE]; exact (by rw [row_setCell, if_neg (by show ¬ w.heap.size = w.heap.size + 1 + 1 + 1 + 1; omega), row_setRow _ _ _ _ (by rw [r0]; simp), if_pos rfl])
    have e4 : row? w4 (w.heap.size + 1 + 1 + 1 + 1) = aq 0 zeroX I := by rw [← hE]; exact (by rw [row_setCell, if_pos rfl, row_setRow _ _ _ _ (by rw [r0]; simp), if_neg (by omega), r4]; rfl)
    rw [hE]
    have hF := fin_of BX3_.out RL3_.out c4 e0 e4
    clear hE c4 e0 e4 r0 o0 r4 o4 BX3_ RL3_
    clear w3
    have kr0 := fun d => (grK_is (K := KD w.heap.size (w.heap.size + 1 + 1 + 1 + 1) (rc r' t1 t2 t3) (aq 0 zeroX I)) (w := w4) ⟨hF.x0, hF.x4⟩ d).1
    have kr4 := fun d => (grK_is (K := KD w.heap.size (w.heap.size + 1 + 1 + 1 + 1) (rc r' t1 t2 t3) (aq 0 zeroX I)) (w := w4) ⟨hF.x0, hF.x4⟩ d).2
    have hd : ∀ w', KD w.heap.size (w.heap.size + 1 + 1 + 1 + 1) (rc r' t1 t2 t3) (aq 0 zeroX I) w' → ∃ d, w' = grK (KD w.heap.size (w.heap.size + 1 + 1 + 1 + 1) (rc r' t1 t2 t3) (aq 0 zeroX I)) w4 d := fun w' h => ⟨w', grK_of h⟩
    have HD_ := hid hd
    clear hd
    refine wp_region_seg (grK (KD w.heap.size (w.heap.size + 1 + 1 + 1 + 1) (rc r' t1 t2 t3) (aq 0 zeroX I)) w4) [([0, 1], 2), ([], 3)] (by kernel_rfl) (by kernel_rfl) (fun c a b w hd h => And.intro (hd.symm.trans (And.left h)) (And.right h)) (HD_.out _ ⟨hF.x0, hF.x4⟩) ?_
    simp only [wpSeg, selL, List.filterMap_cons, List.filterMap_nil, List.getElem?_cons_zero, List.getElem?_cons_succ]
    refine (show wpQuiet _ _ _ _ [_, _] _ from ?_)
    have HF_ := hid hF
    clear hF
    repeat (go_big_quiet_step (fail))
    refine wpQuiet_nil ?_
    have x2 : row? w4.drew (w.heap.size + 1 + 1) = rc zeroRB nilS nilS nilS := HF_.out.x2
    have y2 : own? w4.drew (w.heap.size + 1 + 1) = true := HF_.out.y2
    have x3 : row? w4.drew (w.heap.size + 1 + 1 + 1) = aq 0 zeroX false := HF_.out.x3
    have y3 : own? w4.drew (w.heap.size + 1 + 1 + 1) = true := HF_.out.y3
    have hb5 : Below w.heap.size w w4.drew := HF_.out.bel.trans (Below.refl _ _).drew
    have hK5 : KD w.heap.size (w.heap.size + 1 + 1 + 1 + 1) (rc r' t1 t2 t3) (aq 0 zeroX I) w4.drew := ⟨HF_.out.x0, HF_.out.x4⟩
    have hl5 : w.heap.size + 5 ≤ w4.drew.heap.size := HF_.out.lt
    have rl5 : RL w4.drew r' t1 t2 t3 := HF_.out.rl.below (Below.refl _ _).drew
    clear kr0 kr4 HF_
    generalize w4.drew = w5 at *
    obtain ⟨w6, hE, e2, eo2, hb6, c6⟩ := set_own (w0 := w) (w := w5) (b := w.heap.size + 1 + 1) (B := rc r' t1 t2 t3) (by omega) x2 y2 (by simp) hb5
    have f3 := (c6.row (b := w.heap.size + 1 + 1 + 1) (by omega) (by show ¬ _ = _; omega)).trans x3
    have fo3 := (c6.own (b := w.heap.size + 1 + 1 + 1) (by omega) (by show ¬ _ = _; omega)).trans y3
    have hK6 : KD w.heap.size (w.heap.size + 1 + 1 + 1 + 1) (rc r' t1 t2 t3) (aq 0 zeroX I) w6 := ⟨(c6.row (by omega) (by show ¬ _ = _; omega)).trans hK5.1, (c6.row (by omega) (by show ¬ _ = _; omega)).trans hK5.2⟩
    have rl6 := rl5.noU c6 (fun b _ hb => by subst hb; rw [x2]; exact rc_nou _ _ _ _)
    have hdd := HD_.out _ hK6
    have hl6 := c6.size
    clear rl5 hb5 hK5
    have HDD_ := hid hdd
    clear hdd
    have E2_ := hid e2
    clear e2
    have HB6_ := hid hb6
    clear hb6
    have HK6_ := hid hK6
    clear hK6
    have RL6_ := hid rl6
    clear rl6
    have EO2_ := hid eo2
    clear eo2
    go_wp2
    refine (show _ ∧ _ from ⟨HDD_.out, ?_⟩)
    refine wpQuiet_nil ?_
    obtain ⟨w7, hE7, e3, _, hb7, c7⟩ := set_own (w0 := w) (w := w6) (b := w.heap.size + 1 + 1 + 1) (B := aq 0 zeroX I) (by omega) f3 fo3 (by simp) HB6_.out
    have e27 := (c7.row (own_lt EO2_.out) (by show ¬ _ = _; omega)).trans E2_.out
    have hK7 : KD w.heap.size (w.heap.size + 1 + 1 + 1 + 1) (rc r' t1 t2 t3) (aq 0 zeroX I) w7 := ⟨(c7.row (by omega) (by show ¬ _ = _; omega)).trans HK6_.out.1, (c7.row (by omega) (by show ¬ _ = _; omega)).trans HK6_.out.2⟩
    have rl7 := RL6_.out.noU c7 (fun b _ hb => by subst hb; rw [f3]; exact aq_nou _ _ _)
    have hdd := HD_.out _ hK7
    clear HDD_ HK6_ HB6_ hK7
    have HDD_ := hid hdd
    clear hdd
    have E27_ := hid e27
    clear e27
    have HB7_ := hid hb7
    clear hb7
    have RL7_ := hid rl7
    clear rl7
    have E3_ := hid e3
    clear e3
    go_wp2
    refine (show _ ∧ _ from ⟨HDD_.out, ?_⟩)
    go_wp2
    exact bodyPost_ret (results_cell22 rfl rfl rfl (v := .agg (rc r' t1 t2 t3)) (v2 := .agg (aq 0 zeroX I)) (by rw [ldRB _ _ _ (by rw [E27_.out]; simp), E27_.out, rc_all]) (by rw [ldAns _ _ _ (by rw [E3_.out]; simp), E3_.out, aq_all])) rfl ⟨t1, t2, t3, by rw [HR_.out], by rw [HR_.out]; exact RL7_.out, HB7_.out⟩
  rcases (show kd = 3 ∨ kd ≠ 3 by omega) with k3 | k3
  · subst k3
    have hR : doRR r ⟨3, ty, q, p, x⟩ = ((takeR r p q).1, ⟨0, (takeR r p q).2.1, (takeR r p q).2.2⟩) := by unfold doRR; rw [if_neg (show ¬ ((3 : Int) = 0) by decide)]; rw [if_neg (show ¬ ((3 : Int) = 1) by decide)]; rw [if_neg (show ¬ ((3 : Int) = 2) by decide)]; rw [if_pos rfl]
    have hc := rtake_c r s1 s2 s3 p q hok.hs W1 h1
    have r0 := bx.r0
    have r1 := bx.r1
    clear h1
    have HC_ := hid hc
    clear hc
    have HR_ := hid hR
    clear hR
    have BX_ := hid bx
    clear bx
    go_wp2_with fail
    refine HC_.out.mono ?_
    rintro e w3 ⟨t1, t2, t3, rfl, rl3, b3⟩
    dsimp only
    have bx3 := BX_.out.below b3
    have hR := HR_.out
    clear HR_ HC_ BX_ b3 r0 r1
    generalize (takeR r p q).2.1 = X at *
    generalize (takeR r p q).2.2 = I at *
    generalize (takeR r p q).1 = r' at *
    have r0 := bx3.r0
    have o0 := bx3.o0
    have r4 := bx3.r4
    have o4 := bx3.o4
    have hst : ∀ V, row? V (w.heap.size + 1 + 1 + 1 + 1) = aq 0 zeroX false → own? V (w.heap.size + 1 + 1 + 1 + 1) = true → (stAt 36 (.pointer (some ⟨w.heap.size + 1 + 1 + 1 + 1, 1, none⟩)) (.agg (xc X))).run Try.prog V = .ok () (V.setRow (w.heap.size + 1 + 1 + 1 + 1) (aq 0 X false)) := fun V h1 h2 => stXP V _ 0 zeroX X false h1 h2
    obtain ⟨wq, hq⟩ : ∃ wq, w3.setRow w.heap.size (rc r' t1 t2 t3) = wq := ⟨_, rfl⟩
    have q0 : row? wq w.heap.size = rc r' t1 t2 t3 := by rw [← hq, row_setRow _ _ _ _ (by rw [r0]; simp), if_pos rfl]
    have q4 : row? wq (w.heap.size + 1 + 1 + 1 + 1) = aq 0 zeroX false := by rw [← hq, row_setRow _ _ _ _ (by rw [r0]; simp), if_neg (by omega)]; exact r4
    have qo4 : own? wq (w.heap.size + 1 + 1 + 1 + 1) = true := by rw [← hq, own_setRow]; exact o4
    have hst := hst wq q4 qo4
    have HR_ := hid hR
    clear hR
    have BX3_ := hid bx3
    clear bx3
    have RL3_ := hid rl3
    clear rl3
    go_upto_region 13 with (fail)
    obtain ⟨w4, hE⟩ : ∃ w4, (wq.setRow (w.heap.size + 1 + 1 + 1 + 1) (aq 0 X false)).setCell ⟨w.heap.size + 1 + 1 + 1 + 1, 4, none⟩ (.bool I) = w4 := ⟨_, rfl⟩
    have c4 : Chg (fun b => b = w.heap.size ∨ b = w.heap.size + 1 + 1 + 1 + 1) w3 w4 := by rw [← hE]; exact (by rw [← hq]; exact (((Chg.refl (fun b => b = w.heap.size ∨ b = w.heap.size + 1 + 1 + 1 + 1) w3).setRow (.inr (.inl rfl)) _).setRow (.inr (.inr rfl)) _).setCell (p := ⟨w.heap.size + 1 + 1 + 1 + 1, 4, none⟩) (.inr (.inr rfl)) _)
    have e0 : row? w4 w.heap.size = rc r' t1 t2 t3 := by rw [← hE]; exact (by rw [row_setCell, if_neg (by show ¬ w.heap.size = w.heap.size + 1 + 1 + 1 + 1; omega), row_setRow _ _ _ _ (by rw [q4]; simp), if_neg (by omega)]; exact q0)
    have e4 : row? w4 (w.heap.size + 1 + 1 + 1 + 1) = aq 0 X I := by rw [← hE]; exact (by rw [row_setCell, if_pos rfl, row_setRow _ _ _ _ (by rw [q4]; simp), if_pos rfl]; rfl)
    rw [hE]
    have hF := fin_of BX3_.out RL3_.out c4 e0 e4
    clear hE c4 e0 e4 r0 o0 r4 o4 hst q0 q4 qo4 hq BX3_ RL3_
    have kr0 := fun d => (grK_is (K := KD w.heap.size (w.heap.size + 1 + 1 + 1 + 1) (rc r' t1 t2 t3) (aq 0 X I)) (w := w4) ⟨hF.x0, hF.x4⟩ d).1
    have kr4 := fun d => (grK_is (K := KD w.heap.size (w.heap.size + 1 + 1 + 1 + 1) (rc r' t1 t2 t3) (aq 0 X I)) (w := w4) ⟨hF.x0, hF.x4⟩ d).2
    have hd : ∀ w', KD w.heap.size (w.heap.size + 1 + 1 + 1 + 1) (rc r' t1 t2 t3) (aq 0 X I) w' → ∃ d, w' = grK (KD w.heap.size (w.heap.size + 1 + 1 + 1 + 1) (rc r' t1 t2 t3) (aq 0 X I)) w4 d := fun w' h => ⟨w', grK_of h⟩
    have HD_ := hid hd
    clear hd
    refine wp_region_seg (grK (KD w.heap.size (w.heap.size + 1 + 1 + 1 + 1) (rc r' t1 t2 t3) (aq 0 X I)) w4) [([0, 1], 2), ([], 3)] (by kernel_rfl) (by kernel_rfl) (fun c a b w hd h => And.intro (hd.symm.trans (And.left h)) (And.right h)) (HD_.out _ ⟨hF.x0, hF.x4⟩) ?_
    simp only [wpSeg, selL, List.filterMap_cons, List.filterMap_nil, List.getElem?_cons_zero, List.getElem?_cons_succ]
    refine (show wpQuiet _ _ _ _ [_, _] _ from ?_)
    have HF_ := hid hF
    clear hF
    repeat (go_big_quiet_step (fail))
    refine wpQuiet_nil ?_
    have x2 : row? w4.drew (w.heap.size + 1 + 1) = rc zeroRB nilS nilS nilS := HF_.out.x2
    have y2 : own? w4.drew (w.heap.size + 1 + 1) = true := HF_.out.y2
    have x3 : row? w4.drew (w.heap.size + 1 + 1 + 1) = aq 0 zeroX false := HF_.out.x3
    have y3 : own? w4.drew (w.heap.size + 1 + 1 + 1) = true := HF_.out.y3
    have hb5 : Below w.heap.size w w4.drew := HF_.out.bel.trans (Below.refl _ _).drew
    have hK5 : KD w.heap.size (w.heap.size + 1 + 1 + 1 + 1) (rc r' t1 t2 t3) (aq 0 X I) w4.drew := ⟨HF_.out.x0, HF_.out.x4⟩
    have hl5 : w.heap.size + 5 ≤ w4.drew.heap.size := HF_.out.lt
    have rl5 : RL w4.drew r' t1 t2 t3 := HF_.out.rl.below (Below.refl _ _).drew
    clear kr0 kr4 HF_
    generalize w4.drew = w5 at *
    obtain ⟨w6, hE, e2, eo2, hb6, c6⟩ := set_own (w0 := w) (w := w5) (b := w.heap.size + 1 + 1) (B := rc r' t1 t2 t3) (by omega) x2 y2 (by simp) hb5
    have f3 := (c6.row (b := w.heap.size + 1 + 1 + 1) (by omega) (by show ¬ _ = _; omega)).trans x3
    have fo3 := (c6.own (b := w.heap.size + 1 + 1 + 1) (by omega) (by show ¬ _ = _; omega)).trans y3
    have hK6 : KD w.heap.size (w.heap.size + 1 + 1 + 1 + 1) (rc r' t1 t2 t3) (aq 0 X I) w6 := ⟨(c6.row (by omega) (by show ¬ _ = _; omega)).trans hK5.1, (c6.row (by omega) (by show ¬ _ = _; omega)).trans hK5.2⟩
    have rl6 := rl5.noU c6 (fun b _ hb => by subst hb; rw [x2]; exact rc_nou _ _ _ _)
    have hdd := HD_.out _ hK6
    have hl6 := c6.size
    clear rl5 hb5 hK5
    have HDD_ := hid hdd
    clear hdd
    have E2_ := hid e2
    clear e2
    have HB6_ := hid hb6
    clear hb6
    have HK6_ := hid hK6
    clear hK6
    have RL6_ := hid rl6
    clear rl6
    have EO2_ := hid eo2
    clear eo2
    go_wp2
    refine (show _ ∧ _ from ⟨HDD_.out, ?_⟩)
    refine wpQuiet_nil ?_
    obtain ⟨w7, hE7, e3, _, hb7, c7⟩ := set_own (w0 := w) (w := w6) (b := w.heap.size + 1 + 1 + 1) (B := aq 0 X I) (by omega) f3 fo3 (by simp) HB6_.out
    have e27 := (c7.row (own_lt EO2_.out) (by show ¬ _ = _; omega)).trans E2_.out
    have hK7 : KD w.heap.size (w.heap.size + 1 + 1 + 1 + 1) (rc r' t1 t2 t3) (aq 0 X I) w7 := ⟨(c7.row (by omega) (by show ¬ _ = _; omega)).trans HK6_.out.1, (c7.row (by omega) (by show ¬ _ = _; omega)).trans HK6_.out.2⟩
    have rl7 := RL6_.out.noU c7 (fun b _ hb => by subst hb; rw [f3]; exact aq_nou _ _ _)
    have hdd := HD_.out _ hK7
    clear HDD_ HK6_ HB6_ hK7
    have HDD_ := hid hdd
    clear hdd
    have E27_ := hid e27
    clear e27
    have HB7_ := hid hb7
    clear hb7
    have RL7_ := hid rl7
    clear rl7
    have E3_ := hid e3
    clear e3
    go_wp2
    refine (show _ ∧ _ from ⟨HDD_.out, ?_⟩)
    go_wp2
    exact bodyPost_ret (results_cell22 rfl rfl rfl (v := .agg (rc r' t1 t2 t3)) (v2 := .agg (aq 0 X I)) (by rw [ldRB _ _ _ (by rw [E27_.out]; simp), E27_.out, rc_all]) (by rw [ldAns _ _ _ (by rw [E3_.out]; simp), E3_.out, aq_all])) rfl ⟨t1, t2, t3, by rw [HR_.out], by rw [HR_.out]; exact RL7_.out, HB7_.out⟩
  rcases (show kd = 4 ∨ kd ≠ 4 by omega) with k4 | k4
  · subst k4
    have hR : doRR r ⟨4, ty, q, p, x⟩ = ((forgetR r p).1, ⟨0, zeroX, (forgetR r p).2⟩) := by unfold doRR; rw [if_neg (show ¬ ((4 : Int) = 0) by decide)]; rw [if_neg (show ¬ ((4 : Int) = 1) by decide)]; rw [if_neg (show ¬ ((4 : Int) = 2) by decide)]; rw [if_neg (show ¬ ((4 : Int) = 3) by decide)]; rw [if_pos rfl]
    have hc := rforget_c r s1 s2 s3 p hok.hs hok.sn hok.ls W1 h1
    have r0 := bx.r0
    have r1 := bx.r1
    clear h1
    have HC_ := hid hc
    clear hc
    have HR_ := hid hR
    clear hR
    have BX_ := hid bx
    clear bx
    go_wp2_with fail
    refine HC_.out.mono ?_
    rintro e w3 ⟨t1, t2, t3, rfl, rl3, b3⟩
    dsimp only
    have bx3 := BX_.out.below b3
    have hR := HR_.out
    clear HR_ HC_ BX_ b3 r0 r1
    generalize (forgetR r p).2 = I at *
    generalize (forgetR r p).1 = r' at *
    have r0 := bx3.r0
    have o0 := bx3.o0
    have r4 := bx3.r4
    have o4 := bx3.o4

    have HR_ := hid hR
    clear hR
    have BX3_ := hid bx3
    clear bx3
    have RL3_ := hid rl3
    clear rl3
    go_upto_region 13 with (fail)
    obtain ⟨w4, hE⟩ : ∃ w4, (w3.setRow w.heap.size (rc r' t1 t2 t3)).setCell ⟨w.heap.size + 1 + 1 + 1 + 1, 4, none⟩ (.bool I) = w4 := ⟨_, rfl⟩
    have c4 : Chg (fun b => b = w.heap.size ∨ b = w.heap.size + 1 + 1 + 1 + 1) w3 w4 := by rw [← hE]; exact (((Chg.refl (fun b => b = w.heap.size ∨ b = w.heap.size + 1 + 1 + 1 + 1) w3).setRow (.inr (.inl rfl)) _).setCell (p := ⟨w.heap.size + 1 + 1 + 1 + 1, 4, none⟩) (.inr (.inr rfl)) _)
    have e0 : row? w4 w.heap.size = rc r' t1 t2 t3 := by rw [← hE]; exact (by rw [row_setCell, if_neg (by show ¬ w.heap.size = w.heap.size + 1 + 1 + 1 + 1; omega), row_setRow _ _ _ _ (by rw [r0]; simp), if_pos rfl])
    have e4 : row? w4 (w.heap.size + 1 + 1 + 1 + 1) = aq 0 zeroX I := by rw [← hE]; exact (by rw [row_setCell, if_pos rfl, row_setRow _ _ _ _ (by rw [r0]; simp), if_neg (by omega), r4]; rfl)
    rw [hE]
    have hF := fin_of BX3_.out RL3_.out c4 e0 e4
    clear hE c4 e0 e4 r0 o0 r4 o4 BX3_ RL3_
    clear w3
    have kr0 := fun d => (grK_is (K := KD w.heap.size (w.heap.size + 1 + 1 + 1 + 1) (rc r' t1 t2 t3) (aq 0 zeroX I)) (w := w4) ⟨hF.x0, hF.x4⟩ d).1
    have kr4 := fun d => (grK_is (K := KD w.heap.size (w.heap.size + 1 + 1 + 1 + 1) (rc r' t1 t2 t3) (aq 0 zeroX I)) (w := w4) ⟨hF.x0, hF.x4⟩ d).2
    have hd : ∀ w', KD w.heap.size (w.heap.size + 1 + 1 + 1 + 1) (rc r' t1 t2 t3) (aq 0 zeroX I) w' → ∃ d, w' = grK (KD w.heap.size (w.heap.size + 1 + 1 + 1 + 1) (rc r' t1 t2 t3) (aq 0 zeroX I)) w4 d := fun w' h => ⟨w', grK_of h⟩
    have HD_ := hid hd
    clear hd
    refine wp_region_seg (grK (KD w.heap.size (w.heap.size + 1 + 1 + 1 + 1) (rc r' t1 t2 t3) (aq 0 zeroX I)) w4) [([0, 1], 2), ([], 3)] (by kernel_rfl) (by kernel_rfl) (fun c a b w hd h => And.intro (hd.symm.trans (And.left h)) (And.right h)) (HD_.out _ ⟨hF.x0, hF.x4⟩) ?_
    simp only [wpSeg, selL, List.filterMap_cons, List.filterMap_nil, List.getElem?_cons_zero, List.getElem?_cons_succ]
    refine (show wpQuiet _ _ _ _ [_, _] _ from ?_)
    have HF_ := hid hF
    clear hF
    repeat (go_big_quiet_step (fail))
    refine wpQuiet_nil ?_
    have x2 : row? w4.drew (w.heap.size + 1 + 1) = rc zeroRB nilS nilS nilS := HF_.out.x2
    have y2 : own? w4.drew (w.heap.size + 1 + 1) = true := HF_.out.y2
    have x3 : row? w4.drew (w.heap.size + 1 + 1 + 1) = aq 0 zeroX false := HF_.out.x3
    have y3 : own? w4.drew (w.heap.size + 1 + 1 + 1) = true := HF_.out.y3
    have hb5 : Below w.heap.size w w4.drew := HF_.out.bel.trans (Below.refl _ _).drew
    have hK5 : KD w.heap.size (w.heap.size + 1 + 1 + 1 + 1) (rc r' t1 t2 t3) (aq 0 zeroX I) w4.drew := ⟨HF_.out.x0, HF_.out.x4⟩
    have hl5 : w.heap.size + 5 ≤ w4.drew.heap.size := HF_.out.lt
    have rl5 : RL w4.drew r' t1 t2 t3 := HF_.out.rl.below (Below.refl _ _).drew
    clear kr0 kr4 HF_
    generalize w4.drew = w5 at *
    obtain ⟨w6, hE, e2, eo2, hb6, c6⟩ := set_own (w0 := w) (w := w5) (b := w.heap.size + 1 + 1) (B := rc r' t1 t2 t3) (by omega) x2 y2 (by simp) hb5
    have f3 := (c6.row (b := w.heap.size + 1 + 1 + 1) (by omega) (by show ¬ _ = _; omega)).trans x3
    have fo3 := (c6.own (b := w.heap.size + 1 + 1 + 1) (by omega) (by show ¬ _ = _; omega)).trans y3
    have hK6 : KD w.heap.size (w.heap.size + 1 + 1 + 1 + 1) (rc r' t1 t2 t3) (aq 0 zeroX I) w6 := ⟨(c6.row (by omega) (by show ¬ _ = _; omega)).trans hK5.1, (c6.row (by omega) (by show ¬ _ = _; omega)).trans hK5.2⟩
    have rl6 := rl5.noU c6 (fun b _ hb => by subst hb; rw [x2]; exact rc_nou _ _ _ _)
    have hdd := HD_.out _ hK6
    have hl6 := c6.size
    clear rl5 hb5 hK5
    have HDD_ := hid hdd
    clear hdd
    have E2_ := hid e2
    clear e2
    have HB6_ := hid hb6
    clear hb6
    have HK6_ := hid hK6
    clear hK6
    have RL6_ := hid rl6
    clear rl6
    have EO2_ := hid eo2
    clear eo2
    go_wp2
    refine (show _ ∧ _ from ⟨HDD_.out, ?_⟩)
    refine wpQuiet_nil ?_
    obtain ⟨w7, hE7, e3, _, hb7, c7⟩ := set_own (w0 := w) (w := w6) (b := w.heap.size + 1 + 1 + 1) (B := aq 0 zeroX I) (by omega) f3 fo3 (by simp) HB6_.out
    have e27 := (c7.row (own_lt EO2_.out) (by show ¬ _ = _; omega)).trans E2_.out
    have hK7 : KD w.heap.size (w.heap.size + 1 + 1 + 1 + 1) (rc r' t1 t2 t3) (aq 0 zeroX I) w7 := ⟨(c7.row (by omega) (by show ¬ _ = _; omega)).trans HK6_.out.1, (c7.row (by omega) (by show ¬ _ = _; omega)).trans HK6_.out.2⟩
    have rl7 := RL6_.out.noU c7 (fun b _ hb => by subst hb; rw [f3]; exact aq_nou _ _ _)
    have hdd := HD_.out _ hK7
    clear HDD_ HK6_ HB6_ hK7
    have HDD_ := hid hdd
    clear hdd
    have E27_ := hid e27
    clear e27
    have HB7_ := hid hb7
    clear hb7
    have RL7_ := hid rl7
    clear rl7
    have E3_ := hid e3
    clear e3
    go_wp2
    refine (show _ ∧ _ from ⟨HDD_.out, ?_⟩)
    go_wp2
    exact bodyPost_ret (results_cell22 rfl rfl rfl (v := .agg (rc r' t1 t2 t3)) (v2 := .agg (aq 0 zeroX I)) (by rw [ldRB _ _ _ (by rw [E27_.out]; simp), E27_.out, rc_all]) (by rw [ldAns _ _ _ (by rw [E3_.out]; simp), E3_.out, aq_all])) rfl ⟨t1, t2, t3, by rw [HR_.out], by rw [HR_.out]; exact RL7_.out, HB7_.out⟩
  have hR : doRR r ⟨kd, ty, q, p, x⟩ = (r, ⟨0, zeroX, false⟩) := by unfold doRR; rw [if_neg k0, if_neg k1, if_neg k2, if_neg k3, if_neg k4]
  have r1 := bx.r1
  have HR_ := hid hR
  clear hR
  go_upto_region 13 with (fail)
  have hF : FinQ w r s1 s2 s3 (aq 0 zeroX false) W1 := ⟨bx.r0, bx.r4, bx.r2, bx.o2, bx.r3, bx.o3, bx.lt, bx.bel, h1⟩
  clear h1 r1 bx
  have kr0 := fun d => (grK_is (K := KD w.heap.size (w.heap.size + 1 + 1 + 1 + 1) (rc r s1 s2 s3) (aq 0 zeroX false)) (w := W1) ⟨hF.x0, hF.x4⟩ d).1
  have kr4 := fun d => (grK_is (K := KD w.heap.size (w.heap.size + 1 + 1 + 1 + 1) (rc r s1 s2 s3) (aq 0 zeroX false)) (w := W1) ⟨hF.x0, hF.x4⟩ d).2
  have hd : ∀ w', KD w.heap.size (w.heap.size + 1 + 1 + 1 + 1) (rc r s1 s2 s3) (aq 0 zeroX false) w' → ∃ d, w' = grK (KD w.heap.size (w.heap.size + 1 + 1 + 1 + 1) (rc r s1 s2 s3) (aq 0 zeroX false)) W1 d := fun w' h => ⟨w', grK_of h⟩
  have HD_ := hid hd
  clear hd
  refine wp_region_seg (grK (KD w.heap.size (w.heap.size + 1 + 1 + 1 + 1) (rc r s1 s2 s3) (aq 0 zeroX false)) W1) [([0, 1], 2), ([], 3)] (by kernel_rfl) (by kernel_rfl) (fun c a b w hd h => And.intro (hd.symm.trans (And.left h)) (And.right h)) (HD_.out _ ⟨hF.x0, hF.x4⟩) ?_
  simp only [wpSeg, selL, List.filterMap_cons, List.filterMap_nil, List.getElem?_cons_zero, List.getElem?_cons_succ]
  refine (show wpQuiet _ _ _ _ [_, _] _ from ?_)
  have HF_ := hid hF
  clear hF
  repeat (go_big_quiet_step (fail))
  refine wpQuiet_nil ?_
  have x2 : row? W1.drew (w.heap.size + 1 + 1) = rc zeroRB nilS nilS nilS := HF_.out.x2
  have y2 : own? W1.drew (w.heap.size + 1 + 1) = true := HF_.out.y2
  have x3 : row? W1.drew (w.heap.size + 1 + 1 + 1) = aq 0 zeroX false := HF_.out.x3
  have y3 : own? W1.drew (w.heap.size + 1 + 1 + 1) = true := HF_.out.y3
  have hb5 : Below w.heap.size w W1.drew := HF_.out.bel.trans (Below.refl _ _).drew
  have hK5 : KD w.heap.size (w.heap.size + 1 + 1 + 1 + 1) (rc r s1 s2 s3) (aq 0 zeroX false) W1.drew := ⟨HF_.out.x0, HF_.out.x4⟩
  have hl5 : w.heap.size + 5 ≤ W1.drew.heap.size := HF_.out.lt
  have rl5 : RL W1.drew r s1 s2 s3 := HF_.out.rl.below (Below.refl _ _).drew
  clear kr0 kr4 HF_
  generalize W1.drew = w5 at *
  obtain ⟨w6, hE, e2, eo2, hb6, c6⟩ := set_own (w0 := w) (w := w5) (b := w.heap.size + 1 + 1) (B := rc r s1 s2 s3) (by omega) x2 y2 (by simp) hb5
  have f3 := (c6.row (b := w.heap.size + 1 + 1 + 1) (by omega) (by show ¬ _ = _; omega)).trans x3
  have fo3 := (c6.own (b := w.heap.size + 1 + 1 + 1) (by omega) (by show ¬ _ = _; omega)).trans y3
  have hK6 : KD w.heap.size (w.heap.size + 1 + 1 + 1 + 1) (rc r s1 s2 s3) (aq 0 zeroX false) w6 := ⟨(c6.row (by omega) (by show ¬ _ = _; omega)).trans hK5.1, (c6.row (by omega) (by show ¬ _ = _; omega)).trans hK5.2⟩
  have rl6 := rl5.noU c6 (fun b _ hb => by subst hb; rw [x2]; exact rc_nou _ _ _ _)
  have hdd := HD_.out _ hK6
  have hl6 := c6.size
  clear rl5 hb5 hK5
  have HDD_ := hid hdd
  clear hdd
  have E2_ := hid e2
  clear e2
  have HB6_ := hid hb6
  clear hb6
  have HK6_ := hid hK6
  clear hK6
  have RL6_ := hid rl6
  clear rl6
  have EO2_ := hid eo2
  clear eo2
  go_wp2
  refine (show _ ∧ _ from ⟨HDD_.out, ?_⟩)
  refine wpQuiet_nil ?_
  obtain ⟨w7, hE7, e3, _, hb7, c7⟩ := set_own (w0 := w) (w := w6) (b := w.heap.size + 1 + 1 + 1) (B := aq 0 zeroX false) (by omega) f3 fo3 (by simp) HB6_.out
  have e27 := (c7.row (own_lt EO2_.out) (by show ¬ _ = _; omega)).trans E2_.out
  have hK7 : KD w.heap.size (w.heap.size + 1 + 1 + 1 + 1) (rc r s1 s2 s3) (aq 0 zeroX false) w7 := ⟨(c7.row (by omega) (by show ¬ _ = _; omega)).trans HK6_.out.1, (c7.row (by omega) (by show ¬ _ = _; omega)).trans HK6_.out.2⟩
  have rl7 := RL6_.out.noU c7 (fun b _ hb => by subst hb; rw [f3]; exact aq_nou _ _ _)
  have hdd := HD_.out _ hK7
  clear HDD_ HK6_ HB6_ hK7
  have HDD_ := hid hdd
  clear hdd
  have E27_ := hid e27
  clear e27
  have HB7_ := hid hb7
  clear hb7
  have RL7_ := hid rl7
  clear rl7
  have E3_ := hid e3
  clear e3
  go_wp2
  refine (show _ ∧ _ from ⟨HDD_.out, ?_⟩)
  go_wp2
  exact bodyPost_ret (results_cell22 rfl rfl rfl (v := .agg (rc r s1 s2 s3)) (v2 := .agg (aq 0 zeroX false)) (by rw [ldRB _ _ _ (by rw [E27_.out]; simp), E27_.out, rc_all]) (by rw [ldAns _ _ _ (by rw [E3_.out]; simp), E3_.out, aq_all])) rfl ⟨s1, s2, s3, by rw [HR_.out], by rw [HR_.out]; exact RL7_.out, HB7_.out⟩
end Go.Proofs.Ytoblgdjjpbnemaa
