/-
  The walk of the reference's Keep. No condition.
-/
import Derived.Test.YtoblgdjjpbnemaaSqR
namespace Go.Proofs.Ytoblgdjjpbnemaa
open Go.RowKit

def keepR (r : RB) (p : Prt) (q : Int) (x : X3) : RB × Bool :=
  if (knownR r p && rightB q) = true then (⟨r.sent, r.sn, r.ls, withL r.hs p ++ [⟨p, q, x⟩]⟩, true) else (r, false)
attribute [-go_sem] Instr.buildSlice
attribute [local go_sem] bsH bsL bsP bsP0
set_option maxRecDepth 100000 in
set_option maxHeartbeats 8000000 in
theorem rkeep_c (r : RB) (s1 s2 s3 : Sl) (p : Prt) (q : Int) (x : X3) (hl : r.hs.length ≤ 900) (hsn : r.sn.length ≤ 900) (w : World) (h : RL w r s1 s2 s3) :
    Calls Try.prog 21 #[.agg (rc r s1 s2 s3), .agg (pa p), .int .i64 q, .agg (xc x)] w fun e w' => Back w (keepR r p q x).1 (fun v => .tuple #[v, .bool (keepR r p q x).2]) e w' := by
  have H_ := hid h
  clear h
  go_enter Try.func21, Try.ntmps21
  go_upto_region 1 with (fail)
  obtain ⟨W1, hW1⟩ : ∃ W1, (((w.alloc (.cells (rc r s1 s2 s3) 31)).alloc (.cells (pa p) 35)).alloc (.cells (xc x) 36)).alloc (.cells (rc zeroRB nilS nilS nilS) 31) = W1 := ⟨_, rfl⟩
  have b1 : Below w.heap.size w W1 := by rw [← hW1]; exact ((((Below.refl _ _).alloc (Nat.le_refl _) _).alloc (by simp) _).alloc (by simp; omega) _).alloc (by simp; omega) _
  have m2 : ¬ w.heap.size = w.heap.size + 1 + 1 := by omega
  have m3 : ¬ w.heap.size = w.heap.size + 1 + 1 + 1 := by omega
  have r0 : row? W1 w.heap.size = rc r s1 s2 s3 := by rw [← hW1]; simp [row_alloc, rowOf, m2, m3]
  have o0 : own? W1 w.heap.size = true := by rw [← hW1]; simp [own_alloc, ownOf]
  have r1 : row? W1 (w.heap.size + 1) = pa p := by rw [← hW1]; simp [row_alloc, rowOf]
  have r2 : row? W1 (w.heap.size + 1 + 1) = xc x := by rw [← hW1]; simp [row_alloc, rowOf]
  have r3 : row? W1 (w.heap.size + 1 + 1 + 1) = rc zeroRB nilS nilS nilS := by rw [← hW1]; simp [row_alloc, rowOf]
  have o3 : own? W1 (w.heap.size + 1 + 1 + 1) = true := by rw [← hW1]; simp [own_alloc, ownOf]
  rw [rc_lit, hW1]
  clear hW1 m2 m3
  have l3 := own_lt o3
  have hc := known_c r s1 s2 s3 p (by omega) W1 (H_.out.below b1)
  have B1_ := hid b1
  clear b1
  have HC_ := hid hc
  clear hc
  have O0_ := hid o0
  clear o0
  have O3_ := hid o3
  clear o3
  have R3_ := hid r3
  clear r3
  have R2_ := hid r2
  clear r2
  go_wp2_with fail
  refine HC_.out.mono ?_
  rintro e w2 ⟨rfl, b2⟩
  dsimp only
  have hb2 := B1_.out.trans (b2.mono B1_.out.size)
  have hrow : ∀ g, g < W1.heap.size → row? w2 g = row? W1 g := fun g hg => row_of_block (b2.block g hg)
  have hown : ∀ g, g < W1.heap.size → own? w2 g = own? W1 g := fun g hg => own_of_block (b2.block g hg)
  have q0 := (hrow w.heap.size (by omega)).trans r0
  have q1 := (hrow (w.heap.size + 1) (by omega)).trans r1
  have q2 := (hrow (w.heap.size + 1 + 1) (by omega)).trans R2_.out
  have q3 := (hrow (w.heap.size + 1 + 1 + 1) (by omega)).trans R3_.out
  have p0 := (hown w.heap.size (by omega)).trans O0_.out
  have p3 := (hown (w.heap.size + 1 + 1 + 1) (by omega)).trans O3_.out
  have l3w : w.heap.size + 1 + 1 + 1 < w2.heap.size := own_lt p3
  clear HC_ B1_ b2 hrow hown r0 r1 R2_ R3_ O0_ O3_

  by_cases hbad : (knownR r p && rightB q) = true
  · obtain ⟨hk, hrq⟩ := Bool.and_eq_true_iff.1 hbad
    have hq' := of_decide_eq_true hrq
    obtain ⟨y1, y2⟩ := hq'
    have y1' : ¬ q < 0 := by omega
    have y2' : ¬ 65535 < q := by omega
    have hfr : keepR r p q x = (⟨r.sent, r.sn, r.ls, withL r.hs p ++ [⟨p, q, x⟩]⟩, true) := if_pos hbad
    rw [hk]
    have hc := without_c r s1 s2 s3 p hl w2 (H_.out.below hb2)
    clear hbad hk hrq
    have HFR_ := hid hfr
    clear hfr
    have HC_ := hid hc
    clear hc
    have HB2_ := hid hb2
    clear hb2
    have Q2_ := hid q2
    clear q2
    have Q3_ := hid q3
    clear q3
    have P0_ := hid p0
    clear p0
    have P3_ := hid p3
    clear p3
    go_wp2_with fail
    refine HC_.out.mono ?_
    rintro e w3 ⟨s', rfl, ho3, b3⟩
    dsimp only
    have hb3 := HB2_.out.trans (b3.mono HB2_.out.size)
    have hrow : ∀ g, g < w2.heap.size → row? w3 g = row? w2 g := fun g hg => row_of_block (b3.block g hg)
    have hown : ∀ g, g < w2.heap.size → own? w3 g = own? w2 g := fun g hg => own_of_block (b3.block g hg)
    have t0 := (hrow w.heap.size (by omega)).trans q0
    have t1 := (hrow (w.heap.size + 1) (by omega)).trans q1
    have t2 := (hrow (w.heap.size + 1 + 1) (by omega)).trans Q2_.out
    have t3 := (hrow (w.heap.size + 1 + 1 + 1) (by omega)).trans Q3_.out
    have tp0 := (hown w.heap.size (by omega)).trans P0_.out
    have tp3 := (hown (w.heap.size + 1 + 1 + 1) (by omega)).trans P3_.out
    have z3 := b3.size
    clear HC_ HB2_ b3 hrow hown q0 q1 Q2_ Q3_ P0_ P3_
    go_upto_region 4 with (fail)
    obtain ⟨w4, hE, e0, p0, hb4, c4⟩ := set_own (B := rc ⟨r.sent, r.sn, r.ls, withL r.hs p⟩ s1 s2 s') (Nat.le_refl _) t0 tp0 (by simp) hb3
    rw [hE]
    have z4 := c4.size
    have e1 := (c4.row (b := w.heap.size + 1) (by omega) (by show ¬ _ = _; omega)).trans t1
    have e2 := (c4.row (b := w.heap.size + 1 + 1) (by omega) (by show ¬ _ = _; omega)).trans t2
    have e3 := (c4.row (b := w.heap.size + 1 + 1 + 1) (by omega) (by show ¬ _ = _; omega)).trans t3
    have p3 := (c4.own (b := w.heap.size + 1 + 1 + 1) (by omega) (by show ¬ _ = _; omega)).trans tp3
    have ho4 := owns_chg ho3 c4 (fun b hb e => by omega)
    have hwl := withL_len r.hs p
    obtain ⟨v5, w5, hrun5, ho5, hb5⟩ := elH.app ⟨p, q, x⟩ _ (by omega) ho4 (by omega)
    obtain ⟨L, hL⟩ : ∃ L, withL r.hs p ++ [(⟨p, q, x⟩ : HaR)] = L := ⟨_, rfl⟩
    have hfr := HFR_.out
    rw [hL] at ho5 hfr
    clear hL HFR_
    obtain ⟨a5, c5, rfl, hr5, hlo5, _⟩ := elH.rows2 ho5
    have n0 : ¬ w.heap.size = w4.heap.size := by omega
    have n1 : ¬ w.heap.size + 1 = w4.heap.size := by omega
    have n2 : ¬ w.heap.size + 1 + 1 = w4.heap.size := by omega
    have x0 : row? w5 w.heap.size = rc ⟨r.sent, r.sn, r.ls, withL r.hs p⟩ s1 s2 s' := (row_of_block (hb5.block _ (by omega))).trans e0
    have xp0 : own? w5 w.heap.size = true := (own_of_block (hb5.block _ (by omega))).trans p0
    have x3 : row? w5 (w.heap.size + 1 + 1 + 1) = rc zeroRB nilS nilS nilS := (row_of_block (hb5.block _ (by omega))).trans e3
    have xp3 : own? w5 (w.heap.size + 1 + 1 + 1) = true := (own_of_block (hb5.block _ (by omega))).trans p3
    have hb5w : Below w.heap.size w w5 := hb4.trans (hb5.mono (by omega))
    have hset := rc_set18 ⟨r.sent, r.sn, r.ls, withL r.hs p⟩ s1 s2 s' ⟨a5, c5⟩ L
    clear t0 t1 t2 t3 tp0 tp3 hE ho3 ho4 ho5 hb5 hb3 hb4 c4 e3 p3 p0
    have HRUN5_ := hid hrun5
    clear hrun5
    have HR5_ := hid hr5
    clear hr5
    have HLO5_ := hid hlo5
    clear hlo5
    have HSET_ := hid hset
    clear hset
    have HB5W_ := hid hb5w
    clear hb5w
    have HFR_ := hid hfr
    clear hfr
    have X3_ := hid x3
    clear x3
    have XP3_ := hid xp3
    clear xp3
    go_upto_region 5 with (at_builtin; refine wpList_append_runE rfl _ _ 29 rfl _ _ rfl rfl HRUN5_.out ?_)
    have c8 : Chg (fun b => b = w.heap.size ∨ b = w.heap.size + 1 + 1 + 1) w5 (w5.setCell ⟨w.heap.size, 18, none⟩ (.slice a5 L.length c5)) := (Chg.refl (fun b => b = w.heap.size ∨ b = w.heap.size + 1 + 1 + 1) w5).setCell (p := ⟨w.heap.size, 18, none⟩) (.inr (.inl rfl)) _
    have u0 : row? (w5.setCell ⟨w.heap.size, 18, none⟩ (.slice a5 L.length c5)) w.heap.size = rc ⟨r.sent, r.sn, r.ls, L⟩ s1 s2 ⟨a5, c5⟩ := by rw [row_setCell, if_pos rfl, x0]; exact HSET_.out
    have u3 : row? (w5.setCell ⟨w.heap.size, 18, none⟩ (.slice a5 L.length c5)) (w.heap.size + 1 + 1 + 1) = rc zeroRB nilS nilS nilS := by rw [row_setCell, if_neg (by show ¬ w.heap.size + 1 + 1 + 1 = w.heap.size; omega)]; exact X3_.out
    have up3 : own? (w5.setCell ⟨w.heap.size, 18, none⟩ (.slice a5 L.length c5)) (w.heap.size + 1 + 1 + 1) = true := by rw [own_setCell]; exact XP3_.out
    generalize w5.setCell ⟨w.heap.size, 18, none⟩ (.slice a5 L.length c5) = w8 at *
    have C8_ := hid c8
    clear c8
    go_wp2
    have c9 := C8_.out.setRow (b := w.heap.size + 1 + 1 + 1) (.inr (.inr rfl)) (rc ⟨r.sent, r.sn, r.ls, L⟩ s1 s2 ⟨a5, c5⟩)
    have e9 : row? (w8.setRow (w.heap.size + 1 + 1 + 1) (rc ⟨r.sent, r.sn, r.ls, L⟩ s1 s2 ⟨a5, c5⟩)) (w.heap.size + 1 + 1 + 1) = rc ⟨r.sent, r.sn, r.ls, L⟩ s1 s2 ⟨a5, c5⟩ := by rw [row_setRow _ _ _ _ (by rw [u3]; simp), if_pos rfl]
    generalize w8.setRow (w.heap.size + 1 + 1 + 1) (rc ⟨r.sent, r.sn, r.ls, L⟩ s1 s2 ⟨a5, c5⟩) = w9 at *
    have hb9 : Below w.heap.size w w9 := HB5W_.out.trans (c9.below HB5W_.out.size (fun k hk e => by omega))
    refine bodyPost_ret (results_cell2 rfl rfl (v := .agg (rc ⟨r.sent, r.sn, r.ls, L⟩ s1 s2 ⟨a5, c5⟩)) (by rw [ldRB _ _ _ (by rw [e9]; simp), e9, rc_all])) rfl ⟨s1, s2, ⟨a5, c5⟩, by rw [HFR_.out]; rfl, ?_, hb9⟩
    rw [HFR_.out]
    exact ⟨(H_.out.below hb9).sn, (H_.out.below hb9).ls, HR5_.out.keptB (by decide) c9 (fun b hb e => by have := (HLO5_.out b hb).1; omega)⟩
  · have hfr : keepR r p q x = (r, false) := if_neg hbad
    have hbad' : knownR r p = false ∨ (knownR r p = true ∧ q < 0) ∨ (knownR r p = true ∧ ¬ q < 0 ∧ 65535 < q) := by
      cases hk : knownR r p with
      | false => exact .inl rfl
      | true =>
        rw [hk, Bool.true_and] at hbad
        have : ¬ (0 ≤ q ∧ q ≤ 65535) := fun h => hbad (decide_eq_true h)
        by_cases h1 : q < 0
        · exact .inr (.inl ⟨rfl, h1⟩)
        · exact .inr (.inr ⟨rfl, h1, by omega⟩)
    clear hbad
    have HFR_ := hid hfr
    clear hfr
    have HB2_ := hid hb2
    clear hb2
    rcases hbad' with hk | ⟨hk, y⟩ | ⟨hk, y, y2⟩ <;> (
      rw [hk]
      clear hk
      go_wp2
      obtain ⟨W2, hE, e1, _, b3, _⟩ := set_own (B := rc r s1 s2 s3) (by omega) q3 p3 (by simp) HB2_.out
      rw [hE]
      exact bodyPost_ret (results_cell2 rfl rfl (v := .agg (rc r s1 s2 s3)) (by rw [ldRB _ _ _ (by rw [e1]; simp), e1, rc_all])) rfl ⟨s1, s2, s3, by rw [HFR_.out]; rfl, by rw [HFR_.out]; exact H_.out.below b3, b3⟩)
end Go.Proofs.Ytoblgdjjpbnemaa
