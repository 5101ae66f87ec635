/-
  The walk of Pick. No condition.
-/
import Derived.Test.YtbdpnmocbpplbaaQuF
import Derived.Shelf.Abstract
namespace Go.Proofs.Ytbdpnmocbpplbaa
open Go.RowKit Go.Conc Go.Shelf

attribute [local go_sem] Oper.semAt_some
theorem pick_clo {kc oc bc rc : Nat} (p : Int) (xs : List Itm) : Clo 24 #[.pointer (some ⟨kc, 0, none⟩), .pointer (some ⟨oc, 0, none⟩), .pointer (some ⟨bc, 0, none⟩)] (fun b => b = oc ∨ b = bc ∨ b = rc) (JP kc oc bc rc p xs) xs (fun k => decide ((k : Int) ≠ p)) where
  run := enters_of Try.func24 (by kernel_rfl) rfl
  call := fun k hk v W hJ hx hoff => by
    have h := (pick1_c k hk v W hJ hx hoff).mono (R' := fun e W' => e = .returned (.tuple #[v, .bool (decide ((k : Int) ≠ p))]) ∧ JP kc oc bc rc p xs (k + 1) W' ∧ Chg (fun b => b = oc ∨ b = bc ∨ b = rc) W W') fun e W' ⟨h1, h2, h3⟩ => ⟨h1, h2, h3.mono (fun b _ hb => hb.imp id .inl)⟩
    exact h
  own := fun k W W' S hJ hc hS => hJ.kept hc hS
  cells := fun k W b hJ hC => by
    rcases hC with rfl | rfl | rfl
    · obtain ⟨q, a, n, c, r, _⟩ := hJ.ro
      exact ⟨own_lt hJ.oo, by rw [r]; simp⟩
    · exact ⟨own_lt hJ.ob, by rw [hJ.rb]; simp⟩
    · exact ⟨own_lt hJ.orr, by rw [hJ.rr]; simp⟩
/-- The cells that Pick and Look lay at their begin. -/
theorem pick_cells (w : World) (p : Int) (xs : List Itm) : ∃ W1, ((((((w.alloc (.cells #[.int .i64 p] 3)).alloc (.cells (ic 0 none 0 0) 32)).alloc (.cells (ic 0 none 0 0) 32)).alloc (.cells #[.bool false] 4)).setRow (w.heap.size + 1 + 1) (ic 0 none 0 0)).setCell ⟨w.heap.size + 1 + 1 + 1, 0, none⟩ (.bool false)) = W1 ∧
    JP w.heap.size (w.heap.size + 1 + 1) (w.heap.size + 1 + 1 + 1) (w.heap.size + 1) p xs 0 W1 ∧ Below w.heap.size w W1 ∧ w.heap.size + 4 ≤ W1.heap.size := by
  refine ⟨_, rfl, ⟨?_, ?_, ?_, ⟨by omega, by omega, by omega⟩, ?_, ?_, ?_, ⟨by omega, by omega⟩, 0, none, 0, 0, ?_, fun h => by omega, fun _ => rfl⟩, ?_, ?_⟩
  · rw [row_setCell, if_neg (by show ¬ _ = _ + 1 + 1 + 1; omega), row_setRow _ _ _ _ (by simp [row_alloc, rowOf]), if_neg (by omega)]; simp [row_alloc, rowOf]; try (rw [if_neg (by omega), if_neg (by omega)])
  · rw [own_setCell, own_setRow]; simp [own_alloc, ownOf]
  · rw [own_setCell, own_setRow]; simp [own_alloc, ownOf]
  · rw [row_setCell, if_pos rfl, row_setRow _ _ _ _ (by simp [row_alloc, rowOf]), if_neg (by omega)]; simp [row_alloc, rowOf]; try (rw [if_neg (by omega), if_neg (by omega)])
  · rw [row_setCell, if_neg (by show ¬ _ = _ + 1 + 1 + 1; omega), row_setRow _ _ _ _ (by simp [row_alloc, rowOf]), if_neg (by omega)]; simp [row_alloc, rowOf]; try (rw [if_neg (by omega), if_neg (by omega)])
  · rw [own_setCell, own_setRow]; simp [own_alloc, ownOf]
  · rw [row_setCell, if_neg (by show ¬ _ = _ + 1 + 1 + 1; omega), row_setRow _ _ _ _ (by simp [row_alloc, rowOf]), if_pos rfl]
  · have h := ((((((Chg.refl (fun _ => False) w).alloc (.cells #[.int .i64 p] 3)).alloc (.cells (ic 0 none 0 0) 32)).alloc (.cells (ic 0 none 0 0) 32)).alloc (.cells #[.bool false] 4)).setRow (b := w.heap.size + 1 + 1) (.inl (by omega)) (ic 0 none 0 0)).setCell (p := ⟨w.heap.size + 1 + 1 + 1, 0, none⟩) (.inl (by show _ ≤ _ + 1 + 1 + 1; omega)) (.bool false)
    exact h.below (Nat.le_refl _) (fun _ _ h => h)
  · simp [World.setCell, World.setRow]
set_option maxRecDepth 100000 in
set_option maxHeartbeats 1000000 in
theorem pick_c {N b ch most : Nat} {vs : List Value} {xs : List Itm} (p : Int) (w : World) (hq : Que w b ch most vs) (hI : Its w vs xs) (hF : Fresh N w vs) (hm : most ≤ 1000) (hn : xs.length ≤ most) (hl : ∀ k, k < xs.length → (xs.getD k zeroI).bs.length ≤ 140737488351232) :
    Calls Try.prog 15 #[.pointer (some ⟨b, 0, none⟩), .int .i64 p] w fun e w' => ∃ v us, e = .returned (.tuple #[v, .bool (decide (0 ≤ p ∧ p < xs.length))]) ∧ Que w' b ch most us ∧ Its w' us (keptN (fun k => decide ((k : Int) ≠ p)) xs xs.length) ∧ Fresh w.heap.size w' us ∧
      ((0 ≤ p ∧ p < xs.length) → ItmIn w' v (xs.getD p.toNat zeroI)) ∧ (¬ (0 ≤ p ∧ p < xs.length) → v = .agg (ic 0 none 0 0)) ∧ Chg (· = ch) w w' := by
  have lb := hq.ltb
  have lc := hq.ltc
  have HF_ := hid hF
  clear hF
  go_enter Try.func15, Try.ntmps15
  go_upto_region 2 with (fail)
  obtain ⟨W1, hE, hJ, b1, hs1⟩ := pick_cells w p xs
  rw [hE]
  clear hE
  have q1 := hq.below b1
  have i1 := hI.kept (S := fun _ => False) (.of_below b1) (fun _ _ _ _ h => h.elim)
  have hoff : ∀ v ∈ vs, ∀ b', blkOf v = some b' → ¬ (b' = w.heap.size + 1 + 1 ∨ b' = w.heap.size + 1 + 1 + 1 ∨ b' = w.heap.size + 1) := fun v hv b' hb' h => by
    have := own_lt (HF_.out v hv b' hb').2
    omega
  have hrd := round_c (pick_clo (kc := w.heap.size) (oc := w.heap.size + 1 + 1) (bc := w.heap.size + 1 + 1 + 1) (rc := w.heap.size + 1) p xs) W1 q1 i1 hm hn hl hoff (by show ¬ (_ ∨ _ ∨ _); omega) (by show ¬ (_ ∨ _ ∨ _); omega) hJ
  clear hoff i1
  have HRD_ := hid hrd
  clear hrd
  have B1_ := hid b1
  clear b1
  have Q1_ := hid q1
  clear q1
  go_wp2_with fail
  refine HRD_.out.mono ?_
  rintro e w2 ⟨⟨rv, rfl⟩, hR⟩
  dsimp only
  obtain ⟨⟨us, q2, i2, f2, _⟩, _, j2, c2⟩ := hR
  rw [List.drop_of_length_le (by rw [hI.1]; exact Nat.le_refl _), List.nil_append] at q2
  have rb := j2.rb
  have hr0 := j2.rr
  have ho0 := j2.orr
  obtain ⟨q, a, n, c, ro, hy1, hy2⟩ := j2.ro
  have lo2 := own_lt j2.oo
  have lb2 := own_lt j2.ob
  have cw : Chg (· = ch) w w2 := (Chg.of_below B1_.out).then' c2 (fun i hi hlt => by
    rcases hi with rfl | h
    · rfl
    · omega)
  clear j2 c2 HRD_
  have Q2_ := hid q2
  clear q2
  have I2_ := hid i2
  clear i2
  have F2_ := hid f2
  clear f2
  have HY1_ := hid hy1
  clear hy1
  have HY2_ := hid hy2
  clear hy2
  have HR0_ := hid hr0
  clear hr0
  have HO0_ := hid ho0
  clear ho0
  have CW_ := hid cw
  clear cw
  go_upto_region 3 with (fail)
  refine wp_region_inv (by kernel_rfl) (fun s act_ w1 => ∃ v5 v12 v13, act_ = { tmps := #[.pointer (some ⟨b, 0, none⟩), .int .i64 p, undef, .pointer (some ⟨w.heap.size, 0, none⟩), .pointer (some ⟨w.heap.size + 1, 0, none⟩), v5, .pointer (some ⟨w.heap.size + 1 + 1, 0, none⟩), .pointer (some ⟨w.heap.size + 1 + 1 + 1, 0, none⟩), .agg (ic 0 none 0 0), .pointer (some ⟨b, 0, none⟩), .func (.func 24) #[] #[.pointer (some ⟨w.heap.size, 0, none⟩), .pointer (some ⟨w.heap.size + 1 + 1, 0, none⟩), .pointer (some ⟨w.heap.size + 1 + 1 + 1, 0, none⟩)], rv, v12, v13], defers := [] } ∧ (s.getD 0 false = true → v12 = .agg (ic q a n c)) ∧ (s.getD 1 false = true → v13 = .bool (decide (0 ≤ p ∧ p < xs.length))) ∧ (s.getD 3 false = true → v5 = .bool (decide (0 ≤ p ∧ p < xs.length))) ∧ row? w1 (w.heap.size + 1) = (if s.getD 2 false = true then ic q a n c else ic 0 none 0 0) ∧ own? w1 (w.heap.size + 1) = true ∧ Chg (· = (w.heap.size + 1)) w2 w1 ∧ s.size = 4) ?h0 ?hstep ?hend
  case h0 => exact ⟨_, _, _, rfl, by simp, by simp, by simp, by rw [if_neg (by simp)]; exact HR0_.out, HO0_.out, (Chg.refl _ _).drew, by simp⟩
  case hstep =>
    intro s act_ w1 i hi hI
    obtain ⟨h1, o, h0, hpre⟩ := mem_ready.1 hi
    have hlt : i < 4 := (Array.getElem?_eq_some_iff.1 h0).1
    obtain ⟨v5, v12, v13, rfl, k0, k1, k3, hr, ho, hc, sz⟩ := hI
    have ro' : row? w1 (w.heap.size + 1 + 1) = ic q a n c := (hc.row lo2 (by show ¬ _ = _; omega)).trans ro
    have rb' : row? w1 (w.heap.size + 1 + 1 + 1) = #[.bool (decide (0 ≤ p ∧ p < xs.length))] := (hc.row lb2 (by show ¬ _ = _; omega)).trans rb
    match i, hlt with
    | 0, _ =>
      cases h0
      refine wpOp_new rfl rfl (v := .agg (ic q a n c)) (w' := w1) (by simp [go_sem, ro', rb']) ?_
      exact ⟨v5, .agg (ic q a n c), v13, rfl, fun _ => rfl, fun h => k1 (by rwa [getD_set_ne false (by decide)] at h), fun h => k3 (by rwa [getD_set_ne false (by decide)] at h), by rw [getD_set_ne false (by decide)]; exact hr, ho, hc, by simpa using sz⟩
    | 1, _ =>
      cases h0
      refine wpOp_new rfl rfl (v := .bool (decide (0 ≤ p ∧ p < xs.length))) (w' := w1) (by simp [go_sem, ro', rb']) ?_
      exact ⟨v5, v12, .bool (decide (0 ≤ p ∧ p < xs.length)), rfl, fun h => k0 (by rwa [getD_set_ne false (by decide)] at h), fun _ => rfl, fun h => k3 (by rwa [getD_set_ne false (by decide)] at h), by rw [getD_set_ne false (by decide)]; exact hr, ho, hc, by simpa using sz⟩
    | 2, _ =>
      cases h0
      have n0 : s.getD 0 false = true := hpre ⟨0, .data⟩ (by simp) rfl
      have x0 := k0 n0
      subst x0
      rw [getD_both h1, if_neg (by simp)] at hr
      have hs : (s.setIfInBounds 2 true).getD 2 false = true := by simp [Array.getD, sz]
      refine wpOp_skip rfl rfl rfl (w' := w1.setRow ((w.heap.size + 1)) (ic q a n c)) (by simp [go_sem, hr, ho]) ?_
      exact ⟨v5, .agg (ic q a n c), v13, rfl, fun _ => rfl, fun h => k1 (by rwa [getD_set_ne false (by decide)] at h), fun h => k3 (by rwa [getD_set_ne false (by decide)] at h), by rw [if_pos hs, row_setRow _ _ _ _ (by rw [hr]; simp), if_pos rfl], by rw [own_setRow]; exact ho, hc.setRow (.inr rfl) _, by simpa using sz⟩
    | 3, _ =>
      cases h0
      have n1 : s.getD 1 false = true := hpre ⟨1, .data⟩ (by simp) rfl
      have x1 := k1 n1
      subst x1
      refine wpOp_new rfl rfl (v := .bool (decide (0 ≤ p ∧ p < xs.length))) (w' := w1) (by simp [go_sem, ro', rb']) ?_
      exact ⟨.bool (decide (0 ≤ p ∧ p < xs.length)), v12, .bool (decide (0 ≤ p ∧ p < xs.length)), rfl, fun h => k0 (by rwa [getD_set_ne false (by decide)] at h), fun _ => rfl, fun _ => rfl, by rw [getD_set_ne false (by decide)]; exact hr, ho, hc, by simpa using sz⟩
  case hend =>
    intro s act_ w1 hr hI
    obtain ⟨v5, v12, v13, rfl, k0, k1, k3, hr1, ho, hc, sz⟩ := hI
    have hall := all_done sz (by kernel_rfl) hr
    have x0 := k0 (hall 0 (by decide))
    have x1 := k1 (hall 1 (by decide))
    have x3 := k3 (hall 3 (by decide))
    subst x0
    subst x1
    subst x3
    rw [if_pos (hall 2 (by decide))] at hr1
    clear hall sz hr k0 k1 k3
    have hv : (ldAt 32 (.pointer (some ⟨w.heap.size + 1, 0, none⟩))).run Try.prog w1 = .ok (.agg (ic q a n c)) w1 := by rw [ldItm _ _ _ (by rw [hr1]; simp), hr1]; simp
    have hfin : Que w1 b ch most us ∧ Its w1 us (keptN (fun k => decide ((k : Int) ≠ p)) xs xs.length) ∧ Fresh w.heap.size w1 us ∧ ((0 ≤ p ∧ p < xs.length) → ItmIn w1 (.agg (ic q a n c)) (xs.getD p.toNat zeroI)) ∧ (¬ (0 ≤ p ∧ p < xs.length) → Value.agg (ic q a n c) = .agg (ic 0 none 0 0)) ∧ Chg (· = ch) w w1 := by
      refine ⟨Q2_.out.kept hc (by show ¬ _ = _; omega) (by show ¬ _ = _; omega), I2_.out.kept hc (fun v hv b' hb' e => ?_), fun v hv b' hb' => ⟨?_, ?_⟩, fun h => (HY1_.out h).1.kept hc (fun b' hb' e => absurd (.inr (.inr e)) ((HY1_.out h).2 b' hb')), fun h => by rw [HY2_.out h], CW_.out.then' hc (fun i e hlt => by omega)⟩
      · have := (F2_.out v hv b' hb').1
        omega
      · have := (F2_.out v hv b' hb').1
        omega
      · have h := F2_.out v hv b' hb'
        rw [hc.own (own_lt h.2) (by show ¬ _ = _; omega)]
        exact h.2
    clear hr1 ho hc
    have HV_ := hid hv
    clear hv
    have HFIN_ := hid hfin
    clear hfin
    go_wp2
    refine bodyPost_ret (results_cell2 rfl rfl HV_.out) rfl ⟨_, us, rfl, HFIN_.out⟩
end Go.Proofs.Ytbdpnmocbpplbaa
