/-
  The walk of Look. No condition.
-/
import Derived.Test.YtbdpnmocbpplbaaQuM
import Derived.Test.YtbdpnmocbpplbaaQuG
namespace Go.Proofs.Ytbdpnmocbpplbaa
open Go.RowKit Go.Conc Go.Shelf

attribute [local go_sem] Oper.semAt_some
/-- What Look's closure keeps: the number that it looks for, a copy of what it found, whether it did. -/
structure JL (N kc oc bc rc : Nat) (p : Int) (xs : List Itm) (k : Nat) (W : World) : Prop where
  rk : row? W kc = #[.int .i64 p]
  ok : own? W kc = true
  oo : own? W oc = true
  ob : own? W bc = true
  orr : own? W rc = true
  ne : oc ≠ bc ∧ kc ≠ oc ∧ kc ≠ bc ∧ rc ≠ oc ∧ rc ≠ bc ∧ kc < N ∧ oc < N ∧ bc < N ∧ rc < N
  hN : N ≤ W.heap.size
  rb : row? W bc = #[.bool (decide (0 ≤ p ∧ p < k))]
  rr : row? W rc = ic 0 none 0 0
  ro : ∃ q a n c, row? W oc = ic q a n c ∧ ((0 ≤ p ∧ p < k) → NewI N W (.agg (ic q a n c)) (xs.getD p.toNat zeroI)) ∧ (¬ (0 ≤ p ∧ p < k) → ic q a n c = ic 0 none 0 0)
/-- The block of what was found. -/
def KL (oc : Nat) (_k : Nat) (W : World) (b : Nat) : Prop := blkOf (.agg (row? W oc)) = some b
theorem NewI.keptO {N : Nat} {w w' : World} {v : Value} {x : Itm} (h : NewI N w v x) {S : Nat → Prop} (hc : Chg S w w') (hS : ∀ b, S b → own? w b = true → b < N) : NewI N w' v x := by
  obtain ⟨a, c, e, h1, h2⟩ := h
  rcases h2 with rfl | ⟨g, rfl, hg, ho⟩
  · exact ⟨none, c, e, h1.kept (by decide) hc (fun b e => by cases e), .inl rfl⟩
  · have hn : ¬ S g := fun hs => by have := hS g hs ho; omega
    refine ⟨_, c, e, h1.kept (by decide) hc (fun b e hs => ?_), .inr ⟨g, rfl, hg, by rw [hc.own (own_lt ho) hn]; exact ho⟩⟩
    have : g = b := by simpa using e
    exact absurd (this ▸ hs) hn
theorem JL.kept {N kc oc bc rc : Nat} {p : Int} {xs : List Itm} {k : Nat} {W W' : World} (h : JL N kc oc bc rc p xs k W) {S : Nat → Prop} (hc : Chg S W W') (hS : ∀ b, S b → own? W b = false) : JL N kc oc bc rc p xs k W' ∧ row? W' oc = row? W oc := by
  have hn : ∀ b, own? W b = true → ¬ S b := fun b hb s => by rw [hS b s] at hb; cases hb
  obtain ⟨q, a, n, c, r, h1, h2⟩ := h.ro
  have e := hc.row (own_lt h.oo) (hn _ h.oo)
  exact ⟨⟨(hc.row (own_lt h.ok) (hn _ h.ok)).trans h.rk, (hc.own (own_lt h.ok) (hn _ h.ok)).trans h.ok, (hc.own (own_lt h.oo) (hn _ h.oo)).trans h.oo, (hc.own (own_lt h.ob) (hn _ h.ob)).trans h.ob, (hc.own (own_lt h.orr) (hn _ h.orr)).trans h.orr, h.ne, Nat.le_trans h.hN hc.size, (hc.row (own_lt h.ob) (hn _ h.ob)).trans h.rb, (hc.row (own_lt h.orr) (hn _ h.orr)).trans h.rr,
    q, a, n, c, e.trans r, fun hh => (h1 hh).keptO hc (fun b hs ho => absurd hs (hn b ho)), h2⟩, e⟩
set_option maxRecDepth 100000 in
set_option maxHeartbeats 1000000 in
theorem look1_c {N kc oc bc rc : Nat} {p : Int} {xs : List Itm} (k : Nat) (hk : k < xs.length) (hlx : (xs.getD k zeroI).bs.length ≤ 140737488351232) (v : Value) (W : World) (hJ : JL N kc oc bc rc p xs k W) (hx : ItmIn W v (xs.getD k zeroI)) (hoff : ∀ b, blkOf v = some b → ¬ (b = oc ∨ b = bc ∨ b = rc)) :
    Calls Try.prog 26 #[.int .i64 k, v, .pointer (some ⟨kc, 0, none⟩), .pointer (some ⟨oc, 0, none⟩), .pointer (some ⟨bc, 0, none⟩)] W fun e W' => e = .returned (.tuple #[v, .bool true]) ∧ JL N kc oc bc rc p xs (k + 1) W' ∧ ItmIn W' v (xs.getD k zeroI) ∧ Chg (fun b => b = oc ∨ b = bc) W W' ∧ (∀ b, KL oc (k + 1) W' b → KL oc k W b ∨ W.heap.size ≤ b) := by
  have hxx := hx
  generalize hxk : xs.getD k zeroI = x at *
  have HXK_ := hid hxk
  clear hxk
  obtain ⟨a, c, rfl, _⟩ := hxx
  go_enter Try.func26, Try.ntmps26
  go_upto_region 1 with (fail)
  obtain ⟨W1, hW1⟩ : ∃ W1, (W.alloc (.cells (ic x.k a x.bs.length c) 32)).alloc (.cells (ic 0 none 0 0) 32) = W1 := ⟨_, rfl⟩
  have b1 : Below W.heap.size W W1 := by rw [← hW1]; exact ((Below.refl _ _).alloc (Nat.le_refl _) _).alloc (by simp) _
  have r6 : row? W1 W.heap.size = ic x.k a x.bs.length c := by rw [← hW1]; simp [row_alloc, rowOf]
  have r7 : row? W1 (W.heap.size + 1) = ic 0 none 0 0 := by rw [← hW1]; simp [row_alloc, rowOf]
  have o7 : own? W1 (W.heap.size + 1) = true := by rw [← hW1]; simp [own_alloc, ownOf]
  rw [hW1]
  clear hW1
  obtain ⟨j1, eo1⟩ := hJ.kept (S := fun _ => False) (.of_below b1) (fun _ h => h.elim)
  have lk := own_lt hJ.ok
  have lo := own_lt hJ.oo
  have lb := own_lt hJ.ob
  have lr := own_lt hJ.orr
  have rk := j1.rk
  obtain ⟨nob, nko, nkb, nro, nrb, ln1, ln2, ln3, ln4⟩ := j1.ne
  have hNW := hJ.hN
  have s7 := own_lt o7
  by_cases hkp : (k : Int) = p
  · have x1 := hx.below b1
    have HX_ := hid hx
    clear hx
    have HOFF_ := hid hoff
    clear hoff
    have HJ_ := hid hJ
    clear hJ
    have J1_ := hid j1
    clear j1
    have B1_ := hid b1
    clear b1
    have X1_ := hid x1
    clear x1
    have EO1_ := hid eo1
    clear eo1
    go_wp2_with fail
    refine (copied_c _ x hlx W1 X1_.out).mono ?_
    rintro e w2 ⟨v', rfl, hb2, hn2⟩
    dsimp only
    obtain ⟨a', c', rfl, hnb⟩ := hn2
    obtain ⟨j2, eo2⟩ := J1_.out.kept (S := fun _ => False) (.of_below hb2) (fun _ h => h.elim)
    have r6b := (Below_row hb2 (by omega)).trans r6
    have r7b := (Below_row hb2 (by omega)).trans r7
    have o7b := (Below_own hb2 (by omega)).trans o7
    have rkb := j2.rk
    have rbb := j2.rb
    obtain ⟨q0, a0, n0, c0, ro, _, _⟩ := j2.ro
    have oo := j2.oo
    have ob := j2.ob
    have bw : Below W.heap.size W w2 := B1_.out.trans (hb2.mono B1_.out.size)
    have sz2 := hb2.size
    clear r6 r7 o7 rk
    have HB2_ := hid hb2
    clear hb2
    have HNB_ := hid hnb
    clear hnb
    have J2_ := hid j2
    clear j2
    have BW_ := hid bw
    clear bw
    have EO2_ := hid eo2
    clear eo2
    go_upto_region 3 with (fail)
    have c2 : Chg (fun b => b = oc ∨ b = bc) w2 ((w2.setRow oc (ic x.k a' x.bs.length c')).setCell ⟨bc, 0, none⟩ (.bool true)) := ((Chg.refl _ w2).setRow (.inr (.inl rfl)) _).setCell (.inr (.inr rfl)) _
    have ro2 : row? ((w2.setRow oc (ic x.k a' x.bs.length c')).setCell ⟨bc, 0, none⟩ (.bool true)) oc = ic x.k a' x.bs.length c' := by
      rw [row_setCell, if_neg (by simpa using nob), row_setRow _ _ _ _ (by rw [ro]; simp), if_pos rfl]
    have rb2 : row? ((w2.setRow oc (ic x.k a' x.bs.length c')).setCell ⟨bc, 0, none⟩ (.bool true)) bc = #[.bool true] := by
      rw [row_setCell, if_pos rfl, row_setRow _ _ _ _ (by rw [ro]; simp), if_neg (by simpa using Ne.symm nob), rbb]
      rfl
    have hown2 : ∀ b, own? w2 b = true → own? ((w2.setRow oc (ic x.k a' x.bs.length c')).setCell ⟨bc, 0, none⟩ (.bool true)) b = true := fun b h => by rw [own_setCell, own_setRow]; exact h
    generalize (w2.setRow oc (ic x.k a' x.bs.length c')).setCell ⟨bc, 0, none⟩ (.bool true) = w3 at *
    have r6c := (c2.row (row_lt (by rw [r6b]; simp)) (by omega)).trans r6b
    have r7c := (c2.row (own_lt o7b) (by omega)).trans r7b
    have o7c := hown2 _ o7b
    have sz3 := c2.size
    clear r6b r7b o7b rbb ro
    have C2_ := hid c2
    clear c2
    have RO2_ := hid ro2
    clear ro2
    have RB2_ := hid rb2
    clear rb2
    have HOWN2_ := hid hown2
    clear hown2
    go_wp2
    have c3 : Chg (fun b => b = W.heap.size + 1) w3 (w3.setRow (W.heap.size + 1) (ic x.k a x.bs.length c)) := (Chg.refl (fun b => b = W.heap.size + 1) w3).setRow (.inr rfl) _
    have r8 : row? (w3.setRow (W.heap.size + 1) (ic x.k a x.bs.length c)) (W.heap.size + 1) = ic x.k a x.bs.length c := by rw [row_setRow _ _ _ _ (by rw [r7c]; simp), if_pos rfl]
    have hown3 : ∀ b, own? w3 b = true → own? (w3.setRow (W.heap.size + 1) (ic x.k a x.bs.length c)) b = true := fun b h => by rw [own_setRow]; exact h
    generalize w3.setRow (W.heap.size + 1) (ic x.k a x.bs.length c) = w4 at *
    have cw : Chg (fun b => b = oc ∨ b = bc) W w4 := ((Chg.of_below BW_.out).trans C2_.out).then' c3 (fun i e h => by omega)
    have e1 : (0 ≤ p ∧ p < ((k + 1 : Nat) : Int)) := by omega
    have ho4 : ∀ b, own? w2 b = true → own? w4 b = true := fun b h => hown3 b (HOWN2_.out b h)
    have rw4 : ∀ b, b < W.heap.size → row? w4 b = row? w3 b := fun b hb => c3.row (by omega) (by omega)
    have row4 := (rw4 oc lo).trans RO2_.out
    refine bodyPost_ret (results_cell2 rfl rfl (v := .agg (ic x.k a x.bs.length c)) (by rw [ldItm _ _ _ (by rw [r8]; simp), r8]; simp)) rfl ⟨rfl, ⟨?_, ho4 _ J2_.out.ok, ho4 _ oo, ho4 _ ob, ho4 _ J2_.out.orr, J2_.out.ne, Nat.le_trans hNW cw.size, ?_, ?_, x.k, a', x.bs.length, c', row4, fun _ => ?_, fun h => absurd e1 h⟩, ?_, cw, fun b hb => ?_⟩
    · rw [rw4 _ lk, C2_.out.row (by omega) (by omega)]
      exact J2_.out.rk
    · rw [rw4 _ lb, RB2_.out, decide_eq_true e1]
    · rw [rw4 _ lr, C2_.out.row (by omega) (by omega)]
      exact J2_.out.rr
    · rw [← hkp, Int.toNat_natCast, HXK_.out]
      have hn : NewI W1.heap.size w2 (.agg (ic x.k a' x.bs.length c')) x := ⟨a', c', rfl, HNB_.out⟩
      exact ((hn.kept C2_.out (fun b e => by omega)).kept c3 (fun b e => by omega)).mono (by have := B1_.out.size; omega)
    · exact HX_.out.kept cw (fun b hb hs => absurd (hs.imp id .inl) (HOFF_.out b hb))
    · right
      have hb' : blkOf (.agg (ic x.k a' x.bs.length c')) = some b := by
        have h : blkOf (.agg (row? w4 oc)) = some b := hb
        rw [row4] at h
        exact h
      have hn : NewI W1.heap.size w2 (.agg (ic x.k a' x.bs.length c')) x := ⟨a', c', rfl, HNB_.out⟩
      have := (hn.blk hb').1
      have := B1_.out.size
      omega
  · have bw := b1
    have HX_ := hid hx
    clear hx
    have HOFF_ := hid hoff
    clear hoff
    have HJ_ := hid hJ
    clear hJ
    have J1_ := hid j1
    clear j1
    have B1_ := hid b1
    clear b1
    have EO1_ := hid eo1
    clear eo1
    go_wp2
    have c3 : Chg (fun b => b = W.heap.size + 1) W1 (W1.setRow (W.heap.size + 1) (ic x.k a x.bs.length c)) := (Chg.refl (fun b => b = W.heap.size + 1) W1).setRow (.inr rfl) _
    have r8 : row? (W1.setRow (W.heap.size + 1) (ic x.k a x.bs.length c)) (W.heap.size + 1) = ic x.k a x.bs.length c := by rw [row_setRow _ _ _ _ (by rw [r7]; simp), if_pos rfl]
    generalize W1.setRow (W.heap.size + 1) (ic x.k a x.bs.length c) = w4 at *
    have cw : Chg (fun _ => False) W w4 := (Chg.of_below bw).then' c3 (fun i e h => by omega)
    obtain ⟨j4, eo4⟩ := HJ_.out.kept cw (fun _ h => h.elim)
    have e1 : (0 ≤ p ∧ p < ((k + 1 : Nat) : Int)) ↔ (0 ≤ p ∧ p < (k : Int)) := by omega
    refine bodyPost_ret (results_cell2 rfl rfl (v := .agg (ic x.k a x.bs.length c)) (by rw [ldItm _ _ _ (by rw [r8]; simp), r8]; simp)) rfl ⟨rfl, ⟨j4.rk, j4.ok, j4.oo, j4.ob, j4.orr, j4.ne, j4.hN, by rw [j4.rb]; congr 3; exact (decide_eq_decide.2 e1).symm, j4.rr, by simpa only [e1] using j4.ro⟩, HX_.out.kept cw (fun _ _ h => h.elim), cw.mono (fun _ _ h => h.elim), fun b hb => .inl ?_⟩
    have h : blkOf (.agg (row? w4 oc)) = some b := hb
    rw [eo4] at h
    exact h
theorem look_clo {N kc oc bc rc : Nat} (p : Int) (xs : List Itm) (hl : ∀ k, k < xs.length → (xs.getD k zeroI).bs.length ≤ 140737488351232) : CloG 26 #[.pointer (some ⟨kc, 0, none⟩), .pointer (some ⟨oc, 0, none⟩), .pointer (some ⟨bc, 0, none⟩)] (fun b => b = oc ∨ b = bc ∨ b = rc) (JL N kc oc bc rc p xs) (KL oc) xs (fun _ => true) (fun _ x => x) where
  run := enters_of Try.func26 (by kernel_rfl) rfl
  call := fun k hk v W hJ hx hoff => by
    have h := (look1_c k hk (hl k hk) v W hJ hx (fun b hb => (hoff b hb).1)).mono (R' := fun e W' => e = .returned (.tuple #[v, .bool true]) ∧ JL N kc oc bc rc p xs (k + 1) W' ∧ ItmIn W' v (xs.getD k zeroI) ∧ Chg (fun b => (b = oc ∨ b = bc ∨ b = rc) ∨ blkOf v = some b) W W' ∧ (∀ b, KL oc (k + 1) W' b → KL oc k W b ∨ W.heap.size ≤ b)) fun e W' ⟨h1, h2, h3, h4, h5⟩ => ⟨h1, h2, h3, h4.mono (fun b _ hb => .inl (hb.imp id .inl)), h5⟩
    exact h
  own := fun k W W' S hJ hc hS => by
    obtain ⟨h1, h2⟩ := hJ.kept hc (fun b hb => (hS b hb).2)
    refine ⟨h1, fun b hb => ?_⟩
    have h : blkOf (.agg (row? W' oc)) = some b := hb
    rw [h2] at h
    exact h
  cells := fun k W b hJ hC => by
    rcases hC with (rfl | rfl | rfl) | hK
    · exact own_lt hJ.oo
    · exact own_lt hJ.ob
    · exact own_lt hJ.orr
    · obtain ⟨q, a, n, c, r, h1, h2⟩ := hJ.ro
      have h : blkOf (.agg (row? W oc)) = some b := hK
      rw [r] at h
      by_cases hh : 0 ≤ p ∧ p < k
      · exact own_lt ((h1 hh).blk h).2
      · rw [h2 hh] at h
        cases h
theorem keptG_id (xs : List Itm) : ∀ n, n ≤ xs.length → keptG (fun _ => true) (fun _ x => x) xs n = xs.take n
  | 0, _ => rfl
  | n + 1, h => by
    rw [keptG, keptG_id xs n (by omega), if_pos rfl, List.take_add_one]
    congr 1
    simp [show n < xs.length by omega]
set_option maxRecDepth 100000 in
set_option maxHeartbeats 1000000 in
theorem look_c {b ch most : Nat} {vs : List Value} {xs : List Itm} (p : Int) (w : World) (hq : QS w b ch most vs xs) (hm : most ≤ 1000) (hn : xs.length ≤ most) (hl : ∀ k, k < xs.length → (xs.getD k zeroI).bs.length ≤ 140737488351232) :
    Calls Try.prog 17 #[.pointer (some ⟨b, 0, none⟩), .int .i64 p] w fun e w' => ∃ v us, e = .returned (.tuple #[v, .bool (decide (0 ≤ p ∧ p < xs.length))]) ∧ QS w' b ch most us xs ∧ (∀ b', Bl us b' → w.heap.size ≤ b' ∧ blkOf v ≠ some b') ∧
      ((0 ≤ p ∧ p < xs.length) → NewI w.heap.size w' v (xs.getD p.toNat zeroI)) ∧ (¬ (0 ≤ p ∧ p < xs.length) → v = .agg (ic 0 none 0 0)) ∧ Chg (fun b' => b' = ch ∨ Bl vs b') w w' := by
  have lb := hq.que.ltb
  have lc := hq.que.ltc
  have hlt := fun b' (h : Bl vs b') => hq.lt h
  have hlen := hq.its.1
  have HLT_ := hid hlt
  clear hlt
  go_enter Try.func17, Try.ntmps17
  go_upto_region 2 with (fail)
  obtain ⟨W1, hE, hJP, b1, hs1⟩ := pick_cells w p xs
  have hko : own? W1 w.heap.size = true := by
    rw [← hE, own_setCell, own_setRow]
    simp [own_alloc, ownOf]
  rw [hE]
  clear hE
  have hJ : JL (w.heap.size + 4) w.heap.size (w.heap.size + 1 + 1) (w.heap.size + 1 + 1 + 1) (w.heap.size + 1) p xs 0 W1 := by
    obtain ⟨q, a, n, c, r, _, h2⟩ := hJP.ro
    exact ⟨hJP.rk, hko, hJP.oo, hJP.ob, hJP.orr, by omega, hs1, hJP.rb, hJP.rr, q, a, n, c, r, fun h => by omega, h2⟩
  have q1 := hq.below b1
  have hoff : ∀ b', Bl vs b' → ¬ (b' = w.heap.size + 1 + 1 ∨ b' = w.heap.size + 1 + 1 + 1 ∨ b' = w.heap.size + 1) := fun b' hb' h => by
    have := HLT_.out b' hb'
    omega
  have hrd := round_g (look_clo (N := w.heap.size + 4) (kc := w.heap.size) (oc := w.heap.size + 1 + 1) (bc := w.heap.size + 1 + 1 + 1) (rc := w.heap.size + 1) p xs hl) W1 q1 hm hn hl hoff (by show ¬ (_ ∨ _ ∨ _); omega) (by show ¬ (_ ∨ _ ∨ _); omega) hJ
  clear hoff
  have HRD_ := hid hrd
  clear hrd
  have B1_ := hid b1
  clear b1
  have Q1_ := hid q1
  clear q1
  go_wp2_with fail
  refine HRD_.out.mono ?_
  rintro e w2 ⟨⟨rv, rfl⟩, hR⟩
  dsimp only
  obtain ⟨⟨us, q2, i2, f2, a2⟩, _, _, j2, c2⟩ := hR
  rw [keptG_id xs _ (Nat.le_refl _), List.take_length] at i2
  rw [List.drop_of_length_le (by rw [hlen]; exact Nat.le_refl _), List.nil_append] at q2
  have rb := j2.rb
  have hr0 := j2.rr
  have ho0 := j2.orr
  obtain ⟨q, a, n, c, ro, hy1, hy2⟩ := j2.ro
  have lo2 := own_lt j2.oo
  have lb2 := own_lt j2.ob
  have hkl : ∀ b', Bl us b' → blkOf (.agg (ic q a n c)) ≠ some b' := fun b' hb' h => (f2 b' hb').2.2.2 (by show blkOf (.agg (row? w2 _)) = some b'; rw [ro]; exact h)
  have f2' : ∀ b', Bl us b' → W1.heap.size ≤ b' ∧ own? w2 b' = true := fun b' hb' => ⟨(f2 b' hb').1, (f2 b' hb').2.1⟩
  have cw : Chg (fun b' => b' = ch ∨ Bl vs b') w w2 := (Chg.of_below B1_.out).then' c2 (fun i hi hlt => by
    rcases hi with h | h | h
    · exact .inl h
    · omega
    · exact .inr h)
  clear j2 c2 HRD_ f2
  have Q2_ := hid q2
  clear q2
  have I2_ := hid i2
  clear i2
  have F2'_ := hid f2'
  clear f2'
  have A2_ := hid a2
  clear a2
  have HKL_ := hid hkl
  clear hkl
  have HY1_ := hid hy1
  clear hy1
  have HY2_ := hid hy2
  clear hy2
  have HR0_ := hid hr0
  clear hr0
  have HO0_ := hid ho0
  clear ho0
  have CW_ := hid cw
  clear cw
  go_upto_region 3 with (fail)
  refine wp_region_inv (by kernel_rfl) (fun s act_ w1 => ∃ v5 v12 v13, act_ = { tmps := #[.pointer (some ⟨b, 0, none⟩), .int .i64 p, undef, .pointer (some ⟨w.heap.size, 0, none⟩), .pointer (some ⟨w.heap.size + 1, 0, none⟩), v5, .pointer (some ⟨w.heap.size + 1 + 1, 0, none⟩), .pointer (some ⟨w.heap.size + 1 + 1 + 1, 0, none⟩), .agg (ic 0 none 0 0), .pointer (some ⟨b, 0, none⟩), .func (.func 26) #[] #[.pointer (some ⟨w.heap.size, 0, none⟩), .pointer (some ⟨w.heap.size + 1 + 1, 0, none⟩), .pointer (some ⟨w.heap.size + 1 + 1 + 1, 0, none⟩)], rv, v12, v13], defers := [] } ∧ (s.getD 0 false = true → v12 = .agg (ic q a n c)) ∧ (s.getD 1 false = true → v13 = .bool (decide (0 ≤ p ∧ p < xs.length))) ∧ (s.getD 3 false = true → v5 = .bool (decide (0 ≤ p ∧ p < xs.length))) ∧ row? w1 (w.heap.size + 1) = (if s.getD 2 false = true then ic q a n c else ic 0 none 0 0) ∧ own? w1 (w.heap.size + 1) = true ∧ Chg (· = (w.heap.size + 1)) w2 w1 ∧ s.size = 4) ?h0 ?hstep ?hend
  case h0 => exact ⟨_, _, _, rfl, by simp, by simp, by simp, by rw [if_neg (by simp)]; exact HR0_.out, HO0_.out, (Chg.refl _ _).drew, by simp⟩
  case hstep =>
    intro s act_ w1 i hi hI
    obtain ⟨h1, o, h0, hpre⟩ := mem_ready.1 hi
    have hlt : i < 4 := (Array.getElem?_eq_some_iff.1 h0).1
    obtain ⟨v5, v12, v13, rfl, k0, k1, k3, hr, ho, hc, sz⟩ := hI
    have ro' : row? w1 (w.heap.size + 1 + 1) = ic q a n c := (hc.row lo2 (by show ¬ _ = _; omega)).trans ro
    have rb' : row? w1 (w.heap.size + 1 + 1 + 1) = #[.bool (decide (0 ≤ p ∧ p < xs.length))] := (hc.row lb2 (by show ¬ _ = _; omega)).trans rb
    match i, hlt with
    | 0, _ =>
      cases h0
      refine wpOp_new rfl rfl (v := .agg (ic q a n c)) (w' := w1) (by simp [go_sem, ro', rb']) ?_
      exact ⟨v5, .agg (ic q a n c), v13, rfl, fun _ => rfl, fun h => k1 (by rwa [getD_set_ne false (by decide)] at h), fun h => k3 (by rwa [getD_set_ne false (by decide)] at h), by rw [getD_set_ne false (by decide)]; exact hr, ho, hc, by simpa using sz⟩
    | 1, _ =>
      cases h0
      refine wpOp_new rfl rfl (v := .bool (decide (0 ≤ p ∧ p < xs.length))) (w' := w1) (by simp [go_sem, ro', rb']) ?_
      exact ⟨v5, v12, .bool (decide (0 ≤ p ∧ p < xs.length)), rfl, fun h => k0 (by rwa [getD_set_ne false (by decide)] at h), fun _ => rfl, fun h => k3 (by rwa [getD_set_ne false (by decide)] at h), by rw [getD_set_ne false (by decide)]; exact hr, ho, hc, by simpa using sz⟩
    | 2, _ =>
      cases h0
      have n0 : s.getD 0 false = true := hpre ⟨0, .data⟩ (by simp) rfl
      have x0 := k0 n0
      subst x0
      rw [getD_both h1, if_neg (by simp)] at hr
      have hs : (s.setIfInBounds 2 true).getD 2 false = true := by simp [Array.getD, sz]
      refine wpOp_skip rfl rfl rfl (w' := w1.setRow ((w.heap.size + 1)) (ic q a n c)) (by simp [go_sem, hr, ho]) ?_
      exact ⟨v5, .agg (ic q a n c), v13, rfl, fun _ => rfl, fun h => k1 (by rwa [getD_set_ne false (by decide)] at h), fun h => k3 (by rwa [getD_set_ne false (by decide)] at h), by rw [if_pos hs, row_setRow _ _ _ _ (by rw [hr]; simp), if_pos rfl], by rw [own_setRow]; exact ho, hc.setRow (.inr rfl) _, by simpa using sz⟩
    | 3, _ =>
      cases h0
      have n1 : s.getD 1 false = true := hpre ⟨1, .data⟩ (by simp) rfl
      have x1 := k1 n1
      subst x1
      refine wpOp_new rfl rfl (v := .bool (decide (0 ≤ p ∧ p < xs.length))) (w' := w1) (by simp [go_sem, ro', rb']) ?_
      exact ⟨.bool (decide (0 ≤ p ∧ p < xs.length)), v12, .bool (decide (0 ≤ p ∧ p < xs.length)), rfl, fun h => k0 (by rwa [getD_set_ne false (by decide)] at h), fun _ => rfl, fun _ => rfl, by rw [getD_set_ne false (by decide)]; exact hr, ho, hc, by simpa using sz⟩
  case hend =>
    intro s act_ w1 hr hI
    obtain ⟨v5, v12, v13, rfl, k0, k1, k3, hr1, ho, hc, sz⟩ := hI
    have hall := all_done sz (by kernel_rfl) hr
    have x0 := k0 (hall 0 (by decide))
    have x1 := k1 (hall 1 (by decide))
    have x3 := k3 (hall 3 (by decide))
    subst x0
    subst x1
    subst x3
    rw [if_pos (hall 2 (by decide))] at hr1
    clear hall sz hr k0 k1 k3
    have hv : (ldAt 32 (.pointer (some ⟨w.heap.size + 1, 0, none⟩))).run Try.prog w1 = .ok (.agg (ic q a n c)) w1 := by rw [ldItm _ _ _ (by rw [hr1]; simp), hr1]; simp
    have hne : ∀ b', Bl us b' → ¬ b' = w.heap.size + 1 := fun b' hb' => by have := (F2'_.out b' hb').1; omega
    have hfin : QS w1 b ch most us xs ∧ (∀ b', Bl us b' → w.heap.size ≤ b' ∧ blkOf (.agg (ic q a n c)) ≠ some b') ∧ ((0 ≤ p ∧ p < xs.length) → NewI w.heap.size w1 (.agg (ic q a n c)) (xs.getD p.toNat zeroI)) ∧ (¬ (0 ≤ p ∧ p < xs.length) → Value.agg (ic q a n c) = .agg (ic 0 none 0 0)) ∧ Chg (fun b' => b' = ch ∨ Bl vs b') w w1 := by
      refine ⟨⟨Q2_.out.kept hc (by show ¬ _ = _; omega) (by show ¬ _ = _; omega), I2_.out.kept hc (fun v hv b' hb' e => absurd e (hne b' ⟨v, hv, hb'⟩)), fun b' hb' => ?_, A2_.out, fun hb' => ?_⟩, fun b' hb' => ⟨by have := (F2'_.out b' hb').1; omega, HKL_.out b' hb'⟩, fun h => ((HY1_.out h).kept hc (fun b' e => by omega)).mono (by omega), fun h => by rw [HY2_.out h], CW_.out.then' hc (fun i e hlt => by omega)⟩
      · have h := F2'_.out b' hb'
        rw [hc.own (own_lt h.2) (hne b' hb')]
        exact h.2
      · have := (F2'_.out b hb').1
        omega
    clear hr1 ho hc
    have HV_ := hid hv
    clear hv
    have HFIN_ := hid hfin
    clear hfin
    go_wp2
    refine bodyPost_ret (results_cell2 rfl rfl HV_.out) rfl ⟨_, us, rfl, HFIN_.out⟩
end Go.Proofs.Ytbdpnmocbpplbaa
