/-
  The walk of Clear. No condition.
-/
import Derived.Test.YtbdpnmocbpplbaaQuG
namespace Go.Proofs.Ytbdpnmocbpplbaa
open Go.RowKit Go.Conc Go.Shelf

/-- What Clear's closure keeps: how many it saw. -/
structure JC (nc : Nat) (k : Nat) (W : World) : Prop where
  r : row? W nc = #[.int .i64 k]
  o : own? W nc = true
theorem JC.kept {nc k : Nat} {W W' : World} (h : JC nc k W) {S : Nat → Prop} (hc : Chg S W W') (hS : ∀ b, S b → row? W b = #[]) : JC nc k W' := by
  have hb : ¬ S nc := fun s => by have := hS nc s; rw [h.r] at this; cases this
  exact ⟨(hc.row (own_lt h.o) hb).trans h.r, (hc.own (own_lt h.o) hb).trans h.o⟩
theorem keptN_none (xs : List Itm) : ∀ n, keptN (fun _ => false) xs n = []
  | 0 => rfl
  | n + 1 => by rw [keptN, keptN_none xs n]; rfl
set_option maxRecDepth 100000 in
set_option maxHeartbeats 1000000 in
theorem clear1_c {nc : Nat} {xs : List Itm} (k : Nat) (hk : k < xs.length) (hxl : xs.length ≤ 1000) (v : Value) (W : World) (hJ : JC nc k W) (hx : ItmIn W v (xs.getD k zeroI)) :
    Calls Try.prog 25 #[.int .i64 k, v, .pointer (some ⟨nc, 0, none⟩)] W fun e W' => e = .returned (.tuple #[v, .bool false]) ∧ JC nc (k + 1) W' ∧ Chg (· = nc) W W' := by
  generalize xs.getD k zeroI = x at *
  obtain ⟨a, c, rfl, _⟩ := hx
  have hr := hJ.r
  have ho := hJ.o
  go_enter Try.func25, Try.ntmps25
  go_upto_region 1 with (fail)
  obtain ⟨W1, hW1⟩ : ∃ W1, (W.alloc (.cells (ic x.k a x.bs.length c) 32)).alloc (.cells (ic 0 none 0 0) 32) = W1 := ⟨_, rfl⟩
  have b1 : Below W.heap.size W W1 := by rw [← hW1]; exact ((Below.refl _ _).alloc (Nat.le_refl _) _).alloc (by simp) _
  have r6 : row? W1 W.heap.size = ic x.k a x.bs.length c := by rw [← hW1]; simp [row_alloc, rowOf]
  have r7 : row? W1 (W.heap.size + 1) = ic 0 none 0 0 := by rw [← hW1]; simp [row_alloc, rowOf]
  have o7 : own? W1 (W.heap.size + 1) = true := by rw [← hW1]; simp [own_alloc, ownOf]
  rw [hW1]
  clear hW1
  have lk := own_lt ho
  have hr1 := (Below_row b1 lk).trans hr
  have ho1 := (Below_own b1 lk).trans ho
  have hk1 : ((k + 1 : Nat) : Int) = (k : Int) + 1 := by omega
  clear hr ho
  have HJ_ := hid hJ
  clear hJ
  have B1_ := hid b1
  clear b1
  go_upto_region 2 with (fail)
  have c2 : Chg (· = nc) W1 (W1.setCell ⟨nc, 0, none⟩ (.int .i64 ((k : Int) + 1))) := (Chg.refl (· = nc) W1).setCell (p := ⟨nc, 0, none⟩) (.inr rfl) _
  have rn : row? (W1.setCell ⟨nc, 0, none⟩ (.int .i64 ((k : Int) + 1))) nc = #[.int .i64 ((k : Int) + 1)] := by
    rw [row_setCell, if_pos rfl, hr1]
    rfl
  have on : own? (W1.setCell ⟨nc, 0, none⟩ (.int .i64 ((k : Int) + 1))) nc = true := by rw [own_setCell]; exact ho1
  generalize W1.setCell ⟨nc, 0, none⟩ (.int .i64 ((k : Int) + 1)) = W2 at *
  have r6' := (c2.row (row_lt (by rw [r6]; simp)) (by omega)).trans r6
  have r7' := (c2.row (own_lt o7) (by omega)).trans r7
  have o7' := (c2.own (own_lt o7) (by omega)).trans o7
  have c0 : Chg (· = nc) W W2 := (Chg.of_below B1_.out).trans c2
  have hz := own_lt o7'
  clear c2 r6 r7 o7 hr1 ho1 B1_ HJ_
  have C0_ := hid c0
  clear c0
  have RN_ := hid rn
  clear rn
  have ON_ := hid on
  clear on
  have HK1_ := hid hk1
  clear hk1
  go_wp2
  have c3 : Chg (fun b => b = W.heap.size + 1) W2 (W2.setRow (W.heap.size + 1) (ic x.k a x.bs.length c)) := (Chg.refl (fun b => b = W.heap.size + 1) W2).setRow (.inr rfl) _
  have r8 : row? (W2.setRow (W.heap.size + 1) (ic x.k a x.bs.length c)) (W.heap.size + 1) = ic x.k a x.bs.length c := by rw [row_setRow _ _ _ _ (by rw [r7']; simp), if_pos rfl]
  generalize W2.setRow (W.heap.size + 1) (ic x.k a x.bs.length c) = W3 at *
  have n1 : ¬ nc = W.heap.size + 1 := by omega
  refine bodyPost_ret (results_cell2 rfl rfl (v := .agg (ic x.k a x.bs.length c)) (by rw [ldItm _ _ _ (by rw [r8]; simp), r8]; simp)) rfl ⟨rfl, ⟨?_, (c3.own (own_lt ON_.out) n1).trans ON_.out⟩, C0_.out.then' c3 (fun i e h => by omega)⟩
  rw [HK1_.out]
  exact (c3.row (own_lt ON_.out) n1).trans RN_.out
theorem clear_clo {nc : Nat} {xs : List Itm} (hxl : xs.length ≤ 1000) : Clo 25 #[.pointer (some ⟨nc, 0, none⟩)] (· = nc) (JC nc) xs (fun _ => false) where
  run := enters_of Try.func25 (by kernel_rfl) rfl
  call := fun k hk v W hJ hx _ => clear1_c k hk hxl v W hJ hx
  own := fun k W W' S hJ hc hS => hJ.kept hc hS
  cells := fun k W b hJ hC => by
    rw [show b = nc from hC]
    exact ⟨own_lt hJ.o, by rw [hJ.r]; simp⟩
set_option maxRecDepth 100000 in
set_option maxHeartbeats 1000000 in
theorem clear_c {N b ch most : Nat} {vs : List Value} {xs : List Itm} (w : World) (hq : Que w b ch most vs) (hI : Its w vs xs) (hF : Fresh N w vs) (hm : most ≤ 1000) (hn : xs.length ≤ most) (hl : ∀ k, k < xs.length → (xs.getD k zeroI).bs.length ≤ 140737488351232) :
    Calls Try.prog 16 #[.pointer (some ⟨b, 0, none⟩)] w fun e w' => e = .returned (.int .i64 xs.length) ∧ Que w' b ch most [] ∧ Chg (· = ch) w w' := by
  have lb := hq.ltb
  have lc := hq.ltc
  have HF_ := hid hF
  clear hF
  go_enter Try.func16, Try.ntmps16
  go_upto_region 2 with (fail)
  obtain ⟨W1, hW1⟩ : ∃ W1, w.alloc (.cells #[.int .i64 0] 3) = W1 := ⟨_, rfl⟩
  have hJ : JC w.heap.size 0 W1 := by
    rw [← hW1]
    exact ⟨by simp [row_alloc, rowOf], by simp [own_alloc, ownOf]⟩
  have b1 : Below w.heap.size w W1 := by
    rw [← hW1]
    exact (Below.refl _ _).alloc (Nat.le_refl _) _
  rw [hW1]
  clear hW1
  have q1 := hq.below b1
  have i1 := hI.kept (S := fun _ => False) (.of_below b1) (fun _ _ _ _ h => h.elim)
  have hoff : ∀ v ∈ vs, ∀ b', blkOf v = some b' → ¬ (b' = w.heap.size) := fun v hv b' hb' h => by
    have := own_lt (HF_.out v hv b' hb').2
    omega
  have hrd := round_c (clear_clo (nc := w.heap.size) (xs := xs) (by omega)) W1 q1 i1 hm hn hl hoff (by show ¬ _ = _; omega) (by show ¬ _ = _; omega) hJ
  clear hoff i1
  have HRD_ := hid hrd
  clear hrd
  have B1_ := hid b1
  clear b1
  have Q1_ := hid q1
  clear q1
  go_wp2_with fail
  refine HRD_.out.mono ?_
  rintro e w2 ⟨⟨rv, rfl⟩, hR⟩
  dsimp only
  obtain ⟨⟨us, q2, i2, _, _⟩, _, j2, c2⟩ := hR
  rw [keptN_none] at i2
  obtain rfl : us = [] := List.length_eq_zero_iff.1 i2.1
  rw [List.drop_of_length_le (by rw [hI.1]; exact Nat.le_refl _), List.nil_append] at q2
  have cw : Chg (· = ch) w w2 := (Chg.of_below B1_.out).then' c2 (fun i hi hlt => by
    rcases hi with rfl | h
    · rfl
    · omega)
  have hr := j2.r
  clear j2 c2 HRD_ i2
  have Q2_ := hid q2
  clear q2
  have CW_ := hid cw
  clear cw
  go_wp2
  go_ret
  exact ⟨rfl, Q2_.out, CW_.out⟩
end Go.Proofs.Ytbdpnmocbpplbaa
