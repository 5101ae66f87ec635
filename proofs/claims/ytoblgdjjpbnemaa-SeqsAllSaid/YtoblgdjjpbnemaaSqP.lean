/-
  The walks of the reference's Long, Behind, Next, known and without. No condition but that numbers are such.
-/
import Derived.Test.YtoblgdjjpbnemaaSqO
namespace Go.Proofs.Ytoblgdjjpbnemaa
open Go.RowKit

set_option maxHeartbeats 2000000 in
theorem rlong_fn (k : Int) : Fn Try.prog 28 #[.int .i64 k] (.int .i64 (longK k)) := by
  intro w
  rcases (show k = 0 ∨ k = 1 ∨ k = 8 ∨ k = 9 ∨ k = 11 ∨ (k ≠ 0 ∧ k ≠ 1 ∧ k ≠ 8 ∧ k ≠ 9 ∧ k ≠ 11) by omega) with rfl | rfl | rfl | rfl | rfl | ⟨h0, h1, h8, h9, h11⟩
  case inr.inr.inr.inr.inr =>
    have e : longK k = 0 := by
      unfold longK
      rw [if_neg (by omega), if_neg (by omega), if_neg (by omega)]
    rw [e]
    clear e
    have e0 : (k == 0) = false := by simpa using h0
    have e1 : (k == 1) = false := by simpa using h1
    have e8 : (k == 8) = false := by simpa using h8
    have e9 : (k == 9) = false := by simpa using h9
    have e11 : (k == 11) = false := by simpa using h11
    clear h0 h1 h8 h9 h11
    go_enter Try.func28, Try.ntmps28
    go_wp2
    go_ret
    exact ⟨rfl, Below.refl _ _⟩
  all_goals
    go_enter Try.func28, Try.ntmps28
    go_wp2
    go_ret
    exact ⟨rfl, Below.refl _ _⟩
theorem rbeh_fn (a b : Int) (ha : 0 ≤ a ∧ a ≤ 65535) (hb : 0 ≤ b ∧ b ≤ 65535) : Fn Try.prog 29 #[.int .i64 a, .int .i64 b] (.bool (behB a b)) := by
  intro w
  obtain ⟨h1, h2⟩ := ha
  obtain ⟨h3, h4⟩ := hb
  have hw1 : wrap64 (a + 65536) = a + 65536 := by unfold wrap64; omega
  have hw2 : wrap64 (a + 65536 - b) = a + 65536 - b := by unfold wrap64; omega
  have hmod : (a + 65536 - b).tmod 65536 = (a - b) % 65536 := by
    rw [Int.tmod_eq_emod_of_nonneg (by omega)]
    omega
  have hb : behB a b = decide (1 ≤ (a - b) % 65536 ∧ (a - b) % 65536 < 32768) := rfl
  have hlt : (a - b) % 65536 < 65536 := by omega
  have hge : 0 ≤ (a - b) % 65536 := by omega
  generalize (a - b) % 65536 = n at *
  have h1' : ¬ a < 0 := by omega
  have h2' : ¬ 65535 < a := by omega
  have h3' : ¬ b < 0 := by omega
  have h4' : ¬ 65535 < b := by omega
  clear h1 h2 h3 h4
  by_cases h5 : 1 ≤ n
  · by_cases h6 : n ≤ 32767
    · rw [hb, decide_eq_true ⟨h5, by omega⟩]
      clear hb
      go_enter Try.func29, Try.ntmps29
      go_wp2
      go_ret
      exact ⟨rfl, Below.refl _ _⟩
    · rw [hb, decide_eq_false (by omega)]
      clear hb
      go_enter Try.func29, Try.ntmps29
      go_wp2
      go_ret
      exact ⟨rfl, Below.refl _ _⟩
  · rw [hb, decide_eq_false (by omega)]
    clear hb
    go_enter Try.func29, Try.ntmps29
    go_wp2
    go_ret
    exact ⟨rfl, Below.refl _ _⟩
def nextR (r : RB) (k : Int) : RB × Int := if kindB k = true then (⟨upd r.sent k.toNat (r.sent k.toNat + 1), r.sn, r.ls, r.hs⟩, r.sent k.toNat % 65536) else (r, 0)
/-- A block of one's own, set anew. -/
theorem set_own {w0 w : World} {b : Nat} {A B : Array Value} (hb : w0.heap.size ≤ b) (hr : row? w b = A) (ho : own? w b = true) (hA : A ≠ #[]) (hw : Below w0.heap.size w0 w) : ∃ W1, w.setRow b B = W1 ∧ row? W1 b = B ∧ own? W1 b = true ∧ Below w0.heap.size w0 W1 ∧ Chg (· = b) w W1 := by
  have hc : Chg (· = b) w (w.setRow b B) := (Chg.refl (· = b) w).setRow (.inr rfl) _
  exact ⟨_, rfl, by rw [row_setRow _ _ _ _ (by rw [hr]; exact hA), if_pos rfl], by rw [own_setRow]; exact ho, hw.trans (hc.below hw.size (fun k hk e => by omega)), hc⟩
set_option maxRecDepth 100000 in
set_option maxHeartbeats 2000000 in
theorem rnext_c (r : RB) (s1 s2 s3 : Sl) (k : Int) (w : World) (hs : ∀ j, 0 ≤ r.sent j ∧ r.sent j ≤ 1000000) :
    Calls Try.prog 19 #[.agg (rc r s1 s2 s3), .int .i64 k] w fun e w' => e = .returned (.tuple #[.agg (rc (nextR r k).1 s1 s2 s3), .int .i64 (nextR r k).2]) ∧ Below w.heap.size w w' := by
  have hlong := fun w => rlong_fn k w
  have hkl := kindB_long k
  generalize longK k = ln at *
  have HLONG_ := hid hlong
  clear hlong
  have HS_ := hid hs
  clear hs
  go_enter Try.func19, Try.ntmps19
  go_upto_region 1 with (fail)
  obtain ⟨W1, hW1⟩ : ∃ W1, (w.alloc (.cells (rc r s1 s2 s3) 31)).alloc (.cells (rc zeroRB nilS nilS nilS) 31) = W1 := ⟨_, rfl⟩
  have b1 : Below w.heap.size w W1 := by rw [← hW1]; exact ((Below.refl _ _).alloc (Nat.le_refl _) _).alloc (by simp) _
  have r0 : row? W1 w.heap.size = rc r s1 s2 s3 := by rw [← hW1]; simp [row_alloc, rowOf]
  have o0 : own? W1 w.heap.size = true := by rw [← hW1]; simp [own_alloc, ownOf]
  have r1 : row? W1 (w.heap.size + 1) = rc zeroRB nilS nilS nilS := by rw [← hW1]; simp [row_alloc, rowOf]
  have o1 : own? W1 (w.heap.size + 1) = true := by rw [← hW1]; simp [own_alloc, ownOf]
  rw [rc_lit, hW1]
  clear hW1
  have B1_ := hid b1
  clear b1
  go_wp2_with fail
  refine (HLONG_.out W1).mono ?_
  rintro e w2 ⟨rfl, b2⟩
  dsimp only
  have hb2 := B1_.out.trans (b2.mono B1_.out.size)
  have r0 : row? w2 w.heap.size = rc r s1 s2 s3 := (row_of_block (b2.block _ (own_lt o0))).trans r0
  have r1 : row? w2 (w.heap.size + 1) = rc zeroRB nilS nilS nilS := (row_of_block (b2.block _ (own_lt o1))).trans r1
  have o0 : own? w2 w.heap.size = true := (own_of_block (b2.block _ (own_lt o0))).trans o0
  have o1 : own? w2 (w.heap.size + 1) = true := (own_of_block (b2.block _ (own_lt o1))).trans o1
  clear HLONG_ B1_ b2
  have HB2_ := hid hb2
  clear hb2
  cases hk : kindB k with
  | false =>
    rw [hk] at hkl
    have hfr : nextR r k = (r, 0) := by unfold nextR; rw [hk, if_neg (by simp)]
    clear hk
    have HFR_ := hid hfr
    clear hfr
    go_wp2
    obtain ⟨W2, hE, e1, _, b3, _⟩ := set_own (B := rc r s1 s2 s3) (by omega) r1 o1 (by simp) HB2_.out
    rw [hE]
    exact bodyPost_ret (results_cell2 rfl rfl (v := .agg (rc r s1 s2 s3)) (by rw [ldRB _ _ _ (by rw [e1]; simp), e1, rc_all])) rfl ⟨by rw [HFR_.out]; rfl, b3⟩
  | true =>
    rw [hk] at hkl
    obtain ⟨j, rfl, hj⟩ := kindB_nat hk
    have hfr : nextR r j = (⟨upd r.sent j (r.sent j + 1), r.sn, r.ls, r.hs⟩, r.sent j % 65536) := by unfold nextR; rw [hk, if_pos rfl, Int.toNat_natCast]
    have hg : (rc r s1 s2 s3)[j]? = some (.int .i64 (r.sent j)) := by rw [rc_get, if_pos hj]
    have hat : ∀ h, (rc r s1 s2 s3)[j]'h = .int .i64 (r.sent j) := fun h => by
      have h1 := hg
      rw [Array.getElem?_eq_getElem h] at h1
      exact Option.some.inj h1
    have hset := rc_setN r s1 s2 s3 j hj (r.sent j + 1)
    obtain ⟨h1, h2⟩ := HS_.out j
    have hmod : (r.sent j).tmod 65536 = r.sent j % 65536 := Int.tmod_eq_emod_of_nonneg h1
    have hw : wrap64 (r.sent j + 1) = r.sent j + 1 := by unfold wrap64; omega
    have hj0 : ¬ (j : Int) < 0 := by omega
    have hj1 : (j : Int) < 16 := by omega
    have hj3 : j < 19 := by omega
    clear hk
    have HFR_ := hid hfr
    clear hfr
    have HSET_ := hid hset
    clear hset
    go_upto_region 5 with (fail)
    have c3 : Chg (· = w.heap.size) w2 (w2.setCell ⟨w.heap.size, j, none⟩ (.int .i64 (r.sent j + 1))) := (Chg.refl (· = w.heap.size) w2).setCell (p := ⟨w.heap.size, j, none⟩) (.inr rfl) _
    have q0 : row? (w2.setCell ⟨w.heap.size, j, none⟩ (.int .i64 (r.sent j + 1))) w.heap.size = rc ⟨upd r.sent j (r.sent j + 1), r.sn, r.ls, r.hs⟩ s1 s2 s3 := by rw [row_setCell, if_pos rfl, r0]; exact HSET_.out
    have q1 : row? (w2.setCell ⟨w.heap.size, j, none⟩ (.int .i64 (r.sent j + 1))) (w.heap.size + 1) = rc zeroRB nilS nilS nilS := by rw [row_setCell, if_neg (by show ¬ w.heap.size + 1 = w.heap.size; omega)]; exact r1
    have p1 : own? (w2.setCell ⟨w.heap.size, j, none⟩ (.int .i64 (r.sent j + 1))) (w.heap.size + 1) = true := by rw [own_setCell]; exact o1
    generalize w2.setCell ⟨w.heap.size, j, none⟩ (.int .i64 (r.sent j + 1)) = w3 at *
    have hb3 := HB2_.out.trans (c3.below HB2_.out.size (fun k hk e => by omega))
    clear c3 r0 r1 o0 o1 HSET_ HB2_ hg hat hw
    clear w2
    have HB3_ := hid hb3
    clear hb3
    go_wp2
    obtain ⟨W2, hE, e1, _, b4, _⟩ := set_own (B := rc ⟨upd r.sent j (r.sent j + 1), r.sn, r.ls, r.hs⟩ s1 s2 s3) (by omega) q1 p1 (by simp) HB3_.out
    rw [hE]
    exact bodyPost_ret (results_cell2 rfl rfl (v := .agg (rc ⟨upd r.sent j (r.sent j + 1), r.sn, r.ls, r.hs⟩ s1 s2 s3)) (by rw [ldRB _ _ _ (by rw [e1]; simp), e1, rc_all])) rfl ⟨by rw [HFR_.out]; rfl, b4⟩
def knownR (r : RB) (p : Prt) : Bool := decide (p ∈ r.sn)
set_option maxRecDepth 100000 in
set_option maxHeartbeats 2000000 in
theorem known_c (r : RB) (s1 s2 s3 : Sl) (p : Prt) (hl : r.sn.length ≤ 1000) (w : World) (h : RL w r s1 s2 s3) :
    Calls Try.prog 30 #[.agg (rc r s1 s2 s3), .agg (pa p)] w fun e w' => e = .returned (.bool (knownR r p)) ∧ Below w.heap.size w w' := by
  have H_ := hid h
  clear h
  go_enter Try.func30, Try.ntmps30
  go_upto_region 1 with (fail)
  obtain ⟨W1, hW1⟩ : ∃ W1, (w.alloc (.cells (rc r s1 s2 s3) 31)).alloc (.cells (pa p) 35) = W1 := ⟨_, rfl⟩
  have b1 : Below w.heap.size w W1 := by rw [← hW1]; exact ((Below.refl _ _).alloc (Nat.le_refl _) _).alloc (by simp) _
  have r0 : row? W1 w.heap.size = rc r s1 s2 s3 := by rw [← hW1]; simp [row_alloc, rowOf]
  have o0 : own? W1 w.heap.size = true := by rw [← hW1]; simp [own_alloc, ownOf]
  have r1 : row? W1 (w.heap.size + 1) = pa p := by rw [← hW1]; simp [row_alloc, rowOf]
  have o1 : own? W1 (w.heap.size + 1) = true := by rw [← hW1]; simp [own_alloc, ownOf]
  rw [hW1]
  clear hW1
  have k0 := gr_row r0 (own_lt o0)
  have k1 := gr_row r1 (own_lt o1)
  have hX := fun d => ((H_.out.below b1).sn).gr (by decide) d
  obtain ⟨d8, hd8⟩ : ∃ d, W1 = gr W1 d := ⟨W1, gr_self W1⟩
  rw [hd8]
  clear hd8 r0 r1 o0 o1
  have HX_ := hid hX
  clear hX
  have B1_ := hid b1
  clear b1
  go_wp2
  go_loopw [5] (fun i wr => ∃ (j : Nat) (d : World), j ≤ r.sn.length ∧ i = .int .i64 j ∧ (∀ a, a < j → r.sn.getD a zeroP ≠ p) ∧ wr = gr W1 d) (fun i _ => r.sn.length - (intOf i).toNat)
  case atStart => exact ⟨0, d8, by omega, rfl, fun a ha => absurd ha (by omega), rfl⟩
  case round =>
    obtain ⟨j, d, hj, rfl, hn, rfl⟩ := hrel
    by_cases hjt : j < r.sn.length
    · have hjt' : (j : Int) < (r.sn.length : Int) := by omega
      have hne : r.sn ≠ [] := by intro e; rw [e] at hjt; simp at hjt
      obtain ⟨g, off, hs1, _⟩ := (HX_.out d).at hne
      have hrow : ∀ d, RowsAt pa zeroP 9 (gr W1 d) g off r.sn := fun d => by
        obtain ⟨g', off', e, hr⟩ := (HX_.out d).at hne
        rw [hs1] at e
        cases e
        exact hr
      have s1' := fun d => (hrow d j hjt).1
      have s2' := fun d => (hrow d j hjt).2
      have hmem : r.sn.getD j zeroP ∈ r.sn := by rw [List.getD_eq_getElem?_getD, List.getElem?_eq_getElem hjt]; exact List.getElem_mem hjt
      generalize hx : r.sn.getD j zeroP = x at *
      clear hrow hne
      have HN_ := hid hn
      clear hn
      have HMEM_ := hid hmem
      clear hmem
      have HX_ := hid hx
      clear hx
      go_wp2
      refine wp_region_gr W1 (by kernel_rfl) (by kernel_rfl) ⟨_, rfl⟩ ?_
      repeat (go_big_quiet_step (fail))
      refine wpQuiet_nil ?_
      rintro _ ⟨y, rfl⟩
      by_cases hp : x = p
      · have hd : decide (x = p) = true := decide_eq_true hp
        go_wp2
        go_ret
        exact ⟨ret_bool (by unfold knownR; exact (decide_eq_true (by rw [← hp]; exact HMEM_.out)).symm), B1_.out.trans ((gr_below W1 y).mono B1_.out.size)⟩
      · have hd : decide (x = p) = false := decide_eq_false hp
        have HP_ := hid hp
        clear hp
        go_wp2
        go_roundw
        case rel =>
          refine ⟨j + 1, _, by omega, by go_num, fun a ha => ?_, rfl⟩
          by_cases e : a = j
          · rw [e, HX_.out]; exact HP_.out
          · exact HN_.out a (by omega)
        case measure => simp [intOf]; omega
    · obtain rfl : j = r.sn.length := by omega
      have hno : knownR r p = false := decide_eq_false (fun hm => by
        obtain ⟨a, ha, e⟩ := List.getElem_of_mem hm
        exact hn a ha (by rw [List.getD_eq_getElem?_getD, List.getElem?_eq_getElem ha]; exact e))
      clear hn hjt
      have HNO_ := hid hno
      clear hno
      go_wp2
      go_ret
      exact ⟨by rw [HNO_.out]; rfl, B1_.out.trans ((gr_below W1 d).mono B1_.out.size)⟩
end Go.Proofs.Ytoblgdjjpbnemaa
