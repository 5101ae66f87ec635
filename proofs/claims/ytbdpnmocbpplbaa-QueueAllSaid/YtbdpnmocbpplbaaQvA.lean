/-
  The reference's Turn walked. No condition.
-/
import Derived.Test.YtbdpnmocbpplbaaQuZ
namespace Go.Proofs.Ytbdpnmocbpplbaa
open Go.RowKit Go.Conc

theorem wrL_get : ∀ (l : List Value) (k : Nat) (z : Array Value) (j : Nat), k + l.length ≤ z.size → (wrL l k z)[j]? = if k ≤ j ∧ j < k + l.length then l[j - k]? else z[j]?
  | [], k, z, j, _ => by
    rw [if_neg (by simp <;> omega)]
    rfl
  | v :: l, k, z, j, h => by
    simp only [List.length_cons] at h
    rw [wrL, wrL_get l (k + 1) _ j (by simp; omega)]
    by_cases h1 : k + 1 ≤ j ∧ j < k + 1 + l.length
    · rw [if_pos h1, if_pos (by simp; omega), show j - k = (j - (k + 1)) + 1 by omega, List.getElem?_cons_succ]
    · rw [if_neg h1, Array.getElem?_setIfInBounds]
      by_cases e : k = j
      · subst e
        rw [if_pos rfl, if_pos (by omega), if_pos (by simp)]
        simp
      · rw [if_neg e, if_neg (by simp; omega)]
theorem rows_setR {w w' : World} {g off : Nat} {zs : List ItR} (h : RowsAt fR zeroR 2 w g off zs) (k : Nat) (hk : k < zs.length) (z : ItR) (hr : row? w' g = wrL (fR z).toList (off + k * 2) (row? w g)) : RowsAt fR zeroR 2 w' g off (zs.set k z) := by
  have hsz : off + k * 2 + 2 ≤ (row? w g).size := (h k hk).1
  have hget : ∀ j, (row? w' g)[j]? = if off + k * 2 ≤ j ∧ j < off + k * 2 + 2 then (fR z)[j - (off + k * 2)]? else (row? w g)[j]? := fun j => by
    rw [hr, wrL_get _ _ _ _ (by simp; omega)]
    simp
  intro i hi
  rw [List.length_set] at hi
  obtain ⟨h1, h2⟩ := h i hi
  refine ⟨by rw [hr, wrL_size]; exact h1, ?_⟩
  unfold sub at h2 ⊢
  apply Array.ext_getElem?
  intro m
  rw [Array.getElem?_extract]
  by_cases hm : m < 2
  · rw [if_pos (by rw [hr, wrL_size]; omega), hget]
    by_cases e : k = i
    · subst e
      rw [if_pos (by omega), List.getD_eq_getElem?_getD, List.getElem?_set_self hi, Option.getD_some]
      congr 1
      omega
    · rw [if_neg (by omega), List.getD_eq_getElem?_getD, List.getElem?_set_ne e, ← List.getD_eq_getElem?_getD, ← h2, Array.getElem?_extract, if_pos (by omega)]
  · rw [if_neg (by rw [hr, wrL_size]; omega), Array.getElem?_eq_none (by simp; omega)]
theorem own_rows3 {w : World} {base : Nat} {v : Value} {n : Nat} {ys : List ItR} (h0 : ys ≠ []) (h : w.ownsRow base 30 2 v n (rowsL fR ys)) : n = ys.length ∧ ∃ g cap, v = .slice (some ⟨g, 0, none⟩) ys.length cap ∧ RowsAt fR zeroR 2 w g 0 ys ∧ base ≤ g ∧ own? w g = true := by
  obtain ⟨hn, a, cap, rfl, hr⟩ := own_rows fR_size (by decide) zeroR h
  subst hn
  refine ⟨rfl, ?_⟩
  have hl := List.length_pos_iff.2 h0
  rcases h.2 with ⟨e, h1⟩ | ⟨g, cap', cur, e, hge, hh, _⟩
  · omega
  · injection e with e1 e2 e3
    subst e1
    obtain ⟨_, _, e4, h4⟩ := hr.at h0
    cases e4
    exact ⟨g, cap, rfl, h4, hge, by unfold own?; rw [hh]; rfl⟩
@[go_sem] theorem bldRItm (w : World) (k : Int) (a : Option Addr) (n c : Nat) : (bld 30 #[(0, .int .i64 k), (1, .slice a n c)]).run Try.prog w = .ok (.agg (ic k a n c)) w := run_bld w (by kernel_rfl)
attribute [local go_sem] run_bsR1 run_bsR0 run_bsB0
theorem row_ne_own {w : World} {g : Nat} {zs : List ItR} {k : Nat} (_ : own? w g = true) (h : RowsAt fR zeroR 2 w g 0 zs) (hk : k < zs.length) : row? w g ≠ #[] := fun e => by
  have := (h k hk).1
  rw [e] at this
  simp at this
/-- A slice that lies behind a world, if anywhere. -/
def NewA (w : World) (a : Option Addr) : Prop := ∀ b, a.map (·.block) = some b → w.heap.size ≤ b
def turnZ (p at_ : Int) (zs : List ItR) (a : Option Addr) (c : Nat) : List ItR := if doneT p at_ (itms zs) (itms zs).length = true then zs.set p.toNat ⟨turnI (zs.getD p.toNat zeroR).x at_, a, c⟩ else zs
theorem turnZ_itms (p at_ : Int) (zs : List ItR) (a : Option Addr) (c : Nat) : itms (turnZ p at_ zs a c) = turnL p at_ (itms zs) := by
  unfold turnZ turnL
  by_cases h : doneT p at_ (itms zs) (itms zs).length = true
  · rw [if_pos h, if_pos h]
    obtain ⟨k, j, rfl, rfl, hk, _⟩ := doneT_ex h
    have hk' : k < zs.length := by simpa [itms] using hk
    rw [Int.toNat_natCast, itms_getD zs k hk']
    simp [itms, List.map_set]
  · rw [if_neg h, if_neg h]
set_option maxRecDepth 100000 in
set_option maxHeartbeats 2000000 in
theorem rturn_c (m : Int) (zs : List ItR) (a : Option Addr) (c : Nat) (p at_ : Int) (w : World) (h : RL w a zs) (hl : zs.length ≤ 900) (hok : ∀ z ∈ zs, okI z.x) :
    Calls Try.prog 31 #[.agg (qa m a zs.length c), .int .i64 p, .int .i64 at_] w fun e w' => ∃ a' c' a2 c2, e = .returned (.tuple #[.agg (qa m a' (turnZ p at_ zs a2 c2).length c'), .bool (doneT p at_ (itms zs) (itms zs).length)]) ∧ RL w' a' (turnZ p at_ zs a2 c2) ∧ Below w.heap.size w w' ∧ Org w a zs a' (turnZ p at_ zs a2 c2) ∧ NewA w a2 := by
  have H_ := hid h
  clear h
  have HOK_ := hid hok
  clear hok
  go_enter Try.func31, Try.ntmps31
  go_upto_region 1 with (fail)
  obtain ⟨W1, hW1⟩ : ∃ W1, (w.alloc (.cells (qa m a zs.length c) 47)).alloc (.cells (ic 0 none 0 0) 47) = W1 := ⟨_, rfl⟩
  have hb1 : Below w.heap.size w W1 := by rw [← hW1]; exact ((Below.refl _ _).alloc (Nat.le_refl _) _).alloc (by simp) _
  have r0 : row? W1 w.heap.size = qa m a zs.length c := by rw [← hW1]; simp [row_alloc, rowOf]
  have r1 : row? W1 (w.heap.size + 1) = ic 0 none 0 0 := by rw [← hW1]; simp [row_alloc, rowOf]
  have o0 : own? W1 w.heap.size = true := by rw [← hW1]; simp [own_alloc, ownOf]
  have o1 : own? W1 (w.heap.size + 1) = true := by rw [← hW1]; simp [own_alloc, ownOf]
  rw [hW1]
  clear hW1
  have hs1 : w.heap.size + 1 < W1.heap.size := own_lt o1
  have h1 := H_.out.below hb1
  have hlk := rlook_c m zs a c p W1 h1
  have HB1_ := hid hb1
  clear hb1
  have H1_ := hid h1
  clear h1
  have HLK_ := hid hlk
  clear hlk
  go_wp2_with fail
  refine HLK_.out.mono ?_
  rintro e w2 ⟨rfl, b2⟩
  dsimp only
  go_upto_region 2 with (fail)
  obtain ⟨w3, hE, r3, o3, b3, lt3⟩ := newb w2 (ic 0 none 0 0) (fR (lookR p zs)) 30 (by simp)
  rw [hE]
  have b13 : Below W1.heap.size W1 w3 := b2.trans (b3.mono b2.size)
  have hsz2 := b2.size
  have q0 : row? w3 w.heap.size = qa m a zs.length c := (row_of_block (b13.block _ (by omega))).trans r0
  have p0 : own? w3 w.heap.size = true := (own_of_block (b13.block _ (by omega))).trans o0
  have q1 : row? w3 (w.heap.size + 1) = ic 0 none 0 0 := (row_of_block (b13.block _ (by omega))).trans r1
  have p1 : own? w3 (w.heap.size + 1) = true := (own_of_block (b13.block _ (by omega))).trans o1
  have h3 := H1_.out.below b13
  have hb3 : Below w.heap.size w w3 := HB1_.out.trans (b13.mono HB1_.out.size)
  have hnb : w.heap.size + 1 < w2.heap.size := by omega
  clear hE HLK_ b2 b3 b13 H1_ HB1_ r0 r1 o0 o1 hs1 hsz2
  generalize w2.heap.size = nb at *
  clear W1 w2
  cases hd : doneT p at_ (itms zs) (itms zs).length with
  | false =>
    have hz : ∀ a2 c2, turnZ p at_ zs a2 c2 = zs := fun a2 c2 => by
      unfold turnZ
      rw [hd, if_neg (by simp)]
    have hcase : inR p zs.length = false ∨ (inR p zs.length = true ∧ at_ < 0) ∨ (inR p zs.length = true ∧ ¬ at_ < 0 ∧ ((lookR p zs).x.bs.length : Int) ≤ at_) := by
      cases hi : inR p zs.length with
      | false => exact .inl rfl
      | true =>
        have hin := of_decide_eq_true hi
        have hlx := lookR_x p zs
        have hil : (itms zs).length = zs.length := by simp [itms]
        unfold doneT turnsI at hd
        rw [show decide (0 ≤ p ∧ p < ((itms zs).length : Int)) = true from decide_eq_true (by rw [hil]; exact hin), Bool.true_and] at hd
        have hdd := of_decide_eq_false hd
        unfold lookI at hlx
        rw [if_pos (by rw [hil]; exact hin)] at hlx
        rw [← hlx] at hdd
        by_cases h4 : at_ < 0
        · exact .inr (.inl ⟨rfl, h4⟩)
        · exact .inr (.inr ⟨rfl, h4, by omega⟩)
    generalize hlkE : lookR p zs = lk at *
    generalize hibE : inR p zs.length = ib at *
    have HLKE_ := hid hlkE
    clear hlkE
    have HIBE_ := hid hibE
    clear hibE
    have HZ_ := hid hz
    clear hz
    have HD_ := hid hd
    clear hd
    have H3_ := hid h3
    clear h3
    have HB3_ := hid hb3
    clear hb3
    have HNB_ := hid hnb
    clear hnb
    have O3_ := hid o3
    clear o3
    have LT3_ := hid lt3
    clear lt3
    have P0_ := hid p0
    clear p0
    have hnb := HNB_.out
    rcases hcase with rfl | ⟨rfl, hx⟩ | ⟨rfl, hx, hx'⟩ <;> (
      go_wp2
      obtain ⟨W2, hE, s2, _, b2, _⟩ := set_row (w0 := w) (B := qa m a zs.length c) (by omega) q1 p1 (by simp) HB3_.out
      rw [hE]
      exact bodyPost_ret (results_cell2 rfl rfl (v := .agg (qa m a zs.length c)) (by rw [ldRQ _ _ _ (by rw [s2]; simp), s2, qa_all])) rfl ⟨a, c, none, 0, by rw [HZ_.out, HD_.out]; rfl, by rw [HZ_.out]; exact H_.out.below b2, b2, by rw [HZ_.out]; exact .self H_.out, fun b hb => by simp at hb⟩)
  | true =>
    obtain ⟨k, j, rfl, rfl, hk, hj⟩ := doneT_ex hd
    have hk' : k < zs.length := by simpa [itms] using hk
    rw [itms_getD zs k hk'] at hj
    have hlk : lookR k zs = zs.getD k zeroR := by unfold lookR; rw [if_pos (by omega), Int.toNat_natCast]
    have hib : inR k zs.length = true := decide_eq_true (by omega)
    have hzz : ∀ a2 c2, turnZ k j zs a2 c2 = zs.set k ⟨turnI (zs.getD k zeroR).x j, a2, c2⟩ := fun a2 c2 => by
      unfold turnZ
      rw [hd, if_pos rfl, Int.toNat_natCast]
    have hzm := memR hk'
    rw [hlk] at r3 ⊢
    rw [hib]
    generalize zs.getD k zeroR = z at *
    have hy := HOK_.out z hzm j hj
    have hne : z.x.bs ≠ [] := by intro e; rw [e] at hj; simp at hj
    obtain ⟨hzr, hzl⟩ := h3.ok z hzm
    obtain ⟨gb, cb, w4, hrB, hatB, hgb, howB, hbB⟩ := run_allB z.x.bs hzl hne z.a z.c hzr
    have hn3 : ¬ nb = w3.heap.size := by omega
    have hn4 : w4.heap.size ≥ w3.heap.size := hbB.size
    have hj1 : ¬ (j : Int) < 0 := by omega
    have hj2 : ¬ (z.x.bs.length : Int) ≤ (j : Int) := by omega
    have hj3 : (j : Int) < (z.x.bs.length : Int) := by omega
    have hcell := byte_at hatB j hj
    rw [Nat.zero_add] at hcell
    generalize hbj : z.x.bs.getD j 0 = y at *
    have hst := run_stAt_one (P := Try.prog) (t := 5) w4 gb j (.int .u8 (255 - y)) (by kernel_rfl) rfl (Array.getElem?_eq_some_iff.1 hcell).1 howB
    have hsub : (255 - y) % 256 = 255 - y := Int.emod_eq_of_lt (by omega) (by omega)
    have HD_ := hid hd
    clear hd
    have HZZ_ := hid hzz
    clear hzz
    have HZM_ := hid hzm
    clear hzm
    have HY_ := hid hy
    clear hy
    have HNE_ := hid hne
    clear hne
    have HZR_ := hid hzr
    clear hzr
    have HZL_ := hid hzl
    clear hzl
    have HRB_ := hid hrB
    clear hrB
    have HATB_ := hid hatB
    clear hatB
    have HGB_ := hid hgb
    clear hgb
    have HOWB_ := hid howB
    clear howB
    have HBB_ := hid hbB
    clear hbB
    have H3_ := hid h3
    clear h3
    have HB3_ := hid hb3
    clear hb3
    have HNB_ := hid hnb
    clear hnb
    have LT3_ := hid lt3
    clear lt3
    have HBJ_ := hid hbj
    clear hbj
    have P0_ := hid p0
    clear p0
    have Q1_ := hid q1
    clear q1
    have P1_ := hid p1
    clear p1
    have Q0_ := hid q0
    clear q0
    have HK_ := hid hk
    clear hk
    have HJ_ := hid hj
    clear hj
    have O3_ := hid o3
    clear o3
    have HN4_ := hid hn4
    clear hn4
    go_upto_region 6 with (at_builtin; refine wpList_append_run rfl _ _ 28 rfl _ _ rfl rfl HRB_.out ?_)
    have c5 : Chg (· = gb) w4 (w4.setCell ⟨gb, j, none⟩ (.int .u8 (255 - y))) := (Chg.refl (· = gb) w4).setCell (.inr rfl) _
    have hrow5 : row? (w4.setCell ⟨gb, j, none⟩ (.int .u8 (255 - y))) gb = (row? w4 gb).setIfInBounds (0 + j) (.int .u8 (255 - y)) := by rw [row_setCell, if_pos rfl, Nat.zero_add]
    have hat5 := HATB_.out.set j HJ_.out (255 - y) hrow5
    generalize w4.setCell ⟨gb, j, none⟩ (.int .u8 (255 - y)) = w5 at *
    have hgb := HGB_.out
    have b35 : Below w3.heap.size w3 w5 := HBB_.out.trans (c5.below HBB_.out.size (fun k hk e => by omega))
    have lt3 := LT3_.out
    have hnb := HNB_.out
    have q5 : row? w5 w.heap.size = qa m a zs.length c := (row_of_block (b35.block _ (by omega))).trans Q0_.out
    have p5 : own? w5 w.heap.size = true := (own_of_block (b35.block _ (by omega))).trans P0_.out
    have r5 : row? w5 (w.heap.size + 1) = ic 0 none 0 0 := (row_of_block (b35.block _ (by omega))).trans Q1_.out
    have s5 : own? w5 (w.heap.size + 1) = true := (own_of_block (b35.block _ (by omega))).trans P1_.out
    have t5 : row? w5 nb = fR z := (row_of_block (b35.block _ lt3)).trans r3
    have h5 := H3_.out.below b35
    have hk := HK_.out
    have hzn : zs ≠ [] := by intro e; rw [e] at hk'; simp at hk'
    obtain ⟨v6, w6, hr6, ho6, hb6⟩ := run_all2 zs (by omega) a c h5.row
    obtain ⟨_, g, c6, rfl, hat6, hge6, how6⟩ := own_rows3 hzn ho6
    have hsz5 := b35.size
    have q6 : row? w6 w.heap.size = qa m a zs.length c := (row_of_block (hb6.block _ (by omega))).trans q5
    have p6 : own? w6 w.heap.size = true := (own_of_block (hb6.block _ (by omega))).trans p5
    have r6 : row? w6 (w.heap.size + 1) = ic 0 none 0 0 := (row_of_block (hb6.block _ (by omega))).trans r5
    have s6 : own? w6 (w.heap.size + 1) = true := (own_of_block (hb6.block _ (by omega))).trans s5
    have t6 : row? w6 nb = fR z := (row_of_block (hb6.block _ (by omega))).trans t5
    have hst6 := run_stAt_part siz30 w6 g (k * 2) (ic z.x.k (some ⟨gb, 0, none⟩) z.x.bs.length cb) (ic_one _ _ _ _) (by simp) (by have := (hat6 k hk').1; omega) how6
    have n5 : ¬ w.heap.size = w5.heap.size := by omega
    have hg5 : gb < w5.heap.size := by have := own_lt HOWB_.out; have := c5.size; omega
    have hkl : (k : Int) < (zs.length : Int) := by omega
    have hk0 : ¬ (k : Int) < 0 := by omega
    have n6 : ¬ w.heap.size = g := by omega
    have n7 : ¬ nb = g := by omega
    have n8 : ¬ w.heap.size + 1 = g := by omega
    clear hrow5 ho6 hcell hst hsub c5 p5 r5 s5 t5 HRB_ HATB_ H3_ HBB_ hgb lt3 hnb
    have B35_ := hid b35
    clear b35
    have H5_ := hid h5
    clear h5
    have HR6_ := hid hr6
    clear hr6
    have HAT6_ := hid hat6
    clear hat6
    have HGE6_ := hid hge6
    clear hge6
    have HOW6_ := hid how6
    clear how6
    have HB6_ := hid hb6
    clear hb6
    have HSZ5_ := hid hsz5
    clear hsz5
    have HAT5_ := hid hat5
    clear hat5
    have P6_ := hid p6
    clear p6
    have R6_ := hid r6
    clear r6
    have S6_ := hid s6
    clear s6
    have HK_ := hid hk
    clear hk
    have HZN_ := hid hzn
    clear hzn
    have HG5_ := hid hg5
    clear hg5
    go_upto_region 8 with (at_builtin; refine wpList_append_run rfl _ _ 22 rfl _ _ rfl rfl HR6_.out ?_)
    have hne6 : row? w6 g ≠ #[] := row_ne_own HOW6_.out HAT6_.out hk'
    have c7 : Chg (· = g) w6 (w6.setRow g (wrL (ic z.x.k (some ⟨gb, 0, none⟩) z.x.bs.length cb).toList (k * 2) (row? w6 g))) := (Chg.refl (· = g) w6).setRow (.inr rfl) _
    have e7 : row? (w6.setRow g (wrL (ic z.x.k (some ⟨gb, 0, none⟩) z.x.bs.length cb).toList (k * 2) (row? w6 g))) g = wrL (fR ⟨turnI z.x j, some ⟨gb, 0, none⟩, cb⟩).toList (0 + k * 2) (row? w6 g) := by
      rw [row_setRow _ _ _ _ hne6, if_pos rfl, Nat.zero_add]
      congr 2
      simp [fR, turnI]
    have hat7 := rows_setR HAT6_.out k hk' _ e7
    generalize w6.setRow g (wrL (ic z.x.k (some ⟨gb, 0, none⟩) z.x.bs.length cb).toList (k * 2) (row? w6 g)) = w7 at *
    have hb3 := HB3_.out
    have hnb := HNB_.out
    have lt3 := LT3_.out
    have hsz5 := HSZ5_.out
    have hsz6 := HB6_.out.size
    have hge6 := HGE6_.out
    have hgb := HGB_.out
    have hg5 := HG5_.out
    have b37 : Below w3.heap.size w3 w7 := B35_.out.trans ((HB6_.out.mono hsz5).trans (c7.below (by omega) (fun k hk e => by omega)))
    have q7 : row? w7 w.heap.size = qa m a zs.length c := (c7.row (by omega) (by show ¬ _ = _; omega)).trans q6
    have p7 : own? w7 w.heap.size = true := (c7.own (by omega) (by show ¬ _ = _; omega)).trans P6_.out
    have r7 : row? w7 (w.heap.size + 1) = ic 0 none 0 0 := (c7.row (by omega) (by show ¬ _ = _; omega)).trans R6_.out
    have s7 : own? w7 (w.heap.size + 1) = true := (c7.own (by omega) (by show ¬ _ = _; omega)).trans S6_.out
    have hatb7 : RowsAt b1 0 1 w7 gb 0 (z.x.bs.set j (255 - y)) := HAT5_.out.same ((c7.row (by omega) (by show ¬ _ = _; omega)).trans (row_of_block (HB6_.out.block _ hg5)))
    have hbw7 : Below w.heap.size w w7 := hb3.trans (b37.mono hb3.size)
    have hsz7 := c7.size
    have lg7 : g < w7.heap.size := by have := own_lt HOW6_.out; omega
    clear q6 t6 hst6 hne6 c7 e7 n6 n7 n8 R6_ S6_ P6_ HAT6_ HOW6_ HB6_ HSZ5_ B35_ HG5_ HR6_ HAT5_ hb3 q5 n5
    have LG7_ := hid lg7
    clear lg7
    have HAT7_ := hid hat7
    clear hat7
    have B37_ := hid b37
    clear b37
    have HATB7_ := hid hatb7
    clear hatb7
    have HBW7_ := hid hbw7
    clear hbw7
    have HGB_ := hid hgb
    clear hgb
    have HG5_ := hid hg5
    clear hg5
    have HGE6_ := hid hge6
    clear hge6
    have HSZ5_ := hid hsz5
    clear hsz5
    have HSZ6_ := hid hsz6
    clear hsz6
    have HSZ7_ := hid hsz7
    clear hsz7
    have HNB_ := hid hnb
    clear hnb
    have LT3_ := hid lt3
    clear lt3
    have R7_ := hid r7
    clear r7
    have S7_ := hid s7
    clear s7
    go_upto_region 9 with (fail)
    have c8 : Chg (· = w.heap.size) w7 (w7.setCell ⟨w.heap.size, 1, none⟩ (.slice (some ⟨g, 0, none⟩) zs.length c6)) := (Chg.refl (· = w.heap.size) w7).setCell (.inr rfl) _
    have q8 : row? (w7.setCell ⟨w.heap.size, 1, none⟩ (.slice (some ⟨g, 0, none⟩) zs.length c6)) w.heap.size = qa m (some ⟨g, 0, none⟩) zs.length c6 := by rw [row_setCell, if_pos rfl, q7]; rfl
    have hb3 := HBW7_.out
    have hnb := HNB_.out
    have lt3 := LT3_.out
    have hsz5 := HSZ5_.out
    have hsz6 := HSZ6_.out
    have hsz7 := HSZ7_.out
    have hge6 := HGE6_.out
    have hgb := HGB_.out
    have hg5 := HG5_.out
    have r8 := (c8.row (by omega) (by show ¬ _ = _; omega)).trans R7_.out
    have s8 := (c8.own (by omega) (by show ¬ _ = _; omega)).trans S7_.out
    generalize w7.setCell ⟨w.heap.size, 1, none⟩ (.slice (some ⟨g, 0, none⟩) zs.length c6) = w8 at *
    clear p7 q7
    have C8_ := hid c8
    clear c8
    have HB3_ := hid hb3
    clear hb3
    have HNB_ := hid hnb
    clear hnb
    have LT3_ := hid lt3
    clear lt3
    have HSZ5_ := hid hsz5
    clear hsz5
    have HSZ6_ := hid hsz6
    clear hsz6
    have HSZ7_ := hid hsz7
    clear hsz7
    have HGE6_ := hid hge6
    clear hge6
    have HGB_ := hid hgb
    clear hgb
    have HG5_ := hid hg5
    clear hg5
    go_wp2
    have hb3 := HB3_.out
    have hnb := HNB_.out
    have lt3 := LT3_.out
    have hsz5 := HSZ5_.out
    have hsz6 := HSZ6_.out
    have hsz7 := HSZ7_.out
    have hge6 := HGE6_.out
    have hgb := HGB_.out
    have hg5 := HG5_.out
    have cF : Chg (fun b => b = w.heap.size ∨ b = w.heap.size + 1) w7 (w8.setRow (w.heap.size + 1) (qa m (some ⟨g, 0, none⟩) zs.length c6)) := (C8_.out.mono (fun b _ h => .inl h)).trans ((Chg.refl _ w8).setRow (.inr (.inr rfl)) _)
    have rF : row? (w8.setRow (w.heap.size + 1) (qa m (some ⟨g, 0, none⟩) zs.length c6)) (w.heap.size + 1) = qa m (some ⟨g, 0, none⟩) zs.length c6 := by rw [row_setRow _ _ _ _ (by rw [r8]; simp), if_pos rfl]
    generalize w8.setRow (w.heap.size + 1) (qa m (some ⟨g, 0, none⟩) zs.length c6) = wF at *
    have bF : Below w.heap.size w wF := HBW7_.out.trans (cF.below HBW7_.out.size (fun k hk e => by omega))
    have hatF : RowsAt fR zeroR 2 wF g 0 (zs.set k ⟨turnI z.x j, some ⟨gb, 0, none⟩, cb⟩) := HAT7_.out.same (cF.row LG7_.out (by show ¬ (_ ∨ _); omega))
    have hatbF : RowsAt b1 0 1 wF gb 0 (z.x.bs.set j (255 - y)) := HATB7_.out.same (cF.row (by omega) (by show ¬ (_ ∨ _); omega))
    refine bodyPost_ret (results_cell2 rfl rfl (v := .agg (qa m (some ⟨g, 0, none⟩) zs.length c6)) (by rw [ldRQ _ _ _ (by rw [rF]; simp), rF, qa_all])) rfl ⟨some ⟨g, 0, none⟩, c6, some ⟨gb, 0, none⟩, cb, by rw [HZZ_.out, HD_.out, List.length_set]; rfl, ?_, bF, fun b hb => .inr (.inl (by rw [← show g = b by simpa using hb]; omega)), fun b hb => by rw [← show gb = b by simpa using hb]; omega⟩
    rw [HZZ_.out]
    refine ⟨.inr ⟨g, 0, rfl, hatF⟩, fun x hx => ?_⟩
    rcases List.mem_or_eq_of_mem_set hx with h1 | h1
    · exact (H_.out.below bF).ok x h1
    · rw [h1]
      refine ⟨.inr ⟨gb, 0, rfl, ?_⟩, ?_⟩
      · show RowsAt b1 0 1 wF gb 0 (turnI z.x j).bs
        unfold turnI
        rw [Int.toNat_natCast, HBJ_.out]
        exact hatbF
      · show (turnI z.x j).bs.length ≤ 140737488351232
        simp only [turnI, List.length_set]
        exact HZL_.out
end Go.Proofs.Ytbdpnmocbpplbaa
