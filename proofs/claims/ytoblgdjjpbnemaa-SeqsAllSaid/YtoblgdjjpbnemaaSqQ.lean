/-
  The walk of the reference's without. No condition.
-/
import Derived.Test.YtoblgdjjpbnemaaSqP
namespace Go.Proofs.Ytoblgdjjpbnemaa
open Go.RowKit

theorem sub_sub (A : Array Value) (o n i k : Nat) (h : i + k ≤ n) (hA : o + n ≤ A.size) : sub A (o + i) k = sub (sub A o n) i k := by
  apply Array.ext_getElem?
  intro j
  unfold sub
  rw [Array.getElem?_extract, Array.getElem?_extract]
  simp only [Array.size_extract]
  by_cases hj : j < k
  · rw [if_pos (by omega), if_pos (by omega), Array.getElem?_extract, if_pos (by omega)]
    congr 1
    omega
  · rw [if_neg (by omega), if_neg (by omega)]
/-- A row of one's own stays where none of its blocks changes. -/
theorem owns_chg {w w' : World} {base : Nat} {e : TypeId} {size : Nat} {v : Value} {n : Nat} {xs : List Value} (h : w.ownsRow base e size v n xs) {S : Nat → Prop} (hc : Chg S w w') (hS : ∀ b, base ≤ b → ¬ S b) : w'.ownsRow base e size v n xs := by
  obtain ⟨h1, h2⟩ := h
  refine ⟨h1, ?_⟩
  rcases h2 with h2 | ⟨g, cap, cur, hv, hg, hh, r⟩
  · exact Or.inl h2
  · have hlt := (Array.getElem?_eq_some_iff.1 hh).1
    exact Or.inr ⟨g, cap, cur, hv, hg, by rw [hc.block g hlt (hS g hg)]; exact hh, r⟩
theorem owns_base {w : World} {b1 b2 : Nat} {e : TypeId} {size : Nat} {v : Value} {n : Nat} {xs : List Value} (h : w.ownsRow b1 e size v n xs) (hb : b2 ≤ b1) : w.ownsRow b2 e size v n xs := by
  obtain ⟨h1, h2⟩ := h
  refine ⟨h1, ?_⟩
  rcases h2 with h2 | ⟨g, cap, cur, hv, hg, r⟩
  · exact Or.inl h2
  · exact Or.inr ⟨g, cap, cur, hv, Nat.le_trans hb hg, r⟩
theorem owns_below {w w' : World} {base : Nat} {e : TypeId} {size : Nat} {v : Value} {n : Nat} {xs : List Value} (h : w.ownsRow base e size v n xs) (hb : Below w.heap.size w w') : w'.ownsRow base e size v n xs := owns_chg (S := fun _ => False) h (.of_below hb) (fun _ _ => id)
def withL (l : List HaR) (p : Prt) : List HaR := l.filter fun x => !decide (x.p = p)
theorem withL_take (l : List HaR) (p : Prt) (j : Nat) (h : j < l.length) : withL (l.take (j + 1)) p = withL (l.take j) p ++ if (l.getD j zeroHa).p = p then [] else [l.getD j zeroHa] := by
  have e : l.take (j + 1) = l.take j ++ [l.getD j zeroHa] := by
    rw [List.take_add_one]
    congr 1
    simp [h]
  unfold withL
  rw [e, List.filter_append]
  congr 1
  generalize l.getD j zeroHa = x
  by_cases hp : x.p = p
  · rw [if_pos hp]; simp [hp]
  · rw [if_neg hp]; simp [hp]
theorem withL_len (l : List HaR) (p : Prt) : (withL l p).length ≤ l.length := List.length_filter_le _ _
theorem bsH (w : World) (s : HaR) : (Instr.buildSlice 29 1 #[(0, .agg (ha s))]).run Try.prog w = .ok (.slice (some ⟨w.heap.size, 0, none⟩) 1 1) (w.alloc (.cells (ha s) 79)) := elH.bs1 w s
theorem bsL (w : World) (s : LaR) : (Instr.buildSlice 28 1 #[(0, .agg (la s))]).run Try.prog w = .ok (.slice (some ⟨w.heap.size, 0, none⟩) 1 1) (w.alloc (.cells (la s) 75)) := elL.bs1 w s
theorem bsP (w : World) (s : Prt) : (Instr.buildSlice 27 1 #[(0, .agg (pa s))]).run Try.prog w = .ok (.slice (some ⟨w.heap.size, 0, none⟩) 1 1) (w.alloc (.cells (pa s) 35)) := elP.bs1 w s
theorem bsP0 (w : World) : (Instr.buildSlice 27 0 #[]).run Try.prog w = .ok (.slice (some ⟨w.heap.size, 0, none⟩) 0 0) (w.alloc (.cells #[] 35)) := elP.bs0 w
attribute [-go_sem] Instr.buildSlice
attribute [local go_sem] bsH bsL bsP bsP0
set_option maxRecDepth 100000 in
set_option maxHeartbeats 4000000 in
theorem without_c (r : RB) (s1 s2 s3 : Sl) (p : Prt) (hl : r.hs.length ≤ 900) (w : World) (h : RL w r s1 s2 s3) :
    Calls Try.prog 31 #[.agg (rc r s1 s2 s3), .agg (pa p)] w fun e w' => ∃ s', e = .returned (.agg (rc ⟨r.sent, r.sn, r.ls, withL r.hs p⟩ s1 s2 s')) ∧ w'.ownsRow w.heap.size 79 13 (.slice s'.a (withL r.hs p).length s'.c) (withL r.hs p).length (rowsL ha (withL r.hs p)) ∧ Below w.heap.size w w' := by
  have H_ := hid h
  clear h
  go_enter Try.func31, Try.ntmps31
  go_upto_region 1 with (fail)
  obtain ⟨W1, hW1⟩ : ∃ W1, ((w.alloc (.cells (rc r s1 s2 s3) 31)).alloc (.cells (pa p) 35)).alloc (.cells (rc zeroRB nilS nilS nilS) 31) = W1 := ⟨_, rfl⟩
  have b1 : Below w.heap.size w W1 := by rw [← hW1]; exact (((Below.refl _ _).alloc (Nat.le_refl _) _).alloc (by simp) _).alloc (by simp; omega) _
  have r0 : row? W1 w.heap.size = rc r s1 s2 s3 := by
    rw [← hW1]
    simp [row_alloc, rowOf]
    intro e
    omega
  have o0 : own? W1 w.heap.size = true := by
    rw [← hW1]
    simp [own_alloc, ownOf]
  have r1 : row? W1 (w.heap.size + 1) = pa p := by rw [← hW1]; simp [row_alloc, rowOf]
  have o1 : own? W1 (w.heap.size + 1) = true := by rw [← hW1]; simp [own_alloc, ownOf]
  have r2 : row? W1 (w.heap.size + 1 + 1) = rc zeroRB nilS nilS nilS := by rw [← hW1]; simp [row_alloc, rowOf]
  have o2 : own? W1 (w.heap.size + 1 + 1) = true := by rw [← hW1]; simp [own_alloc, ownOf]
  rw [rc_lit, hW1]
  clear hW1
  have hX := (H_.out.below b1).hs
  have l2 := own_lt o2
  have HX_ := hid hX
  clear hX
  have B1_ := hid b1
  clear b1
  have R0_ := hid r0
  clear r0
  have R1_ := hid r1
  clear r1
  have R2_ := hid r2
  clear r2
  have O0_ := hid o0
  clear o0
  have O1_ := hid o1
  clear o1
  have O2_ := hid o2
  clear o2
  go_wp2
  go_loopw [5, 6] (fun v i wr => ∃ j : Nat, j ≤ r.hs.length ∧ i = .int .i64 j ∧ wr.ownsRow W1.heap.size 79 13 v (withL (r.hs.take j) p).length (rowsL ha (withL (r.hs.take j) p)) ∧ Below W1.heap.size W1 wr) (fun _ i _ => r.hs.length - (intOf i).toNat)
  case atStart => exact ⟨0, by omega, rfl, World.ownsRow_nil _ _ _ _, Below.refl _ _⟩
  case round =>
    obtain ⟨j, hj, rfl, hown, hbl⟩ := hrel
    have e0 : row? wr w.heap.size = rc r s1 s2 s3 := (row_of_block (hbl.block _ (by omega))).trans R0_.out
    by_cases hjt : j < r.hs.length
    · have hjt' : (j : Int) < (r.hs.length : Int) := by omega
      have hne : r.hs ≠ [] := by intro e; rw [e] at hjt; simp at hjt
      obtain ⟨g, off, hs3, hrow⟩ := (HX_.out.below (by decide) hbl).at hne
      obtain ⟨s1', s2'⟩ := hrow j hjt
      have e1 : row? wr (w.heap.size + 1) = pa p := (row_of_block (hbl.block _ (by omega))).trans R1_.out
      have hlt := row_lt (w := wr) (b := w.heap.size) (by rw [e0]; simp)
      have hlt1 := row_lt (w := wr) (b := w.heap.size + 1) (by rw [e1]; simp)
      have hltg : g < wr.heap.size := hrow.lt (by decide) hne
      have hk := withL_take r.hs p j hjt
      have hlw := withL_len (r.hs.take j) p
      rw [List.length_take] at hlw
      generalize r.hs.getD j zeroHa = x at *
      clear hrow hne
      have k0 := gr_row e0 hlt
      have k1 := gr_row e1 hlt1
      have kg : ∀ d, row? (gr wr d) g = row? wr g := fun d => Below_row (gr_below wr d) hltg
      have s2'' : sub (row? wr g) (off + j * 13) 9 = pa x.p := by
        have := sub_sub (row? wr g) (off + j * 13) 13 0 9 (by omega) s1'
        rw [s2', ha_p] at this
        exact this
      have k9 : ∀ d, off + j * 13 + 9 ≤ (row? (gr wr d) g).size := fun d => by rw [kg d]; omega
      have k9s : ∀ d, sub (row? (gr wr d) g) (off + j * 13) 9 = pa x.p := fun d => by rw [kg d]; exact s2''
      have k13 : ∀ d, off + j * 13 + 13 ≤ (row? (gr wr d) g).size := fun d => by rw [kg d]; exact s1'
      have k13s : ∀ d, sub (row? (gr wr d) g) (off + j * 13) 13 = ha x := fun d => by rw [kg d]; exact s2'
      clear kg s1' s2' s2'' hlt hlt1 hltg
      have HOWN_ := hid hown
      clear hown
      have HBL_ := hid hbl
      clear hbl
      have HK_ := hid hk
      clear hk
      have HLW_ := hid hlw
      clear hlw
      have K13_ := hid k13
      clear k13
      have K13S_ := hid k13s
      clear k13s
      go_upto_region 5 with (fail)
      obtain ⟨d8, hd8⟩ : ∃ d, wr = gr wr d := ⟨wr, gr_self wr⟩
      rw [hd8]
      clear hd8
      refine wp_region_gr wr (by kernel_rfl) (by kernel_rfl) ⟨_, rfl⟩ ?_
      repeat (go_big_quiet_step (fail))
      refine wpQuiet_nil ?_
      rintro _ ⟨y, rfl⟩
      have hown2 := ownsRow_gr HOWN_.out y
      have hbl2 := HBL_.out.trans ((gr_below wr y).mono HBL_.out.size)
      have e0 := k0 y
      have t1 := K13_.out y
      have t2 := K13S_.out y
      clear k0 k1 k9 k9s K13_ K13S_ HOWN_ HBL_
      generalize gr wr y = w2 at *
      by_cases hp : x.p = p
      · have hd : (!decide (x.p = p)) = false := by rw [decide_eq_true hp]; rfl
        rw [hd]
        have hk := HK_.out
        rw [if_pos hp, List.append_nil] at hk
        clear HK_ hp
        have HK_ := hid hk
        clear hk
        have HOWN2_ := hid hown2
        clear hown2
        have HBL2_ := hid hbl2
        clear hbl2
        go_wp2
        exact ⟨⟨j + 1, by omega, by go_num, by rw [HK_.out]; exact HOWN2_.out, HBL2_.out⟩, by simp [intOf]; omega⟩
      · have hd : (!decide (x.p = p)) = true := by rw [decide_eq_false hp]; rfl
        rw [hd]
        have hk := HK_.out
        rw [if_neg hp] at hk
        have hbs := hbl2.size
        obtain ⟨v', w3, hrun, ho3, hb3⟩ := elH.app x _ (by have := HLW_.out; omega) hown2 hbs
        rw [← hk] at ho3
        have n1 : ¬ w.heap.size = w2.heap.size := by omega
        have n2 : ¬ g = w2.heap.size := fun e => by
          have := row_lt (w := w2) (b := g) (fun e => by rw [e] at t1; simp at t1)
          omega
        obtain ⟨_, a', c', rfl, _⟩ := elH.rows hown2
        obtain ⟨_, a'', c'', rfl, _⟩ := elH.rows ho3
        have hbl3 := hbl2.trans hb3
        clear HK_ hk hp hown2 hb3 hbl2 HLW_ hbs
        have HRUN_ := hid hrun
        clear hrun
        have HO3_ := hid ho3
        clear ho3
        have HBL3_ := hid hbl3
        clear hbl3
        go_wp2_with (at_builtin; refine wpList_append_runE rfl _ _ 29 rfl _ _ rfl rfl HRUN_.out ?_)
        exact ⟨⟨j + 1, by omega, by go_num, HO3_.out, HBL3_.out⟩, by simp [intOf]; omega⟩
    · obtain rfl : j = r.hs.length := by omega
      have ht : r.hs.take r.hs.length = r.hs := List.take_of_length_le (Nat.le_refl _)
      rw [ht] at hown
      obtain ⟨_, a', c', rfl, _⟩ := elH.rows hown
      have hset := rc_set18 r s1 s2 s3 ⟨a', c'⟩ (withL r.hs p)
      have p0 : own? wr w.heap.size = true := (own_of_block (hbl.block _ (by omega))).trans O0_.out
      have e2 : row? wr (w.heap.size + 1 + 1) = rc zeroRB nilS nilS nilS := (row_of_block (hbl.block _ (by omega))).trans R2_.out
      have p2 : own? wr (w.heap.size + 1 + 1) = true := (own_of_block (hbl.block _ (by omega))).trans O2_.out
      have hbw := B1_.out.trans (hbl.mono B1_.out.size)
      clear ht hjt hj R0_ R1_ R2_ O0_ O1_ O2_ HX_
      have HOWN_ := hid hown
      clear hown
      have HBL_ := hid hbl
      clear hbl
      have HSET_ := hid hset
      clear hset
      have HBW_ := hid hbw
      clear hbw
      go_upto_region 8 with (fail)
      have c3 : Chg (fun b => b = w.heap.size ∨ b = w.heap.size + 1 + 1) wr (wr.setCell ⟨w.heap.size, 18, none⟩ (.slice a' (withL r.hs p).length c')) := (Chg.refl (fun b => b = w.heap.size ∨ b = w.heap.size + 1 + 1) wr).setCell (p := ⟨w.heap.size, 18, none⟩) (.inr (.inl rfl)) _
      have q0 : row? (wr.setCell ⟨w.heap.size, 18, none⟩ (.slice a' (withL r.hs p).length c')) w.heap.size = rc ⟨r.sent, r.sn, r.ls, withL r.hs p⟩ s1 s2 ⟨a', c'⟩ := by rw [row_setCell, if_pos rfl, e0]; exact HSET_.out
      have q2 : row? (wr.setCell ⟨w.heap.size, 18, none⟩ (.slice a' (withL r.hs p).length c')) (w.heap.size + 1 + 1) = rc zeroRB nilS nilS nilS := by rw [row_setCell, if_neg (by show ¬ w.heap.size + 1 + 1 = w.heap.size; omega)]; exact e2
      have p2' : own? (wr.setCell ⟨w.heap.size, 18, none⟩ (.slice a' (withL r.hs p).length c')) (w.heap.size + 1 + 1) = true := by rw [own_setCell]; exact p2
      generalize wr.setCell ⟨w.heap.size, 18, none⟩ (.slice a' (withL r.hs p).length c') = w3 at *
      have C3_ := hid c3
      clear c3
      go_wp2
      have c4 := C3_.out.setRow (b := w.heap.size + 1 + 1) (.inr (.inr rfl)) (rc ⟨r.sent, r.sn, r.ls, withL r.hs p⟩ s1 s2 ⟨a', c'⟩)
      have e5 : row? (w3.setRow (w.heap.size + 1 + 1) (rc ⟨r.sent, r.sn, r.ls, withL r.hs p⟩ s1 s2 ⟨a', c'⟩)) (w.heap.size + 1 + 1) = rc ⟨r.sent, r.sn, r.ls, withL r.hs p⟩ s1 s2 ⟨a', c'⟩ := by rw [row_setRow _ _ _ _ (by rw [q2]; simp), if_pos rfl]
      generalize w3.setRow (w.heap.size + 1 + 1) (rc ⟨r.sent, r.sn, r.ls, withL r.hs p⟩ s1 s2 ⟨a', c'⟩) = w5 at *
      have ho5 := owns_chg HOWN_.out c4 (fun b hb e => by omega)
      have hb5 := HBW_.out.trans (c4.below HBW_.out.size (fun k hk e => by omega))
      exact bodyPost_ret (results_cell rfl rfl (v := .agg (rc ⟨r.sent, r.sn, r.ls, withL r.hs p⟩ s1 s2 ⟨a', c'⟩)) (by rw [ldRB _ _ _ (by rw [e5]; simp), e5, rc_all])) rfl ⟨⟨a', c'⟩, rfl, owns_base ho5 (by omega), hb5⟩
end Go.Proofs.Ytoblgdjjpbnemaa
