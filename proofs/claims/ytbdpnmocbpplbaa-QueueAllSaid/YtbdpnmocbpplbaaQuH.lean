/-
  The walk of alive (layer 18): it answers true. No condition.
-/
import Derived.Test.YtbdpnmocbpplbaaQuG
import Derived.Laws.BytesArg
import Derived.Lib.SlBytesConst
namespace Go.Proofs.Ytbdpnmocbpplbaa
open Go.RowKit Go.Conc

theorem conv_rows {w : World} {a : Option Addr} {bs : List Int} (h : RowsIn b1 0 1 w a bs) (c : Nat) : (convert 28 9 (.slice a bs.length c)).run Try.prog w = .ok (.string (strOfNums bs)) w := by
  rcases h with h | ⟨b, off, rfl, h⟩
  · subst h
    simp only [List.length_nil]
    rw [run_convert_bytes_string w 28 9 5 _ 0 c Try.underlying28 Try.underlying5 Try.underlying9]
    cases a <;> simp [Conv.bytesToString, loadCells]
    all_goals rfl
  · refine run_convert_bytes_arg w 28 5 Try.underlying28 Try.underlying5 b off bs.length c bs rfl (fun i hi => ?_) 9 Try.underlying9
    have hc := bytes_cells h i (.int .u8 (bs.getD i 0)) (by simp [byts, hi])
    rwa [add_pl] at hc
@[go_sem] theorem bldItmK (w : World) (k : Int) : (bld 32 #[(0, .int .i64 k)]).run Try.prog w = .ok (.agg (ic k none 0 0)) w := run_bld w (by kernel_rfl)
abbrev x1 : Itm := ⟨1, [97]⟩
abbrev x2 : Itm := ⟨2, []⟩
abbrev x3 : Itm := ⟨3, []⟩
theorem kept12 : keptN (fun k => decide ((k : Int) ≠ 1)) [x1, x2] 2 = [x1] := by simp [keptN]
set_option maxRecDepth 100000 in
set_option maxHeartbeats 1000000 in
theorem alive18_c (w : World) : Calls Try.prog 10 #[] w fun e w' => e = .returned (.bool true) ∧ Below w.heap.size w w' := by
  go_enter Try.func10, Try.ntmps10
  go_wp2_with fail
  refine (new_ok 2 (by decide) (by decide) w).mono ?_
  rintro e w1 ⟨b, ch, rfl, b1', hb, hch, q1⟩
  dsimp only
  have hcv := Lib.run_convert_bytes_const (P := Try.prog) w1 28 5 #[.int .u8 97] 1 1 Try.underlying28 Try.underlying5
  go_wp2_with fail
  clear hcv
  obtain ⟨w2, hE⟩ : ∃ w2, w1.alloc (.cells #[.int .u8 97] 5 (1, 1 + 1)) = w2 := ⟨_, rfl⟩
  have b2 : Below w1.heap.size w1 w2 := by rw [← hE]; exact (Below.refl _ _).alloc (Nat.le_refl _) _
  have r2 : row? w2 w1.heap.size = #[.int .u8 97] := by rw [← hE]; simp [row_alloc, rowOf]
  rw [hE]
  clear hE
  have q2 := q1.below b2
  have p1 : ItmIn w2 (.agg (ic 1 (some ⟨w1.heap.size, 0, none⟩) 1 1)) x1 := ⟨_, 1, rfl, .inr ⟨_, 0, rfl, fun k hk => by
    rw [r2]
    match k, hk with
    | 0, _ => exact ⟨by simp, by kernel_rfl⟩⟩⟩
  refine (put_ok _ x1 (by decide) w2 q2 p1 (by simp)).mono ?_
  rintro e w3 ⟨rfl, v1, q3, n3, c3⟩
  dsimp only
  have i3 : Its w3 [v1] [x1] := Its.cons.2 ⟨n3.itm, Its.nil _⟩
  have f3 : Fresh 0 w3 [v1] := fun v hv g hg => by
    obtain rfl : v = v1 := by simpa using hv
    exact ⟨Nat.zero_le _, (n3.blk hg).2⟩
  go_wp2_with fail
  have p2 : ItmIn w3 (.agg (ic 2 none 0 0)) x2 := ⟨none, 0, rfl, .inl rfl⟩
  refine (put_ok _ x2 (by decide) w3 q3 p2 (by simp)).mono ?_
  rintro e w4 ⟨rfl, v2, q4, n4, c4⟩
  dsimp only
  have i4 : Its w4 [v1, v2] [x1, x2] := (i3.kept c4 (fun _ _ g _ e => by rw [e]; exact q3.rowc)).snoc n4.itm
  have f4 : Fresh 0 w4 [v1, v2] := (f3.kept c4 (fun v hv g hg e => by
    have := (f3 v hv g hg).2
    rw [e, q3.ownc] at this
    cases this)).snoc (fun g hg => ⟨Nat.zero_le _, (n4.blk hg).2⟩)
  go_wp2_with fail
  have p3 : ItmIn w4 (.agg (ic 3 none 0 0)) x3 := ⟨none, 0, rfl, .inl rfl⟩
  refine (put_full _ x3 (by decide) w4 q4 p3 (by simp)).mono ?_
  rintro e w5 ⟨rfl, b5⟩
  dsimp only
  have q5 := q4.below b5
  have i5 := i4.kept (S := fun _ => False) (.of_below b5) (fun _ _ _ _ h => h.elim)
  have f5 := f4.kept (S := fun _ => False) (.of_below b5) (fun _ _ _ _ h => h)
  have bw : Below w.heap.size w w5 := by
    have h1 := ((((Chg.of_below (S := (· = ch)) b1').trans (.of_below b2)).trans c3).trans c4).trans (.of_below b5)
    exact h1.below (Nat.le_refl _) (fun k hk e => by omega)
  go_wp2_with fail
  have hpk := pick_c (xs := [x1, x2]) 1 w5 q5 i5 f5 (by decide) (by decide) (fun k hk => by
    match k, hk with
    | 0, _ => decide
    | 1, _ => decide)
  rw [show ([x1, x2] : List Itm).length = 2 from rfl, kept12, show decide ((0 : Int) ≤ 1 ∧ (1 : Int) < ((2 : Nat) : Int)) = true by decide, show ([x1, x2] : List Itm).getD (Int.toNat 1) zeroI = x2 from rfl] at hpk
  refine hpk.mono ?_
  rintro e w6 ⟨v, us, rfl, q6, i6, hf6, hit, hno6, c6⟩
  obtain ⟨a6, e6, rfl, hr6⟩ := hit (by decide)
  obtain ⟨u1, rfl⟩ : ∃ u1, us = [u1] := List.length_eq_one_iff.1 i6.1
  have p6 := (Its.cons.1 i6).1
  dsimp only
  have bw6 : Below w.heap.size w w6 := bw.trans (c6.below bw.size (fun k hk e => by omega))
  clear hpk hit i6 q5 i5 f5 q4 i4 f4 q3 i3 f3 q2 p1 p2 p3 n3 n4 c3 c4 c6 b5 r2 b2 bw q1 b1' hf6 hno6 hr6
  have P6_ := hid p6
  clear p6
  have BW6_ := hid bw6
  clear bw6
  have Q6_ := hid q6
  clear q6
  go_upto_region 6 with (fail)
  obtain ⟨w7, hE, r7, o7, b7, z7⟩ := newb w6 (ic 0 none 0 0) (ic 2 a6 0 e6) 32 (by simp)
  simp only [List.length_nil]
  rw [hE]
  clear hE
  have q7 := Q6_.out.below b7
  have p7 := P6_.out.below b7
  have bw7 := BW6_.out.trans (b7.mono BW6_.out.size)
  generalize w6.heap.size = n7 at *
  clear b7
  obtain ⟨a1, e1, rfl, hr1⟩ := p7
  clear P6_ BW6_ Q6_
  have Q7_ := hid q7
  clear q7
  have HR1_ := hid hr1
  clear hr1
  have BW7_ := hid bw7
  clear bw7
  go_wp2_with fail
  refine (take_ok _ x1 w7 Q7_.out ⟨a1, e1, rfl, HR1_.out⟩).mono ?_
  rintro e w8 ⟨rfl, q8, c8⟩
  dsimp only
  have hr8 := HR1_.out.kept (by decide) c8 (fun g _ e => by rw [e]; exact Q7_.out.rowc)
  have r8 : row? w8 n7 = ic 2 a6 0 e6 := (c8.row (own_lt o7) (fun e => by rw [e, Q7_.out.ownc] at o7; cases o7)).trans r7
  have bw8 := BW7_.out.trans (c8.below BW7_.out.size (fun k hk e => by omega))
  clear Q7_ HR1_ BW7_ c8 r7 o7 z7
  have Q8_ := hid q8
  clear q8
  have HR8_ := hid hr8
  clear hr8
  have BW8_ := hid bw8
  clear bw8
  go_upto_region 7 with (fail)
  obtain ⟨w9, hE, r9, o9, b9, z9⟩ := newb w8 (ic 0 none 0 0) (ic 1 a1 1 e1) 32 (by simp)
  simp only [List.length_cons, List.length_nil, Nat.zero_add]
  rw [hE]
  clear hE
  have q9 := Q8_.out.below b9
  have hr9 := HR8_.out.below (by decide) b9
  have s9 : row? w9 n7 = ic 2 a6 0 e6 := (Below_row b9 (row_lt (by rw [r8]; simp))).trans r8
  have bw9 := BW8_.out.trans (b9.mono BW8_.out.size)
  generalize w8.heap.size = n9 at *
  clear b9 r8 Q8_ HR8_ BW8_
  have Q9_ := hid q9
  clear q9
  have HR9_ := hid hr9
  clear hr9
  have BW9_ := hid bw9
  clear bw9
  go_wp2_with fail
  refine (take_none w9 Q9_.out).mono ?_
  rintro e w10 ⟨rfl, b10⟩
  dsimp only
  go_upto_region 8 with (fail)
  obtain ⟨w11, hE, r11, o11, b11, z11⟩ := newb w10 (ic 0 none 0 0) (ic 0 none 0 0) 32 (by simp)
  rw [hE]
  clear hE
  have b12 := b10.trans (b11.mono b10.size)
  have hr12 := HR9_.out.below (by decide) b12
  have hcv := conv_rows hr12 e1
  have s12 : row? w11 n7 = ic 2 a6 0 e6 := (Below_row b12 (row_lt (by rw [s9]; simp))).trans s9
  have t12 : row? w11 n9 = ic 1 a1 1 e1 := (Below_row b12 (row_lt (by rw [r9]; simp))).trans r9
  have bw12 := BW9_.out.trans (b12.mono BW9_.out.size)
  have hst : strOfNums [97] = ⟨#[97]⟩ := by decide
  simp only [List.length_cons, List.length_nil, Nat.zero_add] at hcv
  rw [hst] at hcv
  clear b10 b11 b12 hr12 HR9_ Q9_ BW9_ s9 r9 o9 z9 r11 o11 z11 hst
  have BW12_ := hid bw12
  clear bw12
  go_wp2
  trace_state
  go_ret
  exact ⟨rfl, BW12_.out⟩
end Go.Proofs.Ytbdpnmocbpplbaa
