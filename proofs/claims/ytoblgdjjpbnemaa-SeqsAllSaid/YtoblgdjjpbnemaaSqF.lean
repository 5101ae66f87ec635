/-
  Numbers stay such; the walk of alive. No condition.
-/
import Derived.Test.YtoblgdjjpbnemaaSqE
import Derived.Test.YtoblgdjjpbnemaaRegZ
namespace Go.Proofs.Ytoblgdjjpbnemaa
open Go.RowKit

theorem set_ok {pb : PB} (h : pb.Ok) {p : Prt} {e : SE} (he : getE pb.l p = some e) (f : Hf) : PB.Ok ⟨pb.nx, setE pb.l p ⟨e.s.last, f⟩⟩ := by
  refine ⟨h.nx, fun y hy j => ?_, by show (setE pb.l p _).length ≤ 16; rw [setE_len]; exact h.len⟩
  obtain ⟨x, hx, _, _, h4⟩ := setE_mem hy
  rcases h4 with ⟨_, h5⟩ | ⟨_, h5⟩
  · rw [h5]
    exact h.last e (getE_some he).1 j
  · rw [h5]
    exact h.last x hx j
theorem keepB_ok {pb : PB} (h : pb.Ok) (p : Prt) (q : Int) (x : X3) : (keepB pb p q x).1.Ok := by
  unfold keepB
  cases hg : getE pb.l p with
  | none => exact h
  | some e =>
    dsimp only
    split
    · exact set_ok h hg _
    · exact h
theorem takeQ_ok {pb : PB} (h : pb.Ok) (p : Prt) (q : Int) : (takeQ pb p q).1.Ok := by
  unfold takeQ
  cases hg : getE pb.l p with
  | none => exact h
  | some e =>
    dsimp only
    split
    · exact set_ok h hg _
    · exact h
theorem forgetB_ok {pb : PB} (h : pb.Ok) (p : Prt) : (forgetB pb p).1.Ok :=
  ⟨h.nx, fun x hx => h.last x (dropE_mem hx).1, Nat.le_trans (List.length_filter_le _ _) h.len⟩
theorem partX (x : X3) (w : World) : (part 3 (xc x) 0).run Try.prog w = .ok (.int .i64 x.a) w ∧ (part 3 (xc x) 1).run Try.prog w = .ok (.int .i64 x.b) w ∧ (part 3 (xc x) 2).run Try.prog w = .ok (.int .i64 x.c) w := by
  have h : (isAgg 3).run Try.prog w = .ok false w := by kernel_rfl
  unfold part
  simp [Sem.run_bind, h, xc]
@[go_sem high] theorem eqX (d : Nat) (x y : X3) (w : World) : (Op.equalIn (d + 2) 36 (.agg (xc x)) (.agg (xc y))).run Try.prog w = .ok (decide (x = y)) w := by
  obtain ⟨i, hi⟩ := Option.isSome_iff_exists.1 (show (Try.prog.info? 3).isSome = true by kernel_rfl)
  have hc : Try.prog.cellsOf 3 = 1 := by kernel_rfl
  rw [run_equalIn_array w (d + 1) _ _ Try.underlying36 hi, hc, List.range_eq_range']
  have hl : List.range' 0 3 = [0, 1, 2] := rfl
  obtain ⟨x0, x1, x2⟩ := partX x w
  obtain ⟨y0, y1, y2⟩ := partX y w
  have he : ∀ a b : Int, (Op.equalIn (d + 1) 3 (.int .i64 a) (.int .i64 b)).run Try.prog w = .ok (a == b) w := fun a b => run_equalIn_int w d 3 .i64 .i64 a b Try.underlying3
  simp only [hl, Op.eqItems, Nat.mul_one, Sem.run_bind, x0, y0, Result.andThen_ok, he]
  have hd : decide (x = y) = ((x.a == y.a) && ((x.b == y.b) && (x.c == y.c))) := by
    cases x; cases y
    rw [Bool.eq_iff_iff]
    simp
  rw [hd]
  cases h1 : (x.a == y.a)
  · simp
  · cases h2 : (x.b == y.b)
    · simp [Sem.run_bind, x1, y1, he, h2]
    · cases h3 : (x.c == y.c) <;> simp [Sem.run_bind, x1, y1, x2, y2, he, h2, h3]
def p1 : Prt := ⟨zeroC, 1⟩
@[go_sem] theorem bldP1 (w : World) : (bld 35 #[(1, .int .i64 1)]).run Try.prog w = .ok (.agg (pa p1)) w := run_bld w (by kernel_rfl)
def x123 : X3 := ⟨1, 2, 3⟩
@[go_sem] theorem bldX1 (w : World) : (bld 36 #[(0, .int .i64 1), (1, .int .i64 2), (2, .int .i64 3)]).run Try.prog w = .ok (.agg (xc x123)) w := run_bld w (by kernel_rfl)
def nx2 : Nat → Int := (nextB (nextB zeroPB 0).1 0).1.nx
def se1 (h : Hf) (g : Nat) : SE := ⟨p1, ⟨upd (fun _ => 0) 0 8, h⟩, g⟩
theorem al_0 : (nextB zeroPB 0).2 = 0 := rfl
theorem al_1 : (nextB (nextB zeroPB 0).1 0).2 = 1 := by decide
theorem al_2 : (nextB (nextB zeroPB 0).1 0).1 = ⟨nx2, []⟩ := rfl
theorem al_3 (g : Nat) : freshB ⟨nx2, []⟩ p1 0 7 g = (⟨nx2, [se1 zeroH g]⟩, true) := rfl
theorem al_4 (g g' : Nat) : freshB ⟨nx2, [se1 zeroH g]⟩ p1 0 7 g' = (⟨nx2, [se1 zeroH g]⟩, false) := rfl
theorem al_5 (g : Nat) : keepB ⟨nx2, [se1 zeroH g]⟩ p1 7 x123 = (⟨nx2, [se1 ⟨true, 7, x123⟩ g]⟩, true) := rfl
theorem al_6 (g : Nat) : takeQ ⟨nx2, [se1 ⟨true, 7, x123⟩ g]⟩ p1 7 = (⟨nx2, [se1 zeroH g]⟩, x123, true) := rfl
/-- A book that was made behind w0. -/
structure BkG (w0 w : World) (b m : Nat) (pb : PB) : Prop where
  bk : BkW w b m pb
  ok : pb.Ok
  bel : Below w0.heap.size w0 w
  lo : ∀ g, InB b m pb.l g → w0.heap.size ≤ g
section
variable {w0 w w' : World} {b m : Nat} {pb pb' : PB}
theorem BkG.step (h : BkG w0 w b m pb) (hb : BkW w' b m pb') (hs : Stq b m pb.l w pb'.l w') (ho : pb'.Ok) : BkG w0 w' b m pb' :=
  ⟨hb, ho, h.bel.trans (hs.chg.below h.bel.size (fun k hk e => by have := h.lo k e; omega)), fun g hg => by
    rcases hs.inb hg with h1 | h1
    · have := h.bel.size; omega
    · exact h.lo g h1⟩
theorem BkG.below (h : BkG w0 w b m pb) (hb : Below w.heap.size w w') : BkG w0 w' b m pb := h.step (h.bk.below hb) (.below hb) h.ok
theorem new_g (w : World) : Calls Try.prog 9 #[] w fun e w' => ∃ b m, e = .returned (.pointer (some ⟨b, 0, none⟩)) ∧ BkG w w' b m zeroPB :=
  (new_c w).mono fun e w' ⟨b, m, he, h1, h2, h3, h4⟩ => ⟨b, m, he, h1, zeroPB_ok, h2, fun g hg => by
    rcases hg with rfl | rfl | ⟨x, hx, _⟩
    · exact h3
    · exact h4
    · simp [zeroPB] at hx⟩
theorem next_g (h : BkG w0 w b m pb) (k : Int) : Calls Try.prog 17 #[.pointer (some ⟨b, 0, none⟩), .int .i64 k] w fun e w' => e = .returned (.int .i64 (nextB pb k).2) ∧ BkG w0 w' b m (nextB pb k).1 ∧ Stq b m pb.l w (nextB pb k).1.l w' :=
  (next_c k h.bk h.ok).mono fun _ _ ⟨he, h1, h2⟩ => ⟨he, h.step h1 h2 (nextB_ok h.ok k), h2⟩
theorem fresh_g (h : BkG w0 w b m pb) (p : Prt) (k q : Int) : Calls Try.prog 14 #[.pointer (some ⟨b, 0, none⟩), .agg (pa p), .int .i64 k, .int .i64 q] w fun e w' => ∃ g, e = .returned (.bool (freshB pb p k q g).2) ∧ BkG w0 w' b m (freshB pb p k q g).1 ∧ Stq b m pb.l w (freshB pb p k q g).1.l w' :=
  (fresh_c p k q h.bk h.ok).mono fun _ _ ⟨g, he, h1, h2⟩ => ⟨g, he, h.step h1 h2 (freshB_ok h.ok p k q g), h2⟩
theorem keep_g (h : BkG w0 w b m pb) (p : Prt) (q : Int) (x : X3) : Calls Try.prog 15 #[.pointer (some ⟨b, 0, none⟩), .agg (pa p), .int .i64 q, .agg (xc x)] w fun e w' => e = .returned (.bool (keepB pb p q x).2) ∧ BkG w0 w' b m (keepB pb p q x).1 ∧ Stq b m pb.l w (keepB pb p q x).1.l w' :=
  (keep_c p q x h.bk).mono fun _ _ ⟨he, h1, h2⟩ => ⟨he, h.step h1 h2 (keepB_ok h.ok p q x), h2⟩
theorem take_g (h : BkG w0 w b m pb) (p : Prt) (q : Int) : Calls Try.prog 16 #[.pointer (some ⟨b, 0, none⟩), .agg (pa p), .int .i64 q] w fun e w' => e = .returned (.tuple #[.agg (xc (takeQ pb p q).2.1), .bool (takeQ pb p q).2.2]) ∧ BkG w0 w' b m (takeQ pb p q).1 ∧ Stq b m pb.l w (takeQ pb p q).1.l w' :=
  (take_c p q h.bk).mono fun _ _ ⟨he, h1, h2⟩ => ⟨he, h.step h1 h2 (takeQ_ok h.ok p q), h2⟩
theorem forget_g (h : BkG w0 w b m pb) (p : Prt) : Calls Try.prog 18 #[.pointer (some ⟨b, 0, none⟩), .agg (pa p)] w fun e w' => e = .returned (.bool (forgetB pb p).2) ∧ BkG w0 w' b m (forgetB pb p).1 ∧ Stq b m pb.l w (forgetB pb p).1.l w' :=
  (forget_c p h.bk).mono fun _ _ ⟨he, h1, h2⟩ => ⟨he, h.step h1 h2 (forgetB_ok h.ok p), h2⟩
theorem len_g (h : BkG w0 w b m pb) : Calls Try.prog 13 #[.pointer (some ⟨b, 0, none⟩)] w fun e w' => e = .returned (.int .i64 pb.l.length) ∧ w' = w := len_c h.bk
end
set_option maxRecDepth 100000 in
set_option maxHeartbeats 4000000 in
theorem alive_c (w : World) : Calls Try.prog 10 #[] w fun e w' => e = .returned (.bool true) ∧ Below w.heap.size w w' := by
  go_enter Try.func10, Try.ntmps10
  go_wp2_with fail
  refine (new_g w).mono ?_
  rintro e w1 ⟨b, m, rfl, h1⟩
  dsimp only
  have H1_ := hid h1
  clear h1
  go_upto_region 5 with (fail)
  obtain ⟨w2, hE, r2, o2, b2, l2⟩ := newb w1 (pa zeroP) (pa p1) 35 (by simp)
  rw [hE]
  clear hE
  have h2 := H1_.out.below b2
  have q2 := H1_.out.bk.fresh (Nat.le_refl _) o2
  clear b2 H1_ o2 l2
  generalize w1.heap.size = n at *
  clear w1
  have hc := next_g h2 0
  rw [al_0] at hc
  have H2_ := hid h2
  clear h2
  have Q2_ := hid q2
  clear q2
  have HC_ := hid hc
  clear hc
  have R2_ := hid r2
  clear r2
  go_wp2_with fail
  refine HC_.out.mono ?_
  rintro e w3 ⟨rfl, h3, s3⟩
  dsimp only
  have hc := next_g h3 0
  rw [al_1, al_2] at hc
  clear HC_
  have H3_ := hid h3
  clear h3
  have S3_ := hid s3
  clear s3
  have HC_ := hid hc
  clear hc
  go_wp2_with fail
  refine HC_.out.mono ?_
  rintro e w4 ⟨rfl, h4, s4⟩
  dsimp only
  have st := S3_.out.trans s4
  obtain ⟨q4, r4⟩ := st.mine Q2_.out
  rw [R2_.out] at r4
  clear st s4 HC_ H2_ H3_ S3_ Q2_ R2_
  clear w2 w3
  have H4_ := hid h4
  clear h4
  have Q4_ := hid q4
  clear q4
  go_upto_region 6 with (fail)
  have hd : ∀ w', row? w' n = pa p1 → ∃ d, w' = grK (fun w' => row? w' n = pa p1) w4 d := fun w' h => ⟨w', grK_of h⟩
  have kr := grK_is (K := fun w' => row? w' n = pa p1) r4
  refine wp_region_seg (grK (fun w' => row? w' n = pa p1) w4) [([0, 1, 3, 4], 2), ([], 5), ([], 6), ([], 7)] (by kernel_rfl) (by kernel_rfl) (fun c a b w hd h => And.intro (hd.symm.trans (And.left h)) (And.right h)) (hd _ r4) ?_
  simp only [wpSeg, selL, List.filterMap_cons, List.filterMap_nil, List.getElem?_cons_zero, List.getElem?_cons_succ]
  refine (show wpQuiet _ _ _ _ [_, _, _, _] _ from ?_)
  have HD_ := hid hd
  clear hd
  have R4_ := hid r4
  clear r4
  repeat (go_big_quiet_step (fail))
  refine wpQuiet_nil ?_
  have bd : Below w4.heap.size w4 w4.drew := (Below.refl _ _).drew
  have h5 := H4_.out.below bd
  obtain ⟨q5, r5⟩ := Q4_.out.below bd
  rw [R4_.out] at r5
  clear kr H4_ Q4_ bd
  generalize w4.drew = w5 at *
  have hc := fresh_g h5 p1 0 7
  simp only [al_3] at hc
  have HC_ := hid hc
  clear hc
  have Q5_ := hid q5
  clear q5
  have R5_ := hid r5
  clear r5
  go_wp2_with fail
  refine HC_.out.mono ?_
  rintro e w6 ⟨g, rfl, h6, s6⟩
  dsimp only
  obtain ⟨q6, r6⟩ := s6.mine Q5_.out
  rw [R5_.out] at r6
  have hc := fresh_g h6 p1 0 7
  simp only [al_4] at hc
  clear HC_ Q5_ R5_ s6 h5
  have hd6 := HD_.out w6 r6
  have HC_ := hid hc
  clear hc
  have Q6_ := hid q6
  clear q6
  have R6_ := hid r6
  clear r6
  have H6_ := hid h6
  clear h6
  have HD6_ := hid hd6
  clear hd6
  go_wp2
  refine (show _ ∧ _ from ⟨HD6_.out, ?_⟩)
  refine wpQuiet_nil ?_
  go_wp2_with fail
  refine HC_.out.mono ?_
  rintro e w7 ⟨g', rfl, h7, s7⟩
  dsimp only
  obtain ⟨q7, r7⟩ := s7.mine Q6_.out
  rw [R6_.out] at r7
  have hd7 := HD_.out w7 r7
  clear HC_ Q6_ R6_ H6_ s7
  have Q7_ := hid q7
  clear q7
  have H7_ := hid h7
  clear h7
  have HD7_ := hid hd7
  clear hd7
  go_wp2
  refine (show _ ∧ _ from ⟨HD7_.out, ?_⟩)
  refine wpQuiet_nil ?_
  go_wp2
  refine (show _ ∧ _ from ⟨HD7_.out, ?_⟩)
  refine wpQuiet_nil ?_
  go_wp2
  refine (show _ ∧ _ from ⟨HD7_.out, ?_⟩)
  have hc := keep_g H7_.out p1 7 x123
  rw [al_5] at hc
  have HC_ := hid hc
  clear hc
  have R7_ := hid r7
  clear r7
  have r7 := R7_.out
  go_wp2_with fail
  refine HC_.out.mono ?_
  rintro e w8 ⟨rfl, h8, s8⟩
  dsimp only
  obtain ⟨q8, r8⟩ := s8.mine Q7_.out
  rw [R7_.out] at r8
  have hc := take_g h8 p1 7
  rw [al_6] at hc
  clear HC_ Q7_ R7_ H7_ s8 r7 HD6_ HD7_ HD_ R4_
  have HC_ := hid hc
  clear hc
  have Q8_ := hid q8
  clear q8
  have H8_ := hid h8
  clear h8
  go_wp2_with fail
  refine HC_.out.mono ?_
  rintro e w9 ⟨rfl, h9, s9⟩
  dsimp only
  clear HC_ r8 Q8_ H8_ s9
  have H9_ := hid h9
  clear h9
  go_upto_region 9 with (fail)
  obtain ⟨w10, hE, r10, o10, b10, l10⟩ := newb w9 (xc zeroX) (xc x123) 36 (by simp)
  rw [hE]
  clear hE
  have h10 := H9_.out.below b10
  clear b10 H9_ o10 l10
  generalize w9.heap.size = n9 at *
  have hc := len_g h10
  have HC_ := hid hc
  clear hc
  have H10_ := hid h10
  clear h10
  go_wp2_with fail
  refine HC_.out.mono ?_
  rintro e w11 ⟨rfl, rfl⟩
  dsimp only
  go_wp2
  go_ret
  exact ⟨rfl, H10_.out.bel⟩
end Go.Proofs.Ytoblgdjjpbnemaa
