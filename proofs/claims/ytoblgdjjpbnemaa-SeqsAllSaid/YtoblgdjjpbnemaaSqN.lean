/-
  The law SeqsApart: it answers true. No condition.
-/
import Derived.Test.YtoblgdjjpbnemaaSqM
namespace Go.Proofs.Ytoblgdjjpbnemaa
open Go.RowKit

/-- Two books made behind w, apart, and a box beside them. -/
structure Bk2 (w wr : World) (b1 m1 : Nat) (pb1 : PB) (b2 m2 : Nat) (pb2 : PB) (n : Nat) (A : Array Value) : Prop where
  g1 : BkG w wr b1 m1 pb1
  g2 : BkG w wr b2 m2 pb2
  ap : ∀ g, InB b1 m1 pb1.l g → ¬ InB b2 m2 pb2.l g
  own : own? wr n = true
  row : row? wr n = A
  n1 : ¬ InB b1 m1 pb1.l n
  n2 : ¬ InB b2 m2 pb2.l n
section
variable {w wr w' : World} {b1 m1 b2 m2 n : Nat} {pb1 pb1' pb2 pb2' : PB} {A : Array Value}
theorem Bk2.turn (h : Bk2 w wr b1 m1 pb1 b2 m2 pb2 n A) : Bk2 w wr b2 m2 pb2 b1 m1 pb1 n A := ⟨h.g2, h.g1, fun g h1 h2 => h.ap g h2 h1, h.own, h.row, h.n2, h.n1⟩
theorem Bk2.step (h : Bk2 w wr b1 m1 pb1 b2 m2 pb2 n A) (hb : BkG w w' b1 m1 pb1') (hs : Stq b1 m1 pb1.l wr pb1'.l w') : Bk2 w w' b1 m1 pb1' b2 m2 pb2 n A := by
  obtain ⟨h1, h2⟩ := hs.mine ⟨h.own, h.n1⟩
  have hk := h.g2.bk.kept hs.chg (fun g hg e => h.ap g e hg)
  exact ⟨hb, ⟨hk, h.g2.ok, hb.bel, h.g2.lo⟩, fun g hg e => by
    rcases hs.inb hg with h3 | h3
    · have := h.g2.bk.lt e
      omega
    · exact h.ap g h3 e, h1.1, h2.trans h.row, h1.2, h.n2⟩
theorem Bk2.below (h : Bk2 w wr b1 m1 pb1 b2 m2 pb2 n A) (hb : Below wr.heap.size wr w') : Bk2 w w' b1 m1 pb1 b2 m2 pb2 n A := h.step (h.g1.below hb) (.below hb)
theorem Bk2.fresh (h : Bk2 w wr b1 m1 pb1 b2 m2 pb2 n A) (p : Prt) (k q : Int) : Calls Try.prog 14 #[.pointer (some ⟨b1, 0, none⟩), .agg (pa p), .int .i64 k, .int .i64 q] wr fun e w' => ∃ g, e = .returned (.bool (freshB pb1 p k q g).2) ∧ Bk2 w w' b1 m1 (freshB pb1 p k q g).1 b2 m2 pb2 n A :=
  (fresh_g h.g1 p k q).mono fun _ _ ⟨g, he, h1, h2⟩ => ⟨g, he, h.step h1 h2⟩
theorem Bk2.fresh' (h : Bk2 w wr b1 m1 pb1 b2 m2 pb2 n A) {p : Prt} {k q : Int} {r : PB × Bool} (hr : ∀ g, freshB pb1 p k q g = r) : Calls Try.prog 14 #[.pointer (some ⟨b1, 0, none⟩), .agg (pa p), .int .i64 k, .int .i64 q] wr fun e w' => e = .returned (.bool r.2) ∧ Bk2 w w' b1 m1 r.1 b2 m2 pb2 n A :=
  (h.fresh p k q).mono fun _ _ ⟨g, he, h1⟩ => ⟨by rw [he, hr g], by rw [← hr g]; exact h1⟩
theorem Bk2.does (h : Bk2 w wr b1 m1 pb1 b2 m2 pb2 n A) (o : OpQ) : Calls Try.prog 12 #[.pointer (some ⟨b1, 0, none⟩), .agg (oq o)] wr fun e w' => ∃ g, e = .returned (.agg (aq (doB pb1 o g).2.n (doB pb1 o g).2.x (doB pb1 o g).2.is)) ∧ Bk2 w w' b1 m1 (doB pb1 o g).1 b2 m2 pb2 n A :=
  (does_g h.g1 o).mono fun _ _ ⟨g, he, h1, h2⟩ => ⟨g, he, h.step h1 h2⟩
theorem Bk2.alive (h : Bk2 w wr b1 m1 pb1 b2 m2 pb2 n A) : Calls Try.prog 10 #[] wr fun e w' => e = .returned (.bool true) ∧ Bk2 w w' b1 m1 pb1 b2 m2 pb2 n A :=
  (alive_c wr).mono fun _ _ ⟨he, hb⟩ => ⟨he, h.below hb⟩
theorem Bk2.new {W1 : World} (h : BkX w W1 b1 m1 pb1 n A) (h2 : BkG W1 wr b2 m2 pb2) : Bk2 w wr b1 m1 pb1 b2 m2 pb2 n A := by
  have hb := h2.bel
  have h3 := h.below hb
  exact ⟨h3.g, h2.base h.g.bel, fun g hg e => by have := h2.lo g e; have := h.g.bk.lt hg; omega, h3.mine.1, h3.row, h3.mine.2, fun e => by have := h2.lo n e; have := own_lt h.mine.1; omega⟩
end
theorem do_other {pb : PB} {o : OpQ} {p : Prt} (g : Nat) (h : o.p ≠ p) : getE (doB pb o g).1.l p = getE pb.l p := by
  have h' : p ≠ o.p := Ne.symm h
  unfold doB
  split
  · show getE (nextB pb o.ty).1.l p = _
    unfold nextB
    split <;> rfl
  split
  · show getE (freshB pb o.p o.ty o.q g).1.l p = _
    unfold freshB
    split
    · cases hg : getE pb.l o.p with
      | none =>
        dsimp only
        split
        · rfl
        · show getE (setE _ _ _) p = _
          rw [getE_set_other h', getE_add hg, if_neg h']
      | some e =>
        dsimp only
        split
        · rfl
        · exact getE_set_other h'
    · rfl
  split
  · show getE (keepB pb o.p o.q o.x).1.l p = _
    unfold keepB
    cases getE pb.l o.p with
    | none => rfl
    | some e =>
      dsimp only
      split
      · exact getE_set_other h'
      · rfl
  split
  · show getE (takeQ pb o.p o.q).1.l p = _
    unfold takeQ
    cases getE pb.l o.p with
    | none => rfl
    | some e =>
      dsimp only
      split
      · exact getE_set_other h'
      · rfl
  split
  · exact getE_drop_other h'
  · rfl
set_option maxRecDepth 100000 in
set_option maxHeartbeats 8000000 in
theorem apart_fn (xs : List OpQ) (hm : xs.length ≤ 9223372036854775807) (a : Option Addr) (cap : Nat) (p : Prt) (q : Int) (w : World) (hX : RowsIn oq zeroOQ 15 w a xs) :
    Calls Try.prog 7 #[.slice a xs.length cap, .agg (pa p), .int .i64 q] w fun e w' => e = .returned (.bool true) ∧ Below w.heap.size w w' := by
  have hA : ∀ V, Below w.heap.size w V → RowsIn oq zeroOQ 15 V a xs := fun V hb => hX.below (by decide) hb
  clear hX
  have HA_ := hid hA
  clear hA
  go_enter Try.func7, Try.ntmps7
  go_upto_region 1 with (fail)
  obtain ⟨W1, hW1⟩ : ∃ W1, w.alloc (.cells (pa p) 35) = W1 := ⟨_, rfl⟩
  have bb : Below w.heap.size w W1 := by rw [← hW1]; exact (Below.refl _ _).alloc (Nat.le_refl _) _
  have r1 : row? W1 w.heap.size = pa p := by rw [← hW1]; simp [row_alloc, rowOf]
  have o1 : own? W1 w.heap.size = true := by rw [← hW1]; simp [own_alloc, ownOf]
  rw [hW1]
  clear hW1
  have BB_ := hid bb
  clear bb
  have R1_ := hid r1
  clear r1
  have O1_ := hid o1
  clear o1
  go_wp2_with fail
  refine (new_g W1).mono ?_
  rintro e w2 ⟨b1, m1, rfl, h2'⟩
  dsimp only
  have h2 : BkX w w2 b1 m1 zeroPB w.heap.size (pa p) := .new h2' BB_.out R1_.out O1_.out
  clear h2' BB_ R1_ O1_
  generalize w.heap.size = n4 at h2 ⊢
  clear W1
  have H2_ := hid h2
  clear h2
  go_wp2_with fail
  refine (new_g w2).mono ?_
  rintro e w3 ⟨b2, m2, rfl, h3'⟩
  dsimp only
  have h3 := Bk2.new H2_.out h3'
  clear h3' H2_
  clear w2
  have H3_ := hid h3
  clear h3
  by_cases y : (200 : Int) < (xs.length : Int)
  · have hal := H3_.out.alive
    have HAL_ := hid hal
    clear hal
    go_wp2_with fail
    refine HAL_.out.mono ?_
    rintro e w4 ⟨rfl, h4⟩
    dsimp only
    clear HAL_
    have H4_ := hid h4
    clear h4
    go_wp2
    go_ret
    exact ⟨rfl, H4_.out.g1.bel⟩
  have hlen : xs.length ≤ 200 := by omega
  have hrow := H3_.out.row
  have hc := H3_.out.fresh p 0 q
  clear hm
  have HC_ := hid hc
  clear hc
  go_wp2_with fail
  refine HC_.out.mono ?_
  rintro e w4 ⟨g, rfl, h4⟩
  dsimp only
  clear HC_ H3_ hrow
  cases hq : rightB q with
  | false =>
    have e1 : freshB zeroPB p 0 q g = (zeroPB, false) := by unfold freshB; rw [hq, Bool.and_false]; exact if_neg (by simp)
    rw [e1] at h4 ⊢
    have hal := h4.alive
    have hq' := of_decide_eq_false hq
    have hq2 : q < 0 ∨ (¬ q < 0 ∧ 65535 < q) := by omega
    clear h4 e1 hq hq'
    have HAL_ := hid hal
    clear hal
    rcases hq2 with y1 | ⟨y1, y2⟩ <;> (
      go_wp2_with fail
      refine HAL_.out.mono ?_
      rintro e w5 ⟨rfl, h5⟩
      dsimp only
      clear HAL_
      have H5_ := hid h5
      clear h5
      go_wp2
      go_ret
      exact ⟨rfl, H5_.out.g1.bel⟩)
  | true =>
    have hk : kindB 0 = true := rfl
    have e1 := fresh_new (pb := zeroPB) (p := p) hk hq rfl (by decide) g
    have f1 : (freshB zeroPB p 0 q g).2 = true := by rw [e1]
    obtain ⟨_, _, e2, hg1, hl1⟩ := fresh_true f1
    rw [f1]
    generalize (freshB zeroPB p 0 q g).1 = pb1 at *
    clear e1 f1
    have hrow := h4.row
    have hc := h4.turn.fresh p 0 q
    have HC_ := hid hc
    clear hc
    have HG1_ := hid hg1
    clear hg1
    have HL1_ := hid hl1
    clear hl1
    clear h4
    go_wp2_with fail
    refine HC_.out.mono ?_
    rintro e w5 ⟨g', rfl, h5'⟩
    dsimp only
    clear HC_ hrow
    have e1 := fresh_new (pb := zeroPB) (p := p) hk hq rfl (by decide) g'
    have f1 : (freshB zeroPB p 0 q g').2 = true := by rw [e1]
    obtain ⟨_, _, e3, hg2, hl2⟩ := fresh_true f1
    rw [f1]
    generalize (freshB zeroPB p 0 q g').1 = pb2 at *
    clear e1 f1
    have h5 := h5'.turn
    clear h5'
    have H5_ := hid h5
    clear h5
    have HG2_ := hid hg2
    clear hg2
    have HL2_ := hid hl2
    clear hl2
    have HK_ := hid hk
    clear hk
    go_wp2
    go_loopw [56] (fun i wr => ∃ (j : Nat) (pb : PB), j ≤ xs.length ∧ i = .int .i64 j ∧ Bk2 w wr b1 m1 pb b2 m2 pb2 n4 (pa p) ∧ ∃ e, getE pb.l p = some e ∧ e.s.last (0 : Int).toNat = q + 1) (fun i _ => xs.length - (intOf i).toNat)
    case atStart => exact ⟨0, pb1, by omega, rfl, H5_.out, e2, HG1_.out, HL1_.out⟩
    case round =>
      clear H5_ HG1_ HL1_
      obtain ⟨j, pb, hj, rfl, hG, e, he, hle⟩ := hrel
      by_cases hjt : j < xs.length
      · have hr := HA_.out wr hG.g1.bel
        obtain ⟨g, off, rfl, hrow⟩ := hr.at (by intro e; rw [e] at hjt; simp at hjt)
        obtain ⟨s1, s2⟩ := hrow j hjt
        have hjt' : (j : Int) < (xs.length : Int) := by omega
        generalize xs.getD j zeroOQ = o at *
        clear hrow hr
        have HG_ := hid hG
        clear hG
        have HE_ := hid he
        clear he
        have HLE_ := hid hle
        clear hle
        have HQ_ := hid hq
        clear hq
        go_upto_region 9 with (fail)
        obtain ⟨w6, hE, r6, o6, b6, _⟩ := newb wr (oq zeroOQ) (oq o) 38 (by simp)
        rw [oq_lit, hE]
        clear hE s1 s2
        have h6 := HG_.out.below b6
        have hrow := h6.row
        clear b6 HG_ o6
        generalize wr.heap.size = n9 at *
        by_cases ho : o.p = p
        · have hd : decide (o.p = p) = true := decide_eq_true ho
          have H6_ := hid h6
          clear h6
          go_wp2
          exact ⟨⟨j + 1, pb, by omega, by go_num, H6_.out, e, HE_.out, HLE_.out⟩, by simp [intOf]; omega⟩
        · have hd : decide (o.p = p) = false := decide_eq_false ho
          have hc := h6.does o
          have hot := fun g => do_other (pb := pb) g ho
          clear ho
          have HC_ := hid hc
          clear hc
          have H6_ := hid h6
          clear h6
          have HOT_ := hid hot
          clear hot
          go_wp2_with fail
          refine HC_.out.mono ?_
          rintro e' w7 ⟨g', rfl, h7⟩
          dsimp only
          have he' := (HOT_.out g').trans HE_.out
          clear HC_ H6_ HOT_
          generalize (doB pb o g').1 = pb' at *
          have H7_ := hid h7
          clear h7
          have HE'_ := hid he'
          clear he'
          go_wp2
          exact ⟨⟨j + 1, pb', by omega, by go_num, H7_.out, e, HE'_.out, HLE_.out⟩, by simp [intOf]; omega⟩
      · obtain rfl : j = xs.length := by omega
        clear hjt hj hlen HA_
        have e1' := fresh_again HK_.out hq he hle
        have e2' := fresh_again HK_.out hq HG2_.out HL2_.out
        have hq' := of_decide_eq_true hq
        have hw : wrap64 (q + 9) = q + 9 := by unfold wrap64; omega
        have hmod : (q + 9).tmod 65536 = (q + 9) % 65536 := tmod_mod _ (by omega)
        have hr : rightB ((q + 9) % 65536) = true := decide_eq_true (by omega)
        have hb : behB ((q + 9) % 65536) q = true := decide_eq_true (by omega)
        have e3' := fresh_behind HK_.out hr he hle hb
        have e4' := fresh_behind HK_.out hr HG2_.out HL2_.out hb
        generalize (q + 9) % 65536 = r at *
        clear he hle hr hb hq hq' HG2_ HL2_ HK_
        generalize putB pb.nx pb.l p e.s (0 : Int).toNat r = pbx at *
        generalize putB pb2.nx pb2.l p e3.s (0 : Int).toNat r = pby at *
        have hrow := hG.row
        have hd : ∀ w', row? w' n4 = pa p → ∃ d, w' = grK (fun w' => row? w' n4 = pa p) wr d := fun w' h => ⟨w', grK_of h⟩
        have kr := grK_is (K := fun w' => row? w' n4 = pa p) hrow
        have bd : Below wr.heap.size wr wr.drew := (Below.refl _ _).drew
        have h0 := hG.below bd
        have E1'_ := hid e1'
        clear e1'
        have E2'_ := hid e2'
        clear e2'
        have E3'_ := hid e3'
        clear e3'
        have E4'_ := hid e4'
        clear e4'
        have HD_ := hid hd
        clear hd
        have H0_ := hid h0
        clear h0
        clear hG bd
        go_upto_region 12 with (fail)
        refine wp_region_seg (grK (fun w' => row? w' n4 = pa p) wr) [([], 0), ([], 1), ([2, 3, 4, 6, 7, 8], 5), ([], 9), ([], 10), ([], 11), ([], 12), ([13, 14, 15, 16, 17], 18), ([], 19), ([], 20), ([21, 22, 23, 24, 25], 26), ([], 27), ([], 28)] (by kernel_rfl) (by kernel_rfl) (fun c a b w hd h => And.intro (hd.symm.trans (And.left h)) (And.right h)) (HD_.out _ hrow) ?_
        simp only [wpSeg, selL, List.filterMap_cons, List.filterMap_nil, List.getElem?_cons_zero, List.getElem?_cons_succ]
        generalize wr.drew = w6 at *
        have h0 := H0_.out
        clear H0_ hrow
        refine wpQuiet_nil ?_
        have hal := h0.alive
        clear h0
        have HAL_ := hid hal
        clear hal
        go_wp2_with fail
        refine HAL_.out.mono ?_
        rintro e' w7 ⟨rfl, h7⟩
        dsimp only
        clear HAL_
        have hdd := HD_.out _ h7.row
        have H7_ := hid h7
        clear h7
        have HDD_ := hid hdd
        clear hdd
        go_wp2
        refine (show _ ∧ _ from ⟨HDD_.out, ?_⟩)
        refine wpQuiet_nil ?_
        go_wp2
        refine (show _ ∧ _ from ⟨HDD_.out, ?_⟩)
        refine (show wpQuiet _ _ _ _ [_, _, _, _, _, _] _ from ?_)
        repeat (go_big_quiet_step (fail))
        refine wpQuiet_nil ?_
        have hc := H7_.out.fresh' E1'_.out
        clear H7_ HDD_
        have HC_ := hid hc
        clear hc
        go_wp2_with fail
        refine HC_.out.mono ?_
        rintro e' w8 ⟨rfl, h8t⟩
        dsimp only
        have h8 := h8t
        clear h8t HC_
        have hdd := HD_.out _ h8.row
        have H8_ := hid h8
        clear h8
        have HDD_ := hid hdd
        clear hdd
        go_wp2
        refine (show _ ∧ _ from ⟨HDD_.out, ?_⟩)
        refine wpQuiet_nil ?_
        have hc := H8_.out.turn.fresh' E2'_.out
        clear H8_ HDD_
        have HC_ := hid hc
        clear hc
        go_wp2_with fail
        refine HC_.out.mono ?_
        rintro e' w9 ⟨rfl, h9t⟩
        dsimp only
        have h9 := h9t.turn
        clear h9t HC_
        have hdd := HD_.out _ h9.row
        have H9_ := hid h9
        clear h9
        have HDD_ := hid hdd
        clear hdd
        go_wp2
        refine (show _ ∧ _ from ⟨HDD_.out, ?_⟩)
        refine wpQuiet_nil ?_
        go_wp2
        refine (show _ ∧ _ from ⟨HDD_.out, ?_⟩)
        refine wpQuiet_nil ?_
        go_wp2
        refine (show _ ∧ _ from ⟨HDD_.out, ?_⟩)
        refine wpQuiet_nil ?_
        go_wp2
        refine (show _ ∧ _ from ⟨HDD_.out, ?_⟩)
        refine (show wpQuiet _ _ _ _ [_, _, _, _, _] _ from ?_)
        repeat (go_big_quiet_step (fail))
        refine wpQuiet_nil ?_
        have hc := H9_.out.fresh' E3'_.out
        clear H9_ HDD_
        have HC_ := hid hc
        clear hc
        go_wp2_with fail
        refine HC_.out.mono ?_
        rintro e' w10 ⟨rfl, h10t⟩
        dsimp only
        have h10 := h10t
        clear h10t HC_
        have hdd := HD_.out _ h10.row
        have H10_ := hid h10
        clear h10
        have HDD_ := hid hdd
        clear hdd
        go_wp2
        refine (show _ ∧ _ from ⟨HDD_.out, ?_⟩)
        refine wpQuiet_nil ?_
        go_wp2
        refine (show _ ∧ _ from ⟨HDD_.out, ?_⟩)
        refine wpQuiet_nil ?_
        go_wp2
        refine (show _ ∧ _ from ⟨HDD_.out, ?_⟩)
        refine (show wpQuiet _ _ _ _ [_, _, _, _, _] _ from ?_)
        repeat (go_big_quiet_step (fail))
        refine wpQuiet_nil ?_
        have hc := H10_.out.turn.fresh' E4'_.out
        clear H10_ HDD_
        have HC_ := hid hc
        clear hc
        go_wp2_with fail
        refine HC_.out.mono ?_
        rintro e' w11 ⟨rfl, h11t⟩
        dsimp only
        have h11 := h11t.turn
        clear h11t HC_
        have hdd := HD_.out _ h11.row
        have H11_ := hid h11
        clear h11
        have HDD_ := hid hdd
        clear hdd
        go_wp2
        refine (show _ ∧ _ from ⟨HDD_.out, ?_⟩)
        refine wpQuiet_nil ?_
        go_wp2
        refine (show _ ∧ _ from ⟨HDD_.out, ?_⟩)
        refine wpQuiet_nil ?_
        go_wp2
        refine (show _ ∧ _ from ⟨HDD_.out, ?_⟩)
        go_wp2
        go_ret
        exact ⟨rfl, H11_.out.g1.bel⟩
end Go.Proofs.Ytoblgdjjpbnemaa
