/-
  The law SeqsHalves: it answers true. No condition.
-/
import Derived.Test.YtoblgdjjpbnemaaSqJ
namespace Go.Proofs.Ytoblgdjjpbnemaa
open Go.RowKit

set_option maxRecDepth 100000 in
set_option maxHeartbeats 8000000 in
theorem halves_fn (xs : List OpQ) (hm : xs.length ≤ 9223372036854775807) (a : Option Addr) (cap : Nat) (o : OpQ) (n : Int) (w : World) (hX : RowsIn oq zeroOQ 15 w a xs) :
    Calls Try.prog 5 #[.slice a xs.length cap, .agg (oq o), .int .i64 n] w fun e w' => e = .returned (.bool true) ∧ Below w.heap.size w w' := by
  have hA : ∀ V, Below w.heap.size w V → RowsIn oq zeroOQ 15 V a xs := fun V hb => hX.below (by decide) hb
  clear hX
  have HA_ := hid hA
  clear hA
  go_enter Try.func5, Try.ntmps5
  go_upto_region 1 with (fail)
  obtain ⟨W1, hW1⟩ : ∃ W1, w.alloc (.cells (oq o) 38) = W1 := ⟨_, rfl⟩
  have b1 : Below w.heap.size w W1 := by rw [← hW1]; exact (Below.refl _ _).alloc (Nat.le_refl _) _
  have r1 : row? W1 w.heap.size = oq o := by rw [← hW1]; simp [row_alloc, rowOf]
  have o1 : own? W1 w.heap.size = true := by rw [← hW1]; simp [own_alloc, ownOf]
  rw [hW1]
  clear hW1
  have B1_ := hid b1
  clear b1
  have R1_ := hid r1
  clear r1
  have O1_ := hid o1
  clear o1
  go_wp2_with fail
  refine (new_g W1).mono ?_
  rintro e w2 ⟨b, m, rfl, h2'⟩
  dsimp only
  have h2 : BkX w w2 b m zeroPB w.heap.size (oq o) := .new h2' B1_.out R1_.out O1_.out
  clear h2' B1_ R1_ O1_
  generalize w.heap.size = n4 at h2 ⊢
  clear W1
  have H2_ := hid h2
  clear h2
  by_cases hbad : (400 : Int) < (xs.length : Int)
  · have hal := H2_.out.alive
    have HAL_ := hid hal
    clear hal
    have hbad' : ((400 : Int) < (xs.length : Int)) := by omega
    clear hbad
    rcases hbad' with y <;> (
      go_wp2_with fail
      refine HAL_.out.mono ?_
      rintro e w3 ⟨rfl, h3⟩
      dsimp only
      clear HAL_
      have H3_ := hid h3
      clear h3
      go_wp2
      go_ret
      exact ⟨rfl, H3_.out.g.bel⟩)
  have n0 : ¬ (400 : Int) < (xs.length : Int) := by omega
  have hlen : xs.length ≤ 400 := by omega
  clear hbad hm
  go_wp2
  go_loopw [31] (fun i wr => ∃ (j : Nat) (pb : PB), j ≤ xs.length ∧ i = .int .i64 j ∧ BkX w wr b m pb n4 (oq o)) (fun i _ => xs.length - (intOf i).toNat)
  case atStart => exact ⟨0, zeroPB, by omega, rfl, H2_.out⟩
  case round =>
    clear H2_
    obtain ⟨j, pb, hj, rfl, hG⟩ := hrel
    by_cases hjt : j < xs.length
    · have hr := HA_.out wr hG.g.bel
      obtain ⟨g, off, rfl, hrow⟩ := hr.at (by intro e; rw [e] at hjt; simp at hjt)
      obtain ⟨s1, s2⟩ := hrow j hjt
      have hjt' : (j : Int) < (xs.length : Int) := by omega
      generalize xs.getD j zeroOQ = o' at *
      clear hrow hr
      have HG_ := hid hG
      clear hG
      go_upto_region 7 with (fail)
      obtain ⟨w3, hE, r3, o3, b3, _⟩ := newb wr (oq zeroOQ) (oq o') 38 (by simp)
      rw [oq_lit, hE]
      clear hE s1 s2
      have hc := (HG_.out.below b3).does o'
      clear b3 HG_
      have HC_ := hid hc
      clear hc
      go_wp2_with fail
      refine HC_.out.mono ?_
      rintro e w4 ⟨g', rfl, h4, _⟩
      dsimp only
      clear HC_
      generalize (doB pb o' g').1 = pb' at h4
      have H4_ := hid h4
      clear h4
      go_wp2
      exact ⟨⟨j + 1, pb', by omega, by go_num, H4_.out⟩, by simp [intOf]; omega⟩
    · obtain rfl : j = xs.length := by omega
      clear hjt hj hlen HA_
      have hrow := hG.row
      have hc := hG.keep o.p o.q o.x
      have HC_ := hid hc
      clear hc
      have HG_ := hid hG
      clear hG
      go_wp2_with fail
      refine HC_.out.mono ?_
      rintro e w3 ⟨rfl, h3⟩
      dsimp only
      clear HC_ HG_ hrow
      cases hf : (keepB pb o.p o.q o.x).2 with
      | false =>
        have hal := h3.alive
        clear h3
        have HAL_ := hid hal
        clear hal
        go_wp2_with fail
        refine HAL_.out.mono ?_
        rintro e w4 ⟨rfl, h4⟩
        dsimp only
        clear HAL_
        have H4_ := hid h4
        clear h4
        go_wp2
        go_ret
        exact ⟨rfl, H4_.out.g.bel⟩
      | true =>
        obtain ⟨e1, hg1, hh1⟩ := keep_true hf
        have e2 := take_it hg1 hh1
        have e3 := take_none (pb := ⟨(keepB pb o.p o.q o.x).1.nx, setE (keepB pb o.p o.q o.x).1.l o.p ⟨e1.s.last, zeroH⟩⟩) (n := o.q) (e := ⟨o.p, ⟨e1.s.last, zeroH⟩, e1.g⟩) (getE_set_self (s := ⟨e1.s.last, zeroH⟩) hg1) rfl
        have eo := fun h => take_other (n := n) hg1 hh1 h
        generalize (keepB pb o.p o.q o.x).1 = pb1 at *
        obtain ⟨pb2, hp2⟩ : ∃ pb2 : PB, ⟨pb1.nx, setE pb1.l o.p ⟨e1.s.last, zeroH⟩⟩ = pb2 := ⟨_, rfl⟩
        rw [hp2] at e2 e3
        clear hp2 hg1 hh1 hf
        have hrow := h3.row
        have E2_ := hid e2
        clear e2
        have E3_ := hid e3
        clear e3
        by_cases hno : n = o.q
        · have hn' : (n != o.q) = false := by simpa using hno
          clear eo hno
          have hc := take_g h3.g o.p o.q
          rw [E2_.out] at hc
          have HC_ := hid hc
          clear hc
          have H3_ := hid h3
          clear h3
          go_wp2_with fail
          refine HC_.out.mono ?_
          rintro e w4 ⟨rfl, g4, s4⟩
          dsimp only
          have h4 := H3_.out.step g4 s4
          clear HC_ H3_ hrow s4 g4
          have hrow := h4.row
          have H4_ := hid h4
          clear h4
          go_upto_region 16 with (fail)
          obtain ⟨w5, hE, r5, o5, b5, _⟩ := newb w4 (xc zeroX) (xc o.x) 36 (by simp)
          rw [hE]
          clear hE hrow
          have h5 := H4_.out.below b5
          have y5 : BkX w w5 b m pb2 w4.heap.size (xc o.x) := ⟨h5.g, H4_.out.g.bk.fresh (Nat.le_refl _) o5, r5⟩
          clear b5 o5 r5 H4_
          generalize w4.heap.size = n12 at *
          clear w4
          have hrow := h5.row
          have hc := take_g h5.g o.p o.q
          rw [E3_.out] at hc
          have HC_ := hid hc
          clear hc
          have H5_ := hid h5
          clear h5
          have Y5_ := hid y5
          clear y5
          go_wp2_with fail
          refine HC_.out.mono ?_
          rintro e w6 ⟨rfl, g6, s6⟩
          dsimp only
          have h6 := H5_.out.step g6 s6
          have y6 := Y5_.out.step g6 s6
          clear HC_ H5_ Y5_ hrow s6 g6
          have H6_ := hid h6
          clear h6
          have Y6_ := hid y6
          clear y6
          go_upto_region 17 with (fail)
          obtain ⟨w7, hE, _, _, b7, _⟩ := newb w6 (xc zeroX) (xc zeroX) 36 (by simp)
          rw [hE]
          clear hE
          have h7 := H6_.out.below b7
          have y7 := Y6_.out.below b7
          clear b7 H6_ Y6_
          generalize w6.heap.size = n14 at *
          clear w6
          have hc := alive_c w7
          have HC_ := hid hc
          clear hc
          have H7_ := hid h7
          clear h7
          have Y7_ := hid y7
          clear y7
          go_wp2_with fail
          refine HC_.out.mono ?_
          rintro e w8 ⟨rfl, b8⟩
          dsimp only
          have h8 := H7_.out.below b8
          have hrow := h8.row
          have yrow := (Y7_.out.below b8).row
          clear HC_ H7_ Y7_ b8
          have H8_ := hid h8
          clear h8
          go_wp2
          go_ret
          exact ⟨rfl, H8_.out.g.bel⟩
        · have hn' : (n != o.q) = true := by simpa using hno
          have eo := eo hno
          have hc := take_g h3.g o.p n
          rw [eo] at hc
          clear hno eo
          have HC_ := hid hc
          clear hc
          have H3_ := hid h3
          clear h3
          go_wp2_with fail
          refine HC_.out.mono ?_
          rintro e w3a ⟨rfl, g3a, s3a⟩
          dsimp only
          have h3a := H3_.out.step g3a s3a
          clear HC_ H3_ hrow s3a g3a
          have H3A_ := hid h3a
          clear h3a
          go_upto_region 13 with (fail)
          obtain ⟨w3b, hE, _, _, b3b, _⟩ := newb w3a (xc zeroX) (xc zeroX) 36 (by simp)
          rw [hE]
          clear hE hn'
          have h3 := H3A_.out.below b3b
          clear b3b H3A_
          generalize w3a.heap.size = n10 at *
          clear w3a
          have hrow := h3.row
          have hc := take_g h3.g o.p o.q
          rw [E2_.out] at hc
          have HC_ := hid hc
          clear hc
          have H3_ := hid h3
          clear h3
          go_wp2_with fail
          refine HC_.out.mono ?_
          rintro e w4 ⟨rfl, g4, s4⟩
          dsimp only
          have h4 := H3_.out.step g4 s4
          clear HC_ H3_ hrow s4 g4
          have hrow := h4.row
          have H4_ := hid h4
          clear h4
          go_upto_region 16 with (fail)
          obtain ⟨w5, hE, r5, o5, b5, _⟩ := newb w4 (xc zeroX) (xc o.x) 36 (by simp)
          rw [hE]
          clear hE hrow
          have h5 := H4_.out.below b5
          have y5 : BkX w w5 b m pb2 w4.heap.size (xc o.x) := ⟨h5.g, H4_.out.g.bk.fresh (Nat.le_refl _) o5, r5⟩
          clear b5 o5 r5 H4_
          generalize w4.heap.size = n12 at *
          clear w4
          have hrow := h5.row
          have hc := take_g h5.g o.p o.q
          rw [E3_.out] at hc
          have HC_ := hid hc
          clear hc
          have H5_ := hid h5
          clear h5
          have Y5_ := hid y5
          clear y5
          go_wp2_with fail
          refine HC_.out.mono ?_
          rintro e w6 ⟨rfl, g6, s6⟩
          dsimp only
          have h6 := H5_.out.step g6 s6
          have y6 := Y5_.out.step g6 s6
          clear HC_ H5_ Y5_ hrow s6 g6
          have H6_ := hid h6
          clear h6
          have Y6_ := hid y6
          clear y6
          go_upto_region 17 with (fail)
          obtain ⟨w7, hE, _, _, b7, _⟩ := newb w6 (xc zeroX) (xc zeroX) 36 (by simp)
          rw [hE]
          clear hE
          have h7 := H6_.out.below b7
          have y7 := Y6_.out.below b7
          clear b7 H6_ Y6_
          generalize w6.heap.size = n14 at *
          clear w6
          have hc := alive_c w7
          have HC_ := hid hc
          clear hc
          have H7_ := hid h7
          clear h7
          have Y7_ := hid y7
          clear y7
          go_wp2_with fail
          refine HC_.out.mono ?_
          rintro e w8 ⟨rfl, b8⟩
          dsimp only
          have h8 := H7_.out.below b8
          have hrow := h8.row
          have yrow := (Y7_.out.below b8).row
          clear HC_ H7_ Y7_ b8
          have H8_ := hid h8
          clear h8
          go_wp2
          go_ret
          exact ⟨rfl, H8_.out.g.bel⟩
end Go.Proofs.Ytoblgdjjpbnemaa
