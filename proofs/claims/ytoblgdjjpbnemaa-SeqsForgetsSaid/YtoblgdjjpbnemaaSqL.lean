/-
  The law SeqsForgets: it answers true. No condition.
-/
import Derived.Test.YtoblgdjjpbnemaaSqJ
namespace Go.Proofs.Ytoblgdjjpbnemaa
open Go.RowKit

set_option maxRecDepth 100000 in
set_option maxHeartbeats 8000000 in
theorem forgets_fn (xs : List OpQ) (hm : xs.length ≤ 9223372036854775807) (a : Option Addr) (cap : Nat) (p : Prt) (q : Int) (w : World) (hX : RowsIn oq zeroOQ 15 w a xs) :
    Calls Try.prog 8 #[.slice a xs.length cap, .agg (pa p), .int .i64 q] w fun e w' => e = .returned (.bool true) ∧ Below w.heap.size w w' := by
  have hA : ∀ V, Below w.heap.size w V → RowsIn oq zeroOQ 15 V a xs := fun V hb => hX.below (by decide) hb
  clear hX
  have HA_ := hid hA
  clear hA
  go_enter Try.func8, Try.ntmps8
  go_upto_region 1 with (fail)
  obtain ⟨W1, hW1⟩ : ∃ W1, w.alloc (.cells (pa p) 35) = W1 := ⟨_, rfl⟩
  have b1 : Below w.heap.size w W1 := by rw [← hW1]; exact (Below.refl _ _).alloc (Nat.le_refl _) _
  have r1 : row? W1 w.heap.size = pa p := by rw [← hW1]; simp [row_alloc, rowOf]
  have o1 : own? W1 w.heap.size = true := by rw [← hW1]; simp [own_alloc, ownOf]
  rw [hW1]
  clear hW1
  have B1_ := hid b1
  clear b1
  have R1_ := hid r1
  clear r1
  have O1_ := hid o1
  clear o1
  go_wp2_with fail
  refine (new_g W1).mono ?_
  rintro e w2 ⟨b, m, rfl, h2'⟩
  dsimp only
  have h2 : BkX w w2 b m zeroPB w.heap.size (pa p) := .new h2' B1_.out R1_.out O1_.out
  clear h2' B1_ R1_ O1_
  generalize w.heap.size = n4 at h2 ⊢
  clear W1
  have H2_ := hid h2
  clear h2
  by_cases hbad : (200 : Int) < (xs.length : Int) ∨ q < 0 ∨ 65535 < q
  · have hal := H2_.out.alive
    have HAL_ := hid hal
    clear hal
    have hbad' : ((200 : Int) < (xs.length : Int)) ∨ (¬ (200 : Int) < (xs.length : Int) ∧ q < 0) ∨ (¬ (200 : Int) < (xs.length : Int) ∧ ¬ q < 0 ∧ 65535 < q) := by omega
    clear hbad
    rcases hbad' with y | ⟨n0, y⟩ | ⟨n0, n1, y⟩ <;> (
      go_wp2_with fail
      refine HAL_.out.mono ?_
      rintro e w3 ⟨rfl, h3⟩
      dsimp only
      clear HAL_
      have H3_ := hid h3
      clear h3
      go_wp2
      go_ret
      exact ⟨rfl, H3_.out.g.bel⟩)
  have n0 : ¬ (200 : Int) < (xs.length : Int) := by omega
  have n1 : ¬ q < 0 := by omega
  have n2 : ¬ 65535 < q := by omega
  have hlen : xs.length ≤ 200 := by omega
  clear hbad hm
  go_wp2
  go_loopw [35] (fun i wr => ∃ (j : Nat) (pb : PB), j ≤ xs.length ∧ i = .int .i64 j ∧ BkX w wr b m pb n4 (pa p)) (fun i _ => xs.length - (intOf i).toNat)
  case atStart => exact ⟨0, zeroPB, by omega, rfl, H2_.out⟩
  case round =>
    clear H2_
    obtain ⟨j, pb, hj, rfl, hG⟩ := hrel
    by_cases hjt : j < xs.length
    · have hr := HA_.out wr hG.g.bel
      obtain ⟨g, off, rfl, hrow⟩ := hr.at (by intro e; rw [e] at hjt; simp at hjt)
      obtain ⟨s1, s2⟩ := hrow j hjt
      have hjt' : (j : Int) < (xs.length : Int) := by omega
      generalize xs.getD j zeroOQ = o at *
      clear hrow hr
      have HG_ := hid hG
      clear hG
      go_upto_region 7 with (fail)
      obtain ⟨w3, hE, r3, o3, b3, _⟩ := newb wr (oq zeroOQ) (oq o) 38 (by simp)
      rw [oq_lit, hE]
      clear hE s1 s2
      have hc := (HG_.out.below b3).does o
      clear b3 HG_
      have HC_ := hid hc
      clear hc
      go_wp2_with fail
      refine HC_.out.mono ?_
      rintro e w4 ⟨g', rfl, h4, _⟩
      dsimp only
      clear HC_
      generalize (doB pb o g').1 = pb' at h4
      have H4_ := hid h4
      clear h4
      go_wp2
      exact ⟨⟨j + 1, pb', by omega, by go_num, H4_.out⟩, by simp [intOf]; omega⟩
    · obtain rfl : j = xs.length := by omega
      clear hjt hj hlen HA_
      have hrow := hG.row
      have hc := hG.forget p
      have hl16 := hG.g.ok.len
      have HC_ := hid hc
      clear hc
      have HG_ := hid hG
      clear hG
      go_wp2_with fail
      refine HC_.out.mono ?_
      rintro e w3 ⟨rfl, h3⟩
      dsimp only
      clear HC_ HG_ hrow
      have hrow := h3.row
      cases hf : (forgetB pb p).2 with
      | false =>
        obtain ⟨hg, e1⟩ := forget_false hf
        rw [e1] at h3
        have e2 := keep_gone (n := q) (x := zeroX) hg
        have hal := h3.alive
        clear hg e1 hf h3
        have HAL_ := hid hal
        clear hal
        have E2_ := hid e2
        clear e2
        go_wp2_with fail
        refine HAL_.out.mono ?_
        rintro e w4 ⟨rfl, h4⟩
        dsimp only
        clear HAL_ hrow
        have hrow := h4.row
        have hc := h4.keep p q zeroX
        rw [E2_.out] at hc
        clear h4
        have HC_ := hid hc
        clear hc
        go_wp2_with fail
        refine HC_.out.mono ?_
        rintro e w5 ⟨rfl, h5⟩
        dsimp only
        clear HC_ hrow
        have H5_ := hid h5
        clear h5
        go_wp2
        go_ret
        exact ⟨rfl, H5_.out.g.bel⟩
      | true =>
        obtain ⟨e0, he0⟩ : ∃ e0, getE pb.l p = some e0 := Option.isSome_iff_exists.1 hf
        have hlen1 : (forgetB pb p).1.l.length < 16 := Nat.lt_of_lt_of_le (drop_len he0) hl16
        have hg1 : getE (forgetB pb p).1.l p = none := getE_drop_self pb.l p
        have hq : rightB q = true := decide_eq_true (by omega)
        have e1 := take_gone (n := q) hg1
        have hf1 : (forgetB (forgetB pb p).1 p).2 = false := by
          show (getE (forgetB pb p).1.l p).isSome = false
          rw [hg1]
          rfl
        have e2 := (forget_false hf1).2
        have e3 := fresh_new (k := 11) rfl hq hg1 hlen1
        have e4 : ∀ g g', freshB (putB (forgetB pb p).1.nx ((forgetB pb p).1.l ++ [⟨p, zeroS, g⟩]) p zeroS (11 : Int).toNat q) p 11 q g' = (putB (forgetB pb p).1.nx ((forgetB pb p).1.l ++ [⟨p, zeroS, g⟩]) p zeroS (11 : Int).toNat q, false) := fun g g' => by
          obtain ⟨hk, hq', e5, h6, h7⟩ := fresh_true (pb := (forgetB pb p).1) (p := p) (k := 11) (q := q) (g := g) (by rw [e3 g])
          rw [e3 g] at h6
          exact fresh_again hk hq' h6 h7 g'
        generalize (forgetB pb p).1 = pb1 at *
        clear hf he0 hl16 hlen1 hg1 hq
        have hc := h3.take p q
        rw [e1] at hc
        clear h3 e1
        have HC_ := hid hc
        clear hc
        have HF1_ := hid hf1
        clear hf1
        have E2_ := hid e2
        clear e2
        have E3_ := hid e3
        clear e3
        have E4_ := hid e4
        clear e4
        go_wp2_with fail
        refine HC_.out.mono ?_
        rintro e w4 ⟨rfl, h4⟩
        dsimp only
        clear HC_ hrow
        have H4_ := hid h4
        clear h4
        go_upto_region 12 with (fail)
        obtain ⟨w5, hE, _, _, b5, _⟩ := newb w4 (xc zeroX) (xc zeroX) 36 (by simp)
        rw [hE]
        clear hE
        have hal := (H4_.out.below b5).alive
        clear b5 H4_
        generalize w4.heap.size = n10 at *
        clear w4
        have HAL_ := hid hal
        clear hal
        go_wp2_with fail
        refine HAL_.out.mono ?_
        rintro e w6 ⟨rfl, h6⟩
        dsimp only
        clear HAL_
        have hrow := h6.row
        have hc := h6.forget p
        rw [HF1_.out, E2_.out] at hc
        clear h6
        have HC_ := hid hc
        clear hc
        go_wp2_with fail
        refine HC_.out.mono ?_
        rintro e w7 ⟨rfl, h7⟩
        dsimp only
        clear HC_ hrow
        have hrow := h7.row
        have hc := h7.fresh p 11 q
        simp only [E3_.out] at hc
        clear h7
        have HC_ := hid hc
        clear hc
        go_wp2_with fail
        refine HC_.out.mono ?_
        rintro e w8 ⟨g, rfl, h8⟩
        dsimp only
        clear HC_ hrow
        have hrow := h8.row
        have hc := h8.fresh' (E4_.out g)
        clear h8
        have HC_ := hid hc
        clear hc
        go_wp2_with fail
        refine HC_.out.mono ?_
        rintro e w9 ⟨rfl, h9⟩
        dsimp only
        clear HC_ hrow
        have H9_ := hid h9
        clear h9
        go_wp2
        go_ret
        exact ⟨rfl, H9_.out.g.bel⟩
end Go.Proofs.Ytoblgdjjpbnemaa
