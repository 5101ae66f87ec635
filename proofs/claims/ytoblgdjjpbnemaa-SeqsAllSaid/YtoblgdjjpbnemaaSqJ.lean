/-
  The law SeqsTwice: it answers true. No condition.
-/
import Derived.Test.YtoblgdjjpbnemaaSqH
import Derived.Test.YtoblgdjjpbnemaaSqI
import Derived.Test.YtoblgdjjpbnemaaRdQ
namespace Go.Proofs.Ytoblgdjjpbnemaa
open Go.RowKit

theorem oq_lit : (#[.int .i64 0, .int .i64 0, .int .i64 0, .int .u8 0, .int .u8 0, .int .u8 0, .int .u8 0, .int .u8 0, .int .u8 0, .int .u8 0, .int .u8 0, .int .i64 0, .int .i64 0, .int .i64 0, .int .i64 0] : Array Value) = oq zeroOQ := rfl
/-- A book made behind w, and a box beside it. -/
structure BkX (w wr : World) (b m : Nat) (pb : PB) (n : Nat) (A : Array Value) : Prop where
  g : BkG w wr b m pb
  mine : MineQ wr b m pb.l n
  row : row? wr n = A
section
variable {w wr w' W1 : World} {b m n : Nat} {pb pb' : PB} {A : Array Value}
theorem BkX.step (h : BkX w wr b m pb n A) (hb : BkG w w' b m pb') (hs : Stq b m pb.l wr pb'.l w') : BkX w w' b m pb' n A := by
  obtain ⟨h1, h2⟩ := hs.mine h.mine
  exact ⟨hb, h1, h2.trans h.row⟩
theorem BkX.below (h : BkX w wr b m pb n A) (hb : Below wr.heap.size wr w') : BkX w w' b m pb n A := h.step (h.g.below hb) (.below hb)
theorem BkG.base (h : BkG W1 wr b m pb) (hb : Below w.heap.size w W1) : BkG w wr b m pb := ⟨h.bk, h.ok, hb.trans (h.bel.mono hb.size), fun g hg => Nat.le_trans hb.size (h.lo g hg)⟩
theorem BkX.new (h : BkG W1 wr b m pb) (hb : Below w.heap.size w W1) (hn : row? W1 n = A) (ho : own? W1 n = true) : BkX w wr b m pb n A :=
  ⟨h.base hb, ⟨(own_of_block (h.bel.block n (own_lt ho))).trans ho, fun e => by have := h.lo n e; have := own_lt ho; omega⟩, (row_of_block (h.bel.block n (own_lt ho))).trans hn⟩
theorem BkX.does (h : BkX w wr b m pb n A) (o : OpQ) : Calls Try.prog 12 #[.pointer (some ⟨b, 0, none⟩), .agg (oq o)] wr fun e w' => ∃ g, e = .returned (.agg (aq (doB pb o g).2.n (doB pb o g).2.x (doB pb o g).2.is)) ∧ BkX w w' b m (doB pb o g).1 n A ∧ Stq b m pb.l wr (doB pb o g).1.l w' :=
  (does_g h.g o).mono fun _ _ ⟨g, he, h1, h2⟩ => ⟨g, he, h.step h1 h2, h2⟩
theorem BkX.alive (h : BkX w wr b m pb n A) : Calls Try.prog 10 #[] wr fun e w' => e = .returned (.bool true) ∧ BkX w w' b m pb n A :=
  (alive_c wr).mono fun _ _ ⟨he, hb⟩ => ⟨he, h.below hb⟩
theorem BkX.fresh (h : BkX w wr b m pb n A) (p : Prt) (k q : Int) : Calls Try.prog 14 #[.pointer (some ⟨b, 0, none⟩), .agg (pa p), .int .i64 k, .int .i64 q] wr fun e w' => ∃ g, e = .returned (.bool (freshB pb p k q g).2) ∧ BkX w w' b m (freshB pb p k q g).1 n A :=
  (fresh_g h.g p k q).mono fun _ _ ⟨g, he, h1, h2⟩ => ⟨g, he, h.step h1 h2⟩
/-- .. where what it comes to is known, wherever the sender is laid. -/
theorem BkX.fresh' (h : BkX w wr b m pb n A) {p : Prt} {k q : Int} {r : PB × Bool} (hr : ∀ g, freshB pb p k q g = r) : Calls Try.prog 14 #[.pointer (some ⟨b, 0, none⟩), .agg (pa p), .int .i64 k, .int .i64 q] wr fun e w' => e = .returned (.bool r.2) ∧ BkX w w' b m r.1 n A :=
  (h.fresh p k q).mono fun _ _ ⟨g, he, h1⟩ => ⟨by rw [he, hr g], by rw [← hr g]; exact h1⟩
theorem BkX.keep (h : BkX w wr b m pb n A) (p : Prt) (q : Int) (x : X3) : Calls Try.prog 15 #[.pointer (some ⟨b, 0, none⟩), .agg (pa p), .int .i64 q, .agg (xc x)] wr fun e w' => e = .returned (.bool (keepB pb p q x).2) ∧ BkX w w' b m (keepB pb p q x).1 n A :=
  (keep_g h.g p q x).mono fun _ _ ⟨he, h1, h2⟩ => ⟨he, h.step h1 h2⟩
theorem BkX.take (h : BkX w wr b m pb n A) (p : Prt) (q : Int) : Calls Try.prog 16 #[.pointer (some ⟨b, 0, none⟩), .agg (pa p), .int .i64 q] wr fun e w' => e = .returned (.tuple #[.agg (xc (takeQ pb p q).2.1), .bool (takeQ pb p q).2.2]) ∧ BkX w w' b m (takeQ pb p q).1 n A :=
  (take_g h.g p q).mono fun _ _ ⟨he, h1, h2⟩ => ⟨he, h.step h1 h2⟩
theorem BkX.forget (h : BkX w wr b m pb n A) (p : Prt) : Calls Try.prog 18 #[.pointer (some ⟨b, 0, none⟩), .agg (pa p)] wr fun e w' => e = .returned (.bool (forgetB pb p).2) ∧ BkX w w' b m (forgetB pb p).1 n A :=
  (forget_g h.g p).mono fun _ _ ⟨he, h1, h2⟩ => ⟨he, h.step h1 h2⟩
end
set_option maxRecDepth 100000 in
set_option maxHeartbeats 8000000 in
theorem twice_fn (xs : List OpQ) (hm : xs.length ≤ 9223372036854775807) (a : Option Addr) (cap : Nat) (p : Prt) (q : Int) (w : World) (hX : RowsIn oq zeroOQ 15 w a xs) :
    Calls Try.prog 4 #[.slice a xs.length cap, .agg (pa p), .int .i64 q] w fun e w' => e = .returned (.bool true) ∧ Below w.heap.size w w' := by
  have hA : ∀ V, Below w.heap.size w V → RowsIn oq zeroOQ 15 V a xs := fun V hb => hX.below (by decide) hb
  clear hX
  have HA_ := hid hA
  clear hA
  go_enter Try.func4, Try.ntmps4
  go_upto_region 1 with (fail)
  obtain ⟨W1, hW1⟩ : ∃ W1, w.alloc (.cells (pa p) 35) = W1 := ⟨_, rfl⟩
  have b1 : Below w.heap.size w W1 := by rw [← hW1]; exact (Below.refl _ _).alloc (Nat.le_refl _) _
  have r1 : row? W1 w.heap.size = pa p := by rw [← hW1]; simp [row_alloc, rowOf]
  have o1 : own? W1 w.heap.size = true := by rw [← hW1]; simp [own_alloc, ownOf]
  rw [hW1]
  clear hW1
  have B1_ := hid b1
  clear b1
  have R1_ := hid r1
  clear r1
  have O1_ := hid o1
  clear o1
  go_wp2_with fail
  refine (new_g W1).mono ?_
  rintro e w2 ⟨b, m, rfl, h2'⟩
  dsimp only
  have h2 : BkX w w2 b m zeroPB w.heap.size (pa p) := .new h2' B1_.out R1_.out O1_.out
  clear h2' B1_ R1_ O1_
  generalize w.heap.size = n4 at h2 ⊢
  clear W1
  have H2_ := hid h2
  clear h2
  by_cases hbad : (400 : Int) < (xs.length : Int) ∨ q < 0 ∨ 65534 < q
  · have hal := H2_.out.alive
    have HAL_ := hid hal
    clear hal
    have hbad' : ((400 : Int) < (xs.length : Int)) ∨ (¬ (400 : Int) < (xs.length : Int) ∧ q < 0) ∨ (¬ (400 : Int) < (xs.length : Int) ∧ ¬ q < 0 ∧ 65534 < q) := by omega
    clear hbad
    rcases hbad' with y | ⟨n0, y⟩ | ⟨n0, n1, y⟩ <;> (
      go_wp2_with fail
      refine HAL_.out.mono ?_
      rintro e w3 ⟨rfl, h3⟩
      dsimp only
      clear HAL_
      have H3_ := hid h3
      clear h3
      go_wp2
      go_ret
      exact ⟨rfl, H3_.out.g.bel⟩)
  have n0 : ¬ (400 : Int) < (xs.length : Int) := by omega
  have n1 : ¬ q < 0 := by omega
  have n2 : ¬ 65534 < q := by omega
  have hlen : xs.length ≤ 400 := by omega
  clear hbad hm
  go_wp2
  go_loopw [33] (fun i wr => ∃ (j : Nat) (pb : PB), j ≤ xs.length ∧ i = .int .i64 j ∧ BkX w wr b m pb n4 (pa p)) (fun i _ => xs.length - (intOf i).toNat)
  case atStart => exact ⟨0, zeroPB, by omega, rfl, H2_.out⟩
  case round =>
    clear H2_
    obtain ⟨j, pb, hj, rfl, hG⟩ := hrel
    by_cases hjt : j < xs.length
    · have hr := HA_.out wr hG.g.bel
      obtain ⟨g, off, rfl, hrow⟩ := hr.at (by intro e; rw [e] at hjt; simp at hjt)
      obtain ⟨s1, s2⟩ := hrow j hjt
      have hjt' : (j : Int) < (xs.length : Int) := by omega
      generalize xs.getD j zeroOQ = o at *
      clear hrow hr
      have HG_ := hid hG
      clear hG
      go_upto_region 7 with (fail)
      obtain ⟨w3, hE, r3, o3, b3, _⟩ := newb wr (oq zeroOQ) (oq o) 38 (by simp)
      rw [oq_lit, hE]
      clear hE s1 s2
      have hc := (HG_.out.below b3).does o
      clear b3 HG_
      have HC_ := hid hc
      clear hc
      go_wp2_with fail
      refine HC_.out.mono ?_
      rintro e w4 ⟨g', rfl, h4, _⟩
      dsimp only
      clear HC_
      generalize (doB pb o g').1 = pb' at h4
      have H4_ := hid h4
      clear h4
      go_wp2
      exact ⟨⟨j + 1, pb', by omega, by go_num, H4_.out⟩, by simp [intOf]; omega⟩
    · obtain rfl : j = xs.length := by omega
      clear hjt hj hlen HA_
      have hrow := hG.row
      have hc := hG.fresh p 11 q
      have HC_ := hid hc
      clear hc
      have HG_ := hid hG
      clear hG
      go_wp2_with fail
      refine HC_.out.mono ?_
      rintro e w3 ⟨g, rfl, h3⟩
      dsimp only
      clear HC_ HG_ hrow
      have hrow := h3.row
      cases hf : (freshB pb p 11 q g).2 with
      | false =>
        obtain ⟨e1, e2⟩ := fresh_false hf
        rw [e1] at h3
        have hal := h3.alive
        have HAL_ := hid hal
        clear hal
        have H3_ := hid h3
        clear h3
        have E2_ := hid e2
        clear e2
        go_wp2_with fail
        refine HAL_.out.mono ?_
        rintro e w4 ⟨rfl, h4⟩
        dsimp only
        clear HAL_ H3_ hrow
        have hrow := h4.row
        have hc := h4.fresh' E2_.out
        clear h4
        have HC_ := hid hc
        clear hc
        go_wp2_with fail
        refine HC_.out.mono ?_
        rintro e w5 ⟨rfl, h5⟩
        dsimp only
        clear HC_ hrow
        have H5_ := hid h5
        clear h5
        go_wp2
        go_ret
        exact ⟨rfl, H5_.out.g.bel⟩
      | true =>
        obtain ⟨hk, hq, e1, hg1, hl1⟩ := fresh_true hf
        have e1' := fresh_again hk hq hg1 hl1
        have hq1 : rightB (q + 1) = true := decide_eq_true (by omega)
        have hb1 : behB (q + 1) q = true := decide_eq_true (by omega)
        have e2' := fresh_behind hk hq1 hg1 hl1 hb1
        obtain ⟨e3, hg3, hl3⟩ := put_get (nx := (freshB pb p 11 q g).1.nx) (s := e1.s) (k := (11 : Int).toNat) (q := q + 1) hg1
        have e3' := fresh_back (q := q) hk hq hg3 hl3 (by omega) (decide_eq_false (by omega))
        have hw : wrap64 (q + 1) = q + 1 := by unfold wrap64; omega
        generalize (freshB pb p 11 q g).1 = pb1 at *
        generalize putB pb1.nx pb1.l p e1.s (11 : Int).toNat (q + 1) = pb2 at *
        have hal := h3.alive
        clear hf hg1 hl1 hg3 hl3 hq1 hb1 hk hq
        have HAL_ := hid hal
        clear hal
        have E1'_ := hid e1'
        clear e1'
        have E2'_ := hid e2'
        clear e2'
        have E3'_ := hid e3'
        clear e3'
        clear h3
        go_wp2_with fail
        refine HAL_.out.mono ?_
        rintro e w4 ⟨rfl, h4⟩
        dsimp only
        clear HAL_ hrow
        have hrow := h4.row
        have hc := h4.fresh' E1'_.out
        clear h4
        have HC_ := hid hc
        clear hc
        go_wp2_with fail
        refine HC_.out.mono ?_
        rintro e w5 ⟨rfl, h5⟩
        dsimp only
        clear HC_ hrow
        have hrow := h5.row
        have hc := h5.fresh' E2'_.out
        clear h5
        have HC_ := hid hc
        clear hc
        go_wp2_with fail
        refine HC_.out.mono ?_
        rintro e w6 ⟨rfl, h6⟩
        dsimp only
        clear HC_ hrow
        have hrow := h6.row
        have hc := h6.fresh' E3'_.out
        clear h6
        have HC_ := hid hc
        clear hc
        go_wp2_with fail
        refine HC_.out.mono ?_
        rintro e w7 ⟨rfl, h7⟩
        dsimp only
        clear HC_ hrow
        have H7_ := hid h7
        clear h7
        go_wp2
        go_ret
        exact ⟨rfl, H7_.out.g.bel⟩
end Go.Proofs.Ytoblgdjjpbnemaa
