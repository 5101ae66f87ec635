/-
  The law PortAll: it answers true. No condition.
-/
import Derived.Test.YtlbdinckbbaknaaPoO
import Derived.Test.YtlbdinckbbaknaaPoI
import Derived.Test.YtlbdinckbbaknaaRegQ
import Derived.Deep.DeepCutAuto
import Derived.Deep.CutBlock
namespace Go.Proofs.Ytlbdinckbbaknaa
open Go.RowKit

/-- A block of one's own is written whole: the world is another one from there on. -/
theorem setblk {W m : World} {b : Nat} {A B : Array Value} (hr : ∀ d, row? (gr W d) b = A) (ho : ∀ d, own? (gr W d) b = true) (hA : A ≠ #[]) :
    ∃ W1, (gr W m).setRow b B = gr W1 W1 ∧ Chg (· = b) (gr W m) W1 ∧ (∀ d, row? (gr W1 d) b = B) ∧ (∀ d, own? (gr W1 d) b = true) := by
  have hlt : b < (gr W m).heap.size := row_lt (by rw [hr]; exact hA)
  refine ⟨(gr W m).setRow b B, gr_self _, (Chg.refl (· = b) (gr W m)).setRow (.inr rfl) B, gr_row ?_ (by simpa [World.setRow] using hlt), gr_own ?_⟩
  · rw [row_setRow _ _ _ _ (by rw [hr]; exact hA), if_pos rfl]
  · rw [own_setRow]; exact ho m
theorem At.chg2 {w W0 d W1 : World} {b c : Nat} {m : Mach} (h : At w b m W0) (hC : Chg (· = c) (gr W0 d) W1) (hne : b ≠ c) (hz : w.heap.size ≤ c) : At w b m W1 :=
  ⟨hC.up h.row hne (by simp), hC.upo h.own hne, hC.upb h.bel (h.bel _).size (by rintro k hk rfl; omega)⟩
set_option maxRecDepth 100000 in
set_option maxHeartbeats 4000000 in
theorem all_fn (k : Knd) (xs : List Opp) (a : Option Addr) (cap : Nat) (hm : xs.length ≤ 9223372036854775807) (w : World) (hX : RowsIn oa zeroO 5 w a xs) :
    Calls Try.prog 5 #[.agg (ka k), .slice a xs.length cap] w fun ε w' => ε = .returned (.bool true) ∧ Below w.heap.size w w' := by
  obtain ⟨e, o, so⟩ := k
  by_cases hk : e < 1 ∨ 1099511627776 < e ∨ o < 2 ∨ 10 < o
  · have hn := new_no e o so hk
    have hrn := rnew_no e o so hk
    clear hk hX hm
    have HN_ := hid hn
    clear hn
    have HRN_ := hid hrn
    clear hrn
    go_enter Try.func5, Try.ntmps5
    go_wp2_with (go_at_call 9; refine HN_.out.c ?_)
    refine cutc_box1 fun W g1 o1 hz hB => ?_
    refine HRN_.out.c fun m => ?_
    dsimp only
    go_wp2_with fail
    obtain ⟨W1, hE, r1, q1, u1, z1⟩ := newblk W m (mc ⟨0, 0, false, 0, 0⟩) (mc ⟨0, 0, false, 0, 0⟩) 39 (by simp)
    rw [hE]
    refine alive_fn.c fun m => ?_
    dsimp only
    go_wp2
    go_ret
    exact ⟨rfl, upb u1 hB _⟩
  have e1 : 1 ≤ e := by omega
  have e2 : e ≤ 1099511627776 := by omega
  have o1 : 2 ≤ o := by omega
  have o2 : o ≤ 10 := by omega
  have hn := new_yes e o so e1 e2 o1 o2
  have hrn := rnew_yes e o so e1 e2 o1 o2
  have hok : Mach.ok ⟨e, o, so, 1, 0⟩ := ⟨e1, e2, o1, o2, by simp, by simp, by simp, by simp⟩
  clear hk e1 e2 o1 o2
  have HN_ := hid hn
  clear hn
  have HRN_ := hid hrn
  clear hrn
  have HOK_ := hid hok
  clear hok
  rw [gr_self w]
  by_cases hl : 2000 < xs.length
  · have h2 : (2000 : Int) < (xs.length : Int) := by omega
    clear hl hm hX
    go_enter Try.func5, Try.ntmps5
    go_wp2_with fail
    refine (HN_.out _).mono ?_
    rintro _ _ ⟨rfl, rfl⟩
    obtain ⟨W, c, hE, ec, rk, r2, q2, hb, hz⟩ := begin2 w (ka ⟨e, o, so⟩) (mc ⟨e, o, so, 1, 0⟩) 23 51
    dsimp only
    rw [hE]
    simp only [World.size_alloc, ec]
    clear hE ec r2 q2
    go_wp2_with fail
    refine HRN_.out.c fun m => ?_
    dsimp only
    go_wp2_with fail
    obtain ⟨W1, hE, r1, q1, u1, z1⟩ := newblk W m (mc ⟨0, 0, false, 0, 0⟩) (mc ⟨e, o, so, 1, 0⟩) 39 (by simp)
    rw [hE]
    refine alive_fn.c fun m => ?_
    dsimp only
    go_wp2
    go_ret
    exact ⟨rfl, by rw [← gr_self w]; exact upb u1 hb _⟩
  have d1 : decide ((2000 : Int) < (xs.length : Int)) = false := decide_eq_false (by omega)
  have h2 : ¬ (2000 : Int) < (xs.length : Int) := by omega
  clear hm
  have HX_ := hid hX
  clear hX
  go_enter Try.func5, Try.ntmps5
  go_wp2_with fail
  refine (HN_.out _).mono ?_
  rintro _ _ ⟨rfl, rfl⟩
  obtain ⟨W, c, hE, ec, rk, r2, q2, hb, hz⟩ := begin2 w (ka ⟨e, o, so⟩) (mc ⟨e, o, so, 1, 0⟩) 23 51
  dsimp only
  rw [hE]
  simp only [World.size_alloc, ec]
  clear hE ec
  have hat : At w (c + 1) ⟨e, o, so, 1, 0⟩ W := ⟨r2, q2, hb⟩
  clear r2 q2 hb
  go_wp2_with fail
  refine HRN_.out.c fun m => ?_
  dsimp only
  have hcb : c + 1 < (gr W m).heap.size := row_lt (by rw [hat.row]; simp)
  go_wp2_with fail
  obtain ⟨W1, hE, rr, qr, u1, z1⟩ := newblk W m (mc ⟨0, 0, false, 0, 0⟩) (mc ⟨e, o, so, 1, 0⟩) 39 (by simp)
  rw [hE]
  replace hat := hat.up u1
  clear hE u1 z1 rk HRN_ HN_
  generalize (gr W m).heap.size = rb at *
  have h0 : ∃ m, Mach.ok m ∧ At w (c + 1) m W1 ∧ (∀ d, row? (gr W1 d) rb = mc m) ∧ (∀ d, own? (gr W1 d) rb = true) := ⟨_, HOK_.out, hat, rr, qr⟩
  clear hat rr qr HOK_
  have H0_ := hid h0
  clear h0
  go_loopw [66] (fun i wr => ∃ (j : Nat) (V : World), j ≤ xs.length ∧ i = .int .i64 j ∧ (∃ m, Mach.ok m ∧ At w (c + 1) m V ∧ (∀ d, row? (gr V d) rb = mc m) ∧ (∀ d, own? (gr V d) rb = true)) ∧ wr = gr V V) (fun i _ => xs.length - (intOf i).toNat)
  case atStart => exact ⟨0, W1, by omega, rfl, H0_.out, rfl⟩
  case round =>
    clear H0_
    obtain ⟨j, V, hj, rfl, ⟨m, hok, hat, rr, qr⟩, rfl⟩ := hrel
    by_cases hjt : j < xs.length
    · obtain ⟨c', off, rfl, hR⟩ := HX_.out.at (by intro e; rw [e] at hjt; simp at hjt)
      have hc : c' < w.heap.size := hR.lt (by omega) (by intro e; rw [e] at hjt; simp at hjt)
      have s1 : ∀ d, off + j * 5 + 5 ≤ (row? (gr V d) c').size := fun d => by rw [Below_row (hat.bel d) hc]; exact (hR j hjt).1
      have s2 : ∀ d, sub (row? (gr V d) c') (off + j * 5) 5 = oa (xs.getD j zeroO) := fun d => by rw [Below_row (hat.bel d) hc]; exact (hR j hjt).2
      generalize xs.getD j zeroO = x at *
      have hd := does_fn (c + 1) m hok x
      have hrd := rdo_fn m hok x
      have hok' := hok.step x
      have hrlt : rb < (gr V V).heap.size := row_lt (by rw [rr]; simp)
      have hblt : c + 1 < (gr V V).heap.size := row_lt (by rw [hat.row]; simp)
      generalize (doM m x).2 = v at *
      generalize (doM m x).1 = m' at *
      have hs := state_fn (c + 1) m'
      have hu := until_fn (c + 1) m'
      obtain ⟨me, mo, mso, ms, mu⟩ := m'
      dsimp only at hs hu
      clear hok hR
      have HD_ := hid hd
      clear hd
      have HRD_ := hid hrd
      clear hrd
      have HOK'_ := hid hok'
      clear hok'
      have HAT_ := hid hat
      clear hat
      have HS_ := hid hs
      clear hs
      have HU_ := hid hu
      clear hu
      go_wp2_with fail
      obtain ⟨W2, hE, r2, q2, u2, z2⟩ := newblk V V #[.int .i64 0, .int .i64 0, .int .i64 0, .int .i64 0, .bool false] (oa x) 43 (by simp)
      rw [hE]
      clear hE q2
      have hat := HAT_.out.up u2
      replace rr := upr u2 rr
      replace qr := upo u2 qr
      clear HAT_ u2 s1 s2
      generalize (gr V V).heap.size = ob at *
      refine HRD_.out.c fun m1 => ?_
      dsimp only
      have HAT_ := hid hat
      clear hat
      go_wp2_with fail
      obtain ⟨W3, hE, r3, q3, u3, z3⟩ := newblk W2 m1 (mc ⟨0, 0, false, 0, 0⟩) (mc ⟨me, mo, mso, ms, mu⟩) 39 (by simp)
      rw [hE]
      clear hE q3
      have hat := HAT_.out.up u3
      replace rr := upr u3 rr
      replace qr := upo u3 qr
      replace r2 := upr u3 r2
      clear HAT_ u3
      have hne : ob ≠ rb := by omega
      generalize (gr W2 m1).heap.size = qb at *
      have HAT_ := hid hat
      clear hat
      go_simp
      go_wp2_with fail
      obtain ⟨W4, hE, hC, rr', qr'⟩ := setblk (m := W3) (B := mc ⟨me, mo, mso, ms, mu⟩) rr qr (by simp)
      rw [hE]
      have hat := HAT_.out.chg2 hC (by omega) (by omega)
      replace r2 := hC.up r2 hne (by simp)
      clear hE HAT_ hC r3 rr qr
      have HAT_ := hid hat
      clear hat
      refine wp_region_mid W4 [0, 3] [1, 2, 4, 5] 6 (by kernel_rfl) (by kernel_rfl) (fun c a b w hd h => And.intro (hd.symm.trans (And.left h)) (And.right h)) ⟨_, rfl⟩ rfl rfl rfl ?_
      simp only [selL, List.filterMap_cons, List.filterMap_nil, List.getElem?_cons_zero, List.getElem?_cons_succ, List.drop_succ_cons, List.drop_zero]
      refine (show wpQuiet _ _ _ _ [_, _] _ from ?_)
      repeat (go_big_quiet_step (fail))
      refine wpQuiet_nil ?_
      rintro _ ⟨d0, rfl⟩
      go_wp2_with fail
      refine HD_.out.gr HAT_.out.row HAT_.out.own fun W5 hC r5 q5 => ?_
      dsimp only
      replace rr' := hC.up rr' (by omega) (by simp)
      replace qr' := hC.upo qr' (by omega)
      have hat := HAT_.out.chg hC (by omega) r5 q5
      clear HAT_ hC q5 r2 hne
      have HAT_ := hid hat
      clear hat
      go_wp2_with fail
      refine (show MidQ _ _ _ _ _ _ from ⟨W5, _, rfl, ?_⟩)
      repeat (go_big_quiet_step ((first | (go_at_call 13; exact HS_.out.q r5) | (go_at_call 14; exact HU_.out.q r5))))
      refine wpQuiet_nil ?_
      rintro _ ⟨y, rfl⟩
      clear r5
      go_wp2
      go_roundw
      case rel => exact ⟨j + 1, gr W5 y, by omega, by go_num, ⟨_, HOK'_.out, HAT_.out.up (fun d => gr_gr W5 y d), upr (fun d => gr_gr W5 y d) rr', upo (fun d => gr_gr W5 y d) qr'⟩, gr_self _⟩
      case measure => simp [intOf]; omega
    · obtain rfl : j = xs.length := by omega
      clear hok rr qr
      have HAT_ := hid hat
      clear hat
      go_wp2_with (go_at_call 10; refine alive_fn.b (HAT_.out.bel _) (HAT_.out.bel _).size fun w' hb => ?_)
      go_ret
      exact ⟨rfl, by rw [← gr_self w]; exact hb⟩
end Go.Proofs.Ytlbdinckbbaknaa
