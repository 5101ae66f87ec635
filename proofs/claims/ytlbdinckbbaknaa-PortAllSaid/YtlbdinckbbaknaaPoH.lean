/-
  The law PortSlaves: it answers true. No condition.
-/
import Derived.Test.YtlbdinckbbaknaaPoG
namespace Go.Proofs.Ytlbdinckbbaknaa
open Go.RowKit

theorem agg43 (w : World) : (isAgg 43).run Try.prog w = .ok true w := by kernel_rfl
theorem siz43 (w : World) : (sizeOf 43).run Try.prog w = .ok 5 w := by kernel_rfl
@[go_sem] theorem ldOp (w : World) (b off : Nat) (h : off + 5 ≤ (row? w b).size) : (ldAt 43 (.pointer (some ⟨b, off, none⟩))).run Try.prog w = .ok (.agg (sub (row? w b) off 5)) w := run_ldAt_agg agg43 siz43 w b off h
@[go_sem] theorem stOp (w : World) (b : Nat) (x : Opp) (h : (row? w b).size = 5) (ho : own? w b = true) : (stAt 43 (.pointer (some ⟨b, 0, none⟩)) (.agg (oa x))).run Try.prog w = .ok () (w.setRow b (oa x)) :=
  run_stAt_row siz43 w b _ (by rw [Array.all_eq_true_iff_forall_mem]; intro v hv; simp at hv; rcases hv with rfl | rfl | rfl | rfl | rfl <;> rfl) (by simp) h ho
@[simp, go_sem] theorem oa_all (x : Opp) : sub (oa x) 0 5 = oa x := sub_all _ _ (by simp)
/-- Never master, nor about to be, nor passive. -/
structure Slv (m : Mach) : Prop where
  so : m.so = true
  n5 : m.s ≠ 5
  n6 : m.s ≠ 6
  n7 : m.s ≠ 7
theorem Slv.anew {m : Mach} (h : Slv m) {s : Int} (h5 : s ≠ 5) (h6 : s ≠ 6) (h7 : s ≠ 7) (n : Int) : Slv (anewM m s n) := ⟨h.so, h5, h6, h7⟩
theorem Slv.rest {m : Mach} (h : Slv m) {s : Int} (h5 : s ≠ 5) (h6 : s ≠ 6) (h7 : s ≠ 7) : Slv (restM m s) := ⟨h.so, h5, h6, h7⟩
theorem Slv.to {m : Mach} (h : Slv m) {s : Int} (h5 : s ≠ 5) (h6 : s ≠ 6) (h7 : s ≠ 7) : Slv { m with s := s } := ⟨h.so, h5, h6, h7⟩
theorem Slv.dec {m : Mach} (h : Slv m) (c p n : Int) (sm : Bool) : Slv (decM m c p n sm) := by
  unfold decM
  split
  · exact h
  split
  · split
    · exact h
    · exact h.anew (by decide) (by decide) (by decide) _
  split
  · exact h
  split
  · exact h
  rw [if_pos h.so]
  split
  · exact h
  · exact h.anew (by decide) (by decide) (by decide) _
theorem Slv.tick {m : Mach} (h : Slv m) (n : Int) : Slv (tickM m n).1 := by
  unfold tickM
  split
  · exact h
  split
  · rename_i h5
    exact absurd h5 h.n5
  rw [if_pos h.so]
  exact h.anew (by decide) (by decide) (by decide) _
theorem Slv.step {m : Mach} (h : Slv m) (x : Opp) : Slv (doM m x).1 := by
  unfold doM
  split
  · split
    · exact h.anew (by decide) (by decide) (by decide) _
    · exact h
  split
  · split
    · exact h.rest (by decide) (by decide) (by decide)
    · exact h
  split
  · split
    · exact h.rest (by decide) (by decide) (by decide)
    · exact h
  split
  · split
    · exact h.rest (by decide) (by decide) (by decide)
    · exact h
  split
  · split
    · exact h.rest (by decide) (by decide) (by decide)
    · exact h
  split
  · split
    · exact h.to (by decide) (by decide) (by decide)
    · exact h
  split
  · split
    · exact h.to (by decide) (by decide) (by decide)
    · exact h
  split
  · split
    · exact h.anew h.n5 h.n6 h.n7 _
    · exact h
  split
  · exact h.dec _ _ _ _
  split
  · exact h.tick _
  · exact h
/-- A world at a round's head: a machine lies at b, nothing that was there at the begin has changed. -/
structure At (w : World) (b : Nat) (m : Mach) (W : World) : Prop where
  row : ∀ d, row? (gr W d) b = mc m
  own : ∀ d, own? (gr W d) b = true
  bel : ∀ d, Below w.heap.size w (gr W d)
theorem new_at (w : World) (e o : Int) (so : Bool) (T : TypeId) : ∃ W, (gr w w).alloc (.cells (mc ⟨e, o, so, 1, 0⟩) T) = gr W W ∧ At w (gr w w).heap.size ⟨e, o, so, 1, 0⟩ W ∧ w.heap.size ≤ (gr w w).heap.size := by
  obtain ⟨W1, h1, r1, o1, u1, z1⟩ := new_gr w w (mc ⟨e, o, so, 1, 0⟩) T
  exact ⟨W1, h1, ⟨r1, o1, upb u1 (gr_below w)⟩, z1⟩
set_option maxRecDepth 100000 in
set_option maxHeartbeats 2000000 in
theorem slaves_fn (e o : Int) (xs : List Opp) (a : Option Addr) (cap : Nat) (hm : xs.length ≤ 9223372036854775807) (w : World) (hX : RowsIn oa zeroO 5 w a xs) :
    Calls Try.prog 6 #[.int .i64 e, .int .i64 o, .slice a xs.length cap] w fun ε w' => ε = .returned (.bool true) ∧ Below w.heap.size w w' := by
  by_cases hk : e < 1 ∨ 1099511627776 < e ∨ o < 2 ∨ 10 < o
  · have hn := new_no e o true hk
    clear hk hX hm
    have HN_ := hid hn
    clear hn
    go_enter Try.func6, Try.ntmps6
    go_wp2_with (first | (go_at_call 9; refine HN_.out.c ?_) | (go_at_call 10; refine alive_fn.b (Below.refl _ _) (Nat.le_refl _) fun w' hb => ?_))
    go_ret
    exact ⟨rfl, hb⟩
  have e1 : 1 ≤ e := by omega
  have e2 : e ≤ 1099511627776 := by omega
  have o1 : 2 ≤ o := by omega
  have o2 : o ≤ 10 := by omega
  have hn := new_yes e o true e1 e2 o1 o2
  have hok : Mach.ok ⟨e, o, true, 1, 0⟩ := ⟨e1, e2, o1, o2, by simp, by simp, by simp, by simp⟩
  have hsl : Slv ⟨e, o, true, 1, 0⟩ := ⟨rfl, by simp, by simp, by simp⟩
  clear hk e1 e2 o1 o2
  have HN_ := hid hn
  clear hn
  have HOK_ := hid hok
  clear hok
  have HSL_ := hid hsl
  clear hsl
  rw [gr_self w]
  by_cases hl : 2000 < xs.length
  · have h2 : (2000 : Int) < (xs.length : Int) := by omega
    clear hl hm hX
    go_enter Try.func6, Try.ntmps6
    go_wp2_with (first | (go_at_call 9; refine (HN_.out _).mono ?_; rintro e w' ⟨rfl, rfl⟩) | (go_at_call 10; refine alive_fn.b ((gr_below w w).alloc (gr_below w w).size _) (by have := (gr_below w w).size; simp <;> omega) fun w' hb => ?_))
    go_ret
    exact ⟨rfl, by rw [← gr_self w]; exact hb⟩
  have h2 : ¬ (2000 : Int) < (xs.length : Int) := by omega
  clear hm
  have HX_ := hid hX
  clear hX
  go_enter Try.func6, Try.ntmps6
  go_wp2_with fail
  refine (HN_.out _).mono ?_
  rintro _ _ ⟨rfl, rfl⟩
  obtain ⟨W, hE, hat, hz⟩ := new_at w e o true 51
  dsimp only
  rw [hE]
  clear hE
  generalize (gr w w).heap.size = b at *
  have h0 : ∃ m, Mach.ok m ∧ Slv m ∧ At w b m W := ⟨_, HOK_.out, HSL_.out, hat⟩
  clear hat HOK_ HSL_ HN_
  have H0_ := hid h0
  clear h0
  go_wp2
  go_loopw [32] (fun i wr => ∃ (j : Nat) (W : World), j ≤ xs.length ∧ i = .int .i64 j ∧ (∃ m, Mach.ok m ∧ Slv m ∧ At w b m W) ∧ wr = gr W W) (fun i _ => xs.length - (intOf i).toNat)
  case atStart => exact ⟨0, W, by omega, rfl, H0_.out, rfl⟩
  case round =>
    clear H0_
    obtain ⟨j, V, hj, rfl, ⟨m, hok, hsl, hat⟩, rfl⟩ := hrel
    by_cases hjt : j < xs.length
    · obtain ⟨c, off, rfl, hR⟩ := HX_.out.at (by intro e; rw [e] at hjt; simp at hjt)
      have hc : c < w.heap.size := hR.lt (by omega) (by intro e; rw [e] at hjt; simp at hjt)
      have s1 : ∀ d, off + j * 5 + 5 ≤ (row? (gr V d) c).size := fun d => by rw [Below_row (hat.bel d) hc]; exact (hR j hjt).1
      have s2 : ∀ d, sub (row? (gr V d) c) (off + j * 5) 5 = oa (xs.getD j zeroO) := fun d => by rw [Below_row (hat.bel d) hc]; exact (hR j hjt).2
      generalize xs.getD j zeroO = x at *
      have hd := does_fn b m hok x
      have hok' := hok.step x
      have hsl' := hsl.step x
      generalize (doM m x).2 = v at *
      generalize (doM m x).1 = m' at *
      have hs := state_fn b m'
      have b5 : (m'.s == 5) = false := by simpa using hsl'.n5
      have b6 : (m'.s == 6) = false := by simpa using hsl'.n6
      have b7 : (m'.s == 7) = false := by simpa using hsl'.n7
      generalize m'.s = s at *
      clear hok hsl
      have HD_ := hid hd
      clear hd
      have HOK'_ := hid hok'
      clear hok'
      have HSL'_ := hid hsl'
      clear hsl'
      have HS_ := hid hs
      clear hs
      have HR_ := hid hR
      clear hR
      have HAT_ := hid hat
      clear hat
      go_wp2_with fail
      obtain ⟨W1, hE, r1, q1, u1, z1⟩ := newblk V V #[.int .i64 0, .int .i64 0, .int .i64 0, .int .i64 0, .bool false] (oa x) 43 (by simp)
      rw [hE]
      clear hE q1 z1 r1
      have hr := upr u1 HAT_.out.row
      have ho := upo u1 HAT_.out.own
      have hb := upb u1 HAT_.out.bel
      refine HD_.out.gr hr ho fun W2 hC r2 q2 => ?_
      dsimp only
      clear hr ho s1 s2
      go_wp2_with (go_at_call 13; refine HS_.out.c (r2 _) ?_)
      go_roundw
      case rel => exact ⟨j + 1, W2, by omega, by go_num, ⟨m', HOK'_.out, HSL'_.out, ⟨r2, q2, hC.upb hb (hb _).size (by rintro k hk rfl; omega)⟩⟩, rfl⟩
      case measure => simp [intOf]; omega
    · obtain rfl : j = xs.length := by omega
      clear hok hsl
      have HAT_ := hid hat
      clear hat
      go_wp2_with (go_at_call 10; refine alive_fn.b (HAT_.out.bel _) (HAT_.out.bel _).size fun w' hb => ?_)
      go_ret
      exact ⟨rfl, by rw [← gr_self w]; exact hb⟩
end Go.Proofs.Ytlbdinckbbaknaa
