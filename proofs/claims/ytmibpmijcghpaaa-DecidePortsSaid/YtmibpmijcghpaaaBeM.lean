/-
  The walk of alive (layer 10): it answers true. No condition.
-/
import Derived.Test.YtmibpmijcghpaaaBeL
namespace Go.Proofs.Ytmibpmijcghpaaa
open Go.RowKit

theorem newA (W0 m : World) (A : Array Value) (S : TypeId) : ∃ W1, (gr W0 m).alloc (.cells A S) = gr W1 W1 ∧ (∀ d, row? (gr W1 d) (gr W0 m).heap.size = A) ∧ (∀ d, own? (gr W1 d) (gr W0 m).heap.size = true) ∧ (∀ d, ∃ d', gr W1 d = gr W0 d') := by
  have hb : Below W0.heap.size W0 ((gr W0 m).alloc (.cells A S)) := (gr_below W0 m).alloc (gr_below W0 m).size _
  exact ⟨_, gr_self _, gr_row (by simp [row_alloc, rowOf]) (by simp), gr_own (by simp [own_alloc, ownOf]), fun d => gr_ex (hb.trans ((gr_below _ d).mono (by have := (gr_below W0 m).size; simp; omega)))⟩
theorem cutc_new {P : Program} {f : FuncId} {args : Array Value} {R : Ending → World → Prop} {W m : World} {A B : Array Value} {S : TypeId} (hAB : A = B)
    (h : ∀ W1, (∀ d, row? (gr W1 d) (gr W m).heap.size = B) → (∀ d, own? (gr W1 d) (gr W m).heap.size = true) → (∀ d, ∃ d', gr W1 d = gr W d') → Calls P f args (gr W1 W1) R) : Calls P f args ((gr W m).alloc (.cells A S)) R := by
  subst hAB
  obtain ⟨W1, e, h1, h2, h3⟩ := newA W m A S
  rw [e]
  exact h W1 h1 h2 h3
def c9 : Clk := ⟨[9, 0, 0, 0, 0, 0, 0, 0], rfl, by decide⟩
def c1' : Clk := ⟨[1, 0, 0, 0, 0, 0, 0, 0], rfl, by decide⟩
def setM : Sett := ⟨5, 0, 248, 0, 0, c9, 0, zeroP, zeroP⟩
def setO : Sett := ⟨1, 0, 0, 0, 0, c1', 0, zeroP, zeroP⟩
abbrev choO : Cho := ⟨setO, true⟩
@[go_sem] theorem bldC9 (w : World) : (bld 25 #[(0, .int .u8 9)]).run Try.prog w = .ok (.agg (ca c9)) w := run_bld w (by kernel_rfl)
@[go_sem] theorem bldC1' (w : World) : (bld 25 #[(0, .int .u8 1)]).run Try.prog w = .ok (.agg (ca c1')) w := run_bld w (by kernel_rfl)
@[go_sem] theorem bldQ (w : World) : (bld 23 #[(0, .int .i64 248)]).run Try.prog w = .ok (.agg #[.int .i64 248, .int .i64 0, .int .i64 0]) w := run_bld w (by kernel_rfl)
@[go_sem] theorem bldSM (w : World) : (bld 29 #[(0, .int .i64 5), (2, .agg #[.int .i64 248, .int .i64 0, .int .i64 0]), (3, .agg (ca c9))]).run Try.prog w = .ok (.agg (sa setM)) w := run_bld w (by kernel_rfl)
@[go_sem] theorem bldSO (w : World) : (bld 29 #[(0, .int .i64 1), (3, .agg (ca c1'))]).run Try.prog w = .ok (.agg (sa setO)) w := run_bld w (by kernel_rfl)
theorem rows2 {W : World} {b : Nat} (h : ∀ d, row? (gr W d) b = cha choO ++ cha zeroCh) : ∀ d, RowsIn cha zeroCh 33 (gr W d) (some ⟨b, 0, none⟩) [choO, zeroCh] := fun d => .inr ⟨b, 0, rfl, fun k hk => by
  rw [h]
  match k, hk with
  | 0, _ => exact ⟨by simp, by kernel_rfl⟩
  | 1, _ => exact ⟨by simp, by kernel_rfl⟩⟩
theorem rows1 {W : World} {b : Nat} (h : ∀ d, row? (gr W d) b = cha zeroCh) : ∀ d, RowsIn cha zeroCh 33 (gr W d) (some ⟨b, 0, none⟩) [zeroCh] := fun d => .inr ⟨b, 0, rfl, fun k hk => by
  rw [h]
  match k, hk with
  | 0, _ => exact ⟨by simp, by kernel_rfl⟩⟩
theorem rowsI {W : World} {b : Nat} (h : ∀ d, row? (gr W d) b = #[.int .i64 1, .int .i64 2, .int .i64 3, .int .i64 4]) : ∀ d, RowsIn i1 0 1 (gr W d) (some ⟨b, 0, none⟩) [1, 2, 3, 4] := fun d => .inr ⟨b, 0, rfl, fun k hk => by
  rw [h]
  match k, hk with
  | 0, _ => exact ⟨by simp, by kernel_rfl⟩
  | 1, _ => exact ⟨by simp, by kernel_rfl⟩
  | 2, _ => exact ⟨by simp, by kernel_rfl⟩
  | 3, _ => exact ⟨by simp, by kernel_rfl⟩⟩
theorem inR2 : ∀ k, k < [choO, zeroCh].length → inR ([choO, zeroCh].getD k zeroCh).s.n := fun k hk => by
  match k, hk with
  | 0, _ => exact ⟨by decide, by decide⟩
  | 1, _ => exact ⟨by decide, by decide⟩
theorem inR1 : ∀ k, k < [zeroCh].length → inR ([zeroCh].getD k zeroCh).s.n := fun k hk => by
  match k, hk with
  | 0, _ => exact ⟨by decide, by decide⟩
set_option maxRecDepth 100000 in
set_option maxHeartbeats 1600000 in
theorem alive10_fn : Fn Try.prog 9 #[] (.bool true) := by
  intro w
  go_enter Try.func9, Try.ntmps9
  rw [gr_self w]
  go_upto_region 2 with (fail)
  obtain ⟨W1, hE, r1, _, u1, _⟩ := newblk w w (sa zeroS) (sa setM) 29 (by simp)
  rw [hE]
  clear hE
  generalize (gr w w).heap.size = b1 at *
  go_upto_region 3 with (fail)
  obtain ⟨W2, hE, r2, _, u2, _⟩ := newblk W1 W1 (cha zeroCh) (cha choO) 47 (by simp)
  rw [hE]
  clear hE
  generalize (gr W1 W1).heap.size = b2 at *
  replace r1 := upr u2 r1
  have u := up2 u2 u1
  clear u1 u2
  have U_ := hid u
  clear u
  go_wp2_with fail
  refine cutc_new (B := cha choO ++ cha zeroCh) (by kernel_rfl) fun W3 r3 _ u3 => ?_
  generalize (gr W2 W2).heap.size = b3 at *
  refine ((port_fn setM [choO, zeroCh] (by decide) inR2 ⟨by decide, by decide⟩ (rows2 r3) 0 4).at_eq (u := .int .i64 4) (congrArg _ (show portC setM [choO, zeroCh] 0 4 = 4 by kernel_rfl))).c fun m => ?_
  dsimp only
  replace r1 := upr u3 r1
  replace r2 := upr u3 r2
  have u := up2 u3 U_.out
  clear U_ u3 r3
  have U_ := hid u
  clear u
  go_wp2_with fail
  refine cutc_new (B := cha choO ++ cha zeroCh) (by kernel_rfl) fun W4 r4 _ u4 => ?_
  generalize (gr W3 m).heap.size = b4 at *
  refine ((port_fn setM [choO, zeroCh] (by decide) inR2 ⟨by decide, by decide⟩ (rows2 r4) 1 4).at_eq (u := .int .i64 0) (congrArg _ (show portC setM [choO, zeroCh] 1 4 = 0 by kernel_rfl))).c fun m => ?_
  dsimp only
  replace r1 := upr u4 r1
  have u := up2 u4 U_.out
  clear U_ u4 r4 r2
  have U_ := hid u
  clear u
  go_wp2_with fail
  refine cutc_new (B := cha zeroCh) (by kernel_rfl) fun W5 r5 _ u5 => ?_
  generalize (gr W4 m).heap.size = b5 at *
  refine ((port_fn setM [zeroCh] (by decide) inR1 ⟨by decide, by decide⟩ (rows1 r5) 0 6).at_eq (u := .int .i64 2) (congrArg _ (show portC setM [zeroCh] 0 6 = 2 by kernel_rfl))).c fun m => ?_
  dsimp only
  have u := up2 u5 U_.out
  clear U_ u5 r5 r1
  have U_ := hid u
  clear u
  go_wp2_with fail
  refine cutc_new (B := #[.int .i64 1, .int .i64 2, .int .i64 3, .int .i64 4]) (by kernel_rfl) fun W6 r6 _ u6 => ?_
  generalize (gr W5 m).heap.size = b6 at *
  refine ((masters_fn [1, 2, 3, 4] (by decide) _ _ (rowsI r6)).at_eq (u := .int .i64 3) (congrArg _ (show ((mst [1, 2, 3, 4] 4 : Nat) : Int) = 3 by kernel_rfl))).c fun m => ?_
  dsimp only
  have u := up2 u6 U_.out
  clear U_ u6 r6
  have U_ := hid u
  clear u
  go_wp2
  go_ret
  refine ⟨rfl, ?_⟩
  obtain ⟨y, hy⟩ := U_.out m
  rw [hy, ← gr_self w]
  exact gr_below w y
end Go.Proofs.Ytmibpmijcghpaaa
