/-
  The walk of alive (layer 7): it answers true. No condition.
-/
import Derived.Test.YtcjbopobgpfjlaaRaF
namespace Go.Proofs.Ytcjbopobgpfjlaa
open Go.RowKit

theorem newA (W0 m : World) (A : Array Value) (S : TypeId) : ∃ W1, (gr W0 m).alloc (.cells A S) = gr W1 W1 ∧ (∀ d, row? (gr W1 d) (gr W0 m).heap.size = A) ∧ (∀ d, own? (gr W1 d) (gr W0 m).heap.size = true) ∧ (∀ d, ∃ d', gr W1 d = gr W0 d') := by
  have hb : Below W0.heap.size W0 ((gr W0 m).alloc (.cells A S)) := (gr_below W0 m).alloc (gr_below W0 m).size _
  exact ⟨_, gr_self _, gr_row (by simp [row_alloc, rowOf]) (by simp), gr_own (by simp [own_alloc, ownOf]), fun d => gr_ex (hb.trans ((gr_below _ d).mono (by have := (gr_below W0 m).size; simp; omega)))⟩
theorem newcell (W0 W3 : World) {b k : Nat} {A : Array Value} {v : Value} (hlo : W0.heap.size ≤ b) (hr : ∀ d, row? (gr W3 d) b = A) (ho : ∀ d, own? (gr W3 d) b = true) (hA : A ≠ #[]) (u : ∀ d, ∃ d', gr W3 d = gr W0 d') :
    ∃ W4, (gr W3 W3).setCell ⟨b, k, none⟩ v = gr W4 W4 ∧ (∀ d, row? (gr W4 d) b = A.setIfInBounds k v) ∧ (∀ d, own? (gr W4 d) b = true) ∧ (∀ d, ∃ d', gr W4 d = gr W0 d') := by
  obtain ⟨d0, e0⟩ := u W3
  have hb : Below W0.heap.size W0 ((gr W3 W3).setCell ⟨b, k, none⟩ v) := by
    rw [e0]
    exact (gr_below W0 d0).setCell hlo _
  have lt : b < (gr W3 W3).heap.size := row_lt (by rw [hr]; exact hA)
  refine ⟨_, gr_self _, gr_row ?_ (by simpa using lt), gr_own ?_, fun d => gr_ex (hb.trans ((gr_below _ d).mono (by rw [e0]; simpa using (gr_below W0 d0).size)))⟩
  · simp [go_sem, hr]
  · simp [go_sem, ho]
theorem cutc_new {P : Program} {f : FuncId} {args : Array Value} {R : Ending → World → Prop} {W m : World} {A B : Array Value} {S : TypeId} (hAB : A = B)
    (h : ∀ W1, (∀ d, row? (gr W1 d) (gr W m).heap.size = B) → (∀ d, own? (gr W1 d) (gr W m).heap.size = true) → (∀ d, ∃ d', gr W1 d = gr W d') → Calls P f args (gr W1 W1) R) : Calls P f args ((gr W m).alloc (.cells A S)) R := by
  subst hAB
  obtain ⟨W1, e, h1, h2, h3⟩ := newA W m A S
  rw [e]
  exact h W1 h1 h2 h3
def cOne : Clk := ⟨[1, 0, 0, 0, 0, 0, 0, 0], rfl, by decide⟩
def cTwo : Clk := ⟨[2, 0, 0, 0, 0, 0, 0, 0], rfl, by decide⟩
def setA : Sett := ⟨1, 0, 0, 0, 0, cOne, 0, zeroP, zeroP⟩
def setB : Sett := ⟨2, 0, 0, 0, 0, cTwo, 0, zeroP, zeroP⟩
def setC : Sett := ⟨1, 0, 0, 0, 0, cOne, 2, zeroP, zeroP⟩
@[go_sem] theorem bldC1 (w : World) : (bld 25 #[(0, .int .u8 1)]).run Try.prog w = .ok (.agg (ca cOne)) w := run_bld w (by kernel_rfl)
@[go_sem] theorem bldC2 (w : World) : (bld 25 #[(0, .int .u8 2)]).run Try.prog w = .ok (.agg (ca cTwo)) w := run_bld w (by kernel_rfl)
@[go_sem] theorem bldS1 (w : World) : (bld 29 #[(0, .int .i64 1), (3, .agg (ca cOne))]).run Try.prog w = .ok (.agg (sa setA)) w := run_bld w (by kernel_rfl)
@[go_sem] theorem bldS2 (w : World) : (bld 29 #[(0, .int .i64 2), (3, .agg (ca cTwo))]).run Try.prog w = .ok (.agg (sa setB)) w := run_bld w (by kernel_rfl)
theorem setC_eq : (sa setA).setIfInBounds 13 (.int .i64 2) = sa setC := rfl

set_option maxRecDepth 100000 in
set_option maxHeartbeats 1600000 in
theorem alive7_fn : Fn Try.prog 15 #[] (.bool true) := by
  intro w
  go_enter Try.func15, Try.ntmps15
  rw [gr_self w]
  go_wp2_with fail
  obtain ⟨W0, e0, ht0⟩ := two_alloc w w (A := sa zeroS) (B := sa zeroS) (S := 29) (T := 29)
  have e2 : ((gr w w).alloc (.cells (sa zeroS) 29)).heap.size = (gr w w).heap.size + 1 := by simp
  rw [e2] at ht0
  rw [e0]
  obtain ⟨W, e1, ht⟩ := ht0.stored (sa setA) (sa setB) (by simp) (by simp)
  rw [e1]
  clear e0 e1 e2 ht0
  have r1 := ht.rb
  have r2 := ht.rc
  have hB : ∀ d, Below w.heap.size w (gr W d) := fun d => by
    obtain ⟨d', e⟩ := ht.up d
    rw [e]
    exact gr_below w d'
  clear ht
  generalize (gr w w).heap.size = b1 at *
  generalize b1 + 1 = b2 at *
  go_simp
  go_wp2_with fail
  obtain ⟨W3, hE, r3, o3, u3, h3⟩ := newblk W W (sa zeroS) (sa setA) 29 (by simp)
  rw [hE]
  clear hE
  generalize (gr W W).heap.size = b3 at *
  obtain ⟨W4, hE, r4, o4, u4⟩ := newcell W W3 (k := 13) (v := .int .i64 2) h3 r3 o3 (by simp) u3
  rw [hE]
  rw [setC_eq] at r4
  clear hE r3 o3 u3 h3 o4
  replace r1 := upr u4 r1
  replace r2 := upr u4 r2
  replace hB := upb u4 hB
  clear u4
  go_simp
  go_wp2_with fail
  refine ((cmpS_fn setA setB ⟨by decide, by decide⟩ ⟨by decide, by decide⟩).at_eq (u := .int .i64 1) (congrArg _ (show cmpS setA setB = 1 by kernel_rfl))).c fun m1 => ?_
  dsimp only
  go_wp2_with fail
  refine ((cmpS_fn setB setA ⟨by decide, by decide⟩ ⟨by decide, by decide⟩).at_eq (u := .int .i64 3) (congrArg _ (show cmpS setB setA = 3 by kernel_rfl))).c fun m1 => ?_
  dsimp only
  go_wp2_with fail
  refine ((cmpS_fn setA setC ⟨by decide, by decide⟩ ⟨by decide, by decide⟩).at_eq (u := .int .i64 1) (congrArg _ (show cmpS setA setC = 1 by kernel_rfl))).c fun m1 => ?_
  dsimp only
  go_wp2_with fail
  refine ((cmpS_fn setA setA ⟨by decide, by decide⟩ ⟨by decide, by decide⟩).at_eq (u := .int .i64 6) (congrArg _ (show cmpS setA setA = 6 by kernel_rfl))).c fun m1 => ?_
  dsimp only
  go_wp2_with fail
  refine cutc_new (B := sa setB ++ sa setA) (by kernel_rfl) fun W5 r5 _ u5 => ?_
  generalize (gr W4 m1).heap.size = b5 at *
  have hf := first_some [setB, setA] (by decide) (fun k hk => by
    match k, hk with
    | 0, _ => exact ⟨by decide, by decide⟩
    | 1, _ => exact ⟨by decide, by decide⟩) b5 0 2 (W := W5) (d := W5) (fun d k hk => by
    rw [r5]
    match k, hk with
    | 0, _ => exact ⟨by simp, by kernel_rfl⟩
    | 1, _ => exact ⟨by simp, by kernel_rfl⟩)
  rw [show firstI [setB, setA] = 1 by kernel_rfl] at hf
  refine hf.mono ?_
  rintro e w' ⟨rfl, d', rfl⟩
  replace hB := upb u5 hB
  clear hf r5 u5 r1 r2 r4
  go_wp2_with fail
  refine (turn_fn 2).c fun m1 => ?_
  dsimp only
  go_wp2
  go_ret
  exact ⟨rfl, by rw [← gr_self w]; exact hB _⟩
end Go.Proofs.Ytcjbopobgpfjlaa
