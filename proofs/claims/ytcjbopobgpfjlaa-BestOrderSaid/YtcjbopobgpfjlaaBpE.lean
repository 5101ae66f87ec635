/-
  The walk of alive (layer 9): it answers true. No condition.
-/
import Derived.Test.YtcjbopobgpfjlaaBpD
import Derived.Great.BuildSlice
namespace Go.Proofs.Ytcjbopobgpfjlaa
open Go.RowKit

theorem bport_fg (r : Prt) (xs : List Sett) (hl : xs.length ≤ 1000) (hR : ∀ k, k < xs.length → inR (xs.getD k zeroS).n) (a : Option Addr) (cap : Nat) {W : World} (hX : ∀ d, RowsIn sa zeroS 32 (gr W d) a xs) :
    Fg Try.prog 30 #[.slice a xs.length cap, .agg (pa r)] (.agg (cha (portB r xs))) W := .up fun d =>
  (bport_in r xs hl hR a cap (gr W d) (hX d)).mono fun _ _ ⟨he, hb⟩ => ⟨he, by
    obtain ⟨m, hm⟩ := gr_ex ((gr_below W d).trans (hb.mono (gr_below W d).size))
    exact ⟨m, hm⟩⟩
theorem up2 {W0 W1 W2 : World} (u2 : ∀ d, ∃ d', gr W2 d = gr W1 d') (u1 : ∀ d, ∃ d', gr W1 d = gr W0 d') : ∀ d, ∃ d', gr W2 d = gr W0 d' := fun d => by
  obtain ⟨x, hx⟩ := u2 d
  obtain ⟨y, hy⟩ := u1 x
  exact ⟨y, by rw [hx, hy]⟩
theorem newA (W0 m : World) (A : Array Value) (S : TypeId) : ∃ W1, (gr W0 m).alloc (.cells A S) = gr W1 W1 ∧ (∀ d, row? (gr W1 d) (gr W0 m).heap.size = A) ∧ (∀ d, own? (gr W1 d) (gr W0 m).heap.size = true) ∧ (∀ d, ∃ d', gr W1 d = gr W0 d') := by
  have hb : Below W0.heap.size W0 ((gr W0 m).alloc (.cells A S)) := (gr_below W0 m).alloc (gr_below W0 m).size _
  exact ⟨_, gr_self _, gr_row (by simp [row_alloc, rowOf]) (by simp), gr_own (by simp [own_alloc, ownOf]), fun d => gr_ex (hb.trans ((gr_below _ d).mono (by have := (gr_below W0 m).size; simp; omega)))⟩
theorem cutc_new {P : Program} {f : FuncId} {args : Array Value} {R : Ending → World → Prop} {W m : World} {A B : Array Value} {S : TypeId} (hAB : A = B)
    (h : ∀ W1, (∀ d, row? (gr W1 d) (gr W m).heap.size = B) → (∀ d, own? (gr W1 d) (gr W m).heap.size = true) → (∀ d, ∃ d', gr W1 d = gr W d') → Calls P f args (gr W1 W1) R) : Calls P f args ((gr W m).alloc (.cells A S)) R := by
  subst hAB
  obtain ⟨W1, e, h1, h2, h3⟩ := newA W m A S
  rw [e]
  exact h W1 h1 h2 h3
def c19' : Clk := ⟨[1, 0, 0, 0, 0, 0, 0, 0], rfl, by decide⟩
def prt29 : Prt := ⟨zeroC, 2⟩
def setA9 : Sett := ⟨3, 0, 0, 0, 0, c19', 0, zeroP, zeroP⟩
abbrev choA9 : Cho := ⟨setA9, true⟩
abbrev choB9 : Cho := ⟨rcv prt29 setA9, true⟩
@[go_sem] theorem bldC19' (w : World) : (bld 25 #[(0, .int .u8 1)]).run Try.prog w = .ok (.agg (ca c19')) w := run_bld w (by kernel_rfl)
@[go_sem] theorem bldZCh (w : World) : (bld 49 #[]).run Try.prog w = .ok (.agg (cha zeroCh)) w := run_bld w (by kernel_rfl)
@[go_sem] theorem bldP2 (w : World) : (bld 27 #[(1, .int .i64 2)]).run Try.prog w = .ok (.agg (pa prt29)) w := run_bld w (by kernel_rfl)
@[go_sem] theorem bldSA9 (w : World) : (bld 29 #[(0, .int .i64 3), (3, .agg (ca c19'))]).run Try.prog w = .ok (.agg (sa setA9)) w := run_bld w (by kernel_rfl)
theorem rows19 {W : World} {b : Nat} (h : ∀ d, row? (gr W d) b = sa setA9) : ∀ d, RowsIn sa zeroS 32 (gr W d) (some ⟨b, 0, none⟩) [setA9] := fun d => .inr ⟨b, 0, rfl, fun k hk => by
  rw [h]
  match k, hk with
  | 0, _ => exact ⟨by simp, by kernel_rfl⟩⟩
theorem rows39 {W : World} {b : Nat} (h : ∀ d, row? (gr W d) b = cha zeroCh ++ (cha choA9 ++ cha zeroCh)) : ∀ d, RowsIn cha zeroCh 33 (gr W d) (some ⟨b, 0, none⟩) [zeroCh, choA9, zeroCh] := fun d => .inr ⟨b, 0, rfl, fun k hk => by
  rw [h]
  match k, hk with
  | 0, _ => exact ⟨by simp, by kernel_rfl⟩
  | 1, _ => exact ⟨by simp, by kernel_rfl⟩
  | 2, _ => exact ⟨by simp, by kernel_rfl⟩⟩
theorem inR39 : ∀ k, k < [zeroCh, choA9, zeroCh].length → inR ([zeroCh, choA9, zeroCh].getD k zeroCh).s.n := fun k hk => by
  match k, hk with
  | 0, _ => exact ⟨by decide, by decide⟩
  | 1, _ => exact ⟨by decide, by decide⟩
  | 2, _ => exact ⟨by decide, by decide⟩
theorem inR19 : ∀ k, k < [setA9].length → inR ([setA9].getD k zeroS).n := fun k hk => by
  match k, hk with
  | 0, _ => exact ⟨by decide, by decide⟩
theorem fill3 (a b c : Cho) (cells : Array Value) (h : cells.size = 99) : Instr.fill (fun i => some (i * 33, 33)) cells [(0, .agg (cha a)), (1, .agg (cha b)), (2, .agg (cha c))] = some (cha a ++ cha b ++ cha c) := by
  have hc : ∀ c : Cho, (Value.agg (cha c)).cells = cha c := fun _ => rfl
  have := Great.fill_whole (s := 33) (by decide) [.agg (cha a), .agg (cha b), .agg (cha c)] cells (by intro v hv; simp at hv; rcases hv with rfl | rfl | rfl <;> rw [hc] <;> simp) (by simp [h])
  refine this.trans ?_
  congr 1
  apply Array.ext'
  simp [hc]
theorem run_bs3 (w : World) (a b c : Cho) : (Instr.buildSlice 44 3 #[(0, .agg (cha a)), (1, .agg (cha b)), (2, .agg (cha c))]).run Try.prog w = .ok (.slice (some ⟨w.heap.size, 0, none⟩) 3 3) (w.alloc (.cells (cha a ++ cha b ++ cha c) 49)) := by
  obtain ⟨i0, hi0, hz0, hz1, hz2⟩ := info_parts infoC
  refine run_buildSlice w 44 49 3 _ _ i0 (.agg (cha zeroCh)) (by kernel_rfl) hi0 hz0 (by rw [hz1]; decide) (by rw [hz1]; decide) ?_
  rw [hz1]
  exact fill3 a b c _ (Array.size_map.trans Array.size_range)
theorem fill1 (a : Sett) (cells : Array Value) (h : cells.size = 32) : Instr.fill (fun i => some (i * 32, 32)) cells [(0, .agg (sa a))] = some (sa a) := by
  have hc : ∀ c : Sett, (Value.agg (sa c)).cells = sa c := fun _ => rfl
  have := Great.fill_whole (s := 32) (by decide) [.agg (sa a)] cells (by intro v hv; simp at hv; rw [hv, hc]; simp) (by simp [h])
  refine this.trans ?_
  congr 1
  apply Array.ext'
  simp [hc]
theorem run_bs1 (w : World) (a : Sett) : (Instr.buildSlice 35 1 #[(0, .agg (sa a))]).run Try.prog w = .ok (.slice (some ⟨w.heap.size, 0, none⟩) 1 1) (w.alloc (.cells (sa a) 29)) := by
  obtain ⟨i0, hi0, hz0, hz1, hz2⟩ := info_parts infoS
  refine run_buildSlice w 35 29 1 _ _ i0 (.agg (sa zeroS)) (by kernel_rfl) hi0 hz0 (by rw [hz1]; decide) (by rw [hz1]; decide) ?_
  rw [hz1]
  exact fill1 a _ (Array.size_map.trans Array.size_range)
theorem choB_num : (cha choB9)[31]? = some (.int .i64 2) := by kernel_rfl
@[go_sem] theorem choB_31 (h : 31 < (cha choB9).size) : (cha choB9)[31]'h = .int .i64 2 := at_of choB_num h
attribute [-go_sem] Instr.buildSlice
attribute [local go_sem] run_bs3 run_bs1
set_option maxRecDepth 100000 in
set_option maxHeartbeats 1600000 in
theorem alive09_fn : Fn Try.prog 26 #[] (.bool true) := by
  intro w
  obtain ⟨i0, hi0, hz0, hz1, hz2⟩ := info_parts infoC
  go_enter Try.func26, Try.ntmps26
  rw [gr_self w]
  go_upto_region 2 with (fail)
  obtain ⟨W1, hE, r1, _, u1, _⟩ := newblk w w (cha zeroCh) (cha choA9) 49 (by simp)
  rw [hE]
  clear hE
  generalize (gr w w).heap.size = b1 at *
  have u := u1
  clear u1
  have U_ := hid u
  clear u
  go_wp2_with fail
  refine cutc_new (B := sa setA9) rfl fun W3 r3 _ u3 => ?_
  generalize (gr W1 W1).heap.size = b3 at *
  refine ((bport_fg prt29 [setA9] (by decide) inR19 _ _ (rows19 r3)).at_eq (u := .agg (cha choB9)) (congrArg _ (show cha (portB prt29 [setA9]) = cha choB9 by kernel_rfl))).c fun m => ?_
  dsimp only
  replace r1 := upr u3 r1
  have u := up2 u3 U_.out
  clear U_ u3 r3
  have U_ := hid u
  clear u
  go_upto_region 3 with (fail)
  obtain ⟨W2, hE, r2, _, u2, _⟩ := newblk W3 m (cha zeroCh) (cha choB9) 49 (by simp)
  rw [hE]
  clear hE
  generalize (gr W3 m).heap.size = b2 at *
  replace r1 := upr u2 r1
  have u := up2 u2 U_.out
  clear U_ u2
  have U_ := hid u
  clear u
  go_wp2_with fail
  refine cutc_new (B := cha zeroCh ++ (cha choA9 ++ cha zeroCh)) rfl fun W4 r4 _ u4 => ?_
  generalize (gr W2 W2).heap.size = b4 at *
  refine ((all_fn [zeroCh, choA9, zeroCh] (by decide) inR39 _ _ (rows39 r4)).at_eq (u := .int .i64 1) (congrArg _ (show allC [zeroCh, choA9, zeroCh] = 1 by kernel_rfl))).c fun m => ?_
  dsimp only
  replace r1 := upr u4 r1
  replace r2 := upr u4 r2
  have u := up2 u4 U_.out
  clear U_ u4 r4
  have U_ := hid u
  clear u
  go_wp2_with fail
  refine ((all_fn [] (by decide) (fun k h => absurd h (by simp)) none 0 (fun d => .inl rfl)).at_eq (u := .int .i64 (-1)) (congrArg _ (show allC [] = -1 by kernel_rfl))).c fun m => ?_
  dsimp only
  go_wp2_with fail
  refine (better_fn choA9 zeroCh ⟨by decide, by decide⟩ ⟨by decide, by decide⟩).c fun m => ?_
  rw [show betterC choA9 zeroCh = true by kernel_rfl]
  go_wp2_with fail
  refine (better_fn zeroCh choA9 ⟨by decide, by decide⟩ ⟨by decide, by decide⟩).c fun m => ?_
  rw [show betterC zeroCh choA9 = false by kernel_rfl]
  go_wp2
  go_ret
  refine ⟨rfl, ?_⟩
  obtain ⟨y, hy⟩ := U_.out m
  rw [hy, ← gr_self w]
  exact gr_below w y
end Go.Proofs.Ytcjbopobgpfjlaa
