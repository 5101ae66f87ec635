/-
  The laws RankSteps, RankReceivers: each answers true. No condition.
-/
import Derived.Test.YtcjbopobgpfjlaaRaI
import Derived.Test.YtcjbopobgpfjlaaRegW
namespace Go.Proofs.Ytcjbopobgpfjlaa
open Go.RowKit

theorem pa_oneCell (c : Prt) : ∀ v ∈ (pa c), v.oneCell' = true := by
  intro v hv
  simp [pa, ca, cl] at hv
  rcases hv with ⟨n, _, rfl⟩ | rfl <;> rfl
@[go_sem] theorem stPrtP (w : World) (b off : Nat) (s : Prt) (h : off + 9 ≤ (row? w b).size) (ho : own? w b = true) : (stAt 27 (.pointer (some ⟨b, off, none⟩)) (.agg (pa s))).run Try.prog w = .ok () (w.setRow b (wrL (pa s).toList off (row? w b))) :=
  run_stAt_part siz27 w b off _ (pa_oneCell s) (by simp) h ho
theorem sa_setN (p : Sett) (n : Int) : (sa p).setIfInBounds 13 (.int .i64 n) = sa { p with n := n } := by
  unfold sa
  obtain ⟨l, hl, hr⟩ := p.g
  match l, hl with
  | [a, b, c, d, e, f, g, h], _ => simp [ca, cl]
theorem list8 {l : List Int} (h : l.length = 8) : ∃ a b c d e f g i, l = [a, b, c, d, e, f, g, i] := by
  match l, h with
  | [a, b, c, d, e, f, g, i], _ => exact ⟨a, b, c, d, e, f, g, i, rfl⟩
theorem sa_setS (p : Sett) (s : Prt) : wrL (pa s).toList 14 (sa p) = sa { p with s := s } := by
  obtain ⟨a, b, x, y, z, ⟨g, hg, rg⟩, n, ⟨⟨t, ht, rt⟩, tn⟩, ⟨⟨u, hu, ru⟩, un⟩⟩ := p
  obtain ⟨⟨v, hv, rv⟩, vn⟩ := s
  obtain ⟨_, _, _, _, _, _, _, _, rfl⟩ := list8 hg
  obtain ⟨_, _, _, _, _, _, _, _, rfl⟩ := list8 ht
  obtain ⟨_, _, _, _, _, _, _, _, rfl⟩ := list8 hu
  obtain ⟨_, _, _, _, _, _, _, _, rfl⟩ := list8 hv
  simp [sa, pa, ca, cl, wrL]
theorem sa_setR (p : Sett) (s : Prt) : wrL (pa s).toList 23 (sa p) = sa { p with r := s } := by
  obtain ⟨a, b, x, y, z, ⟨g, hg, rg⟩, n, ⟨⟨t, ht, rt⟩, tn⟩, ⟨⟨u, hu, ru⟩, un⟩⟩ := p
  obtain ⟨⟨v, hv, rv⟩, vn⟩ := s
  obtain ⟨_, _, _, _, _, _, _, _, rfl⟩ := list8 hg
  obtain ⟨_, _, _, _, _, _, _, _, rfl⟩ := list8 ht
  obtain ⟨_, _, _, _, _, _, _, _, rfl⟩ := list8 hu
  obtain ⟨_, _, _, _, _, _, _, _, rfl⟩ := list8 hv
  simp [sa, pa, ca, cl, wrL]
set_option maxHeartbeats 1600000 in
theorem steps_fn (p : Sett) (n : Int) (s : Prt) (hp : inR p.n) (hn : inR n) : Fn Try.prog 8 #[.agg (sa p), .int .i64 n, .agg (pa s)] (.bool true) := by
  intro w
  have hpp := hp
  obtain ⟨p1, p2⟩ := hpp
  by_cases a1 : p.n < 0
  · clear hn
    go_enter Try.func8, Try.ntmps8
    go_wp2_with fail
    refine cutc_box2 fun W g1 _ g2 _ _ hB => ?_
    refine alive7_fn.c fun m => ?_
    dsimp only
    go_wp2
    go_ret
    exact ⟨rfl, hB _⟩
  by_cases a2 : 1099511627776 < p.n
  · clear hn
    go_enter Try.func8, Try.ntmps8
    go_wp2_with fail
    refine cutc_box2 fun W g1 _ g2 _ _ hB => ?_
    refine alive7_fn.c fun m => ?_
    dsimp only
    go_wp2
    go_ret
    exact ⟨rfl, hB _⟩
  by_cases a3 : n < 0
  · clear hn
    go_enter Try.func8, Try.ntmps8
    go_wp2_with fail
    refine cutc_box2 fun W g1 _ g2 _ _ hB => ?_
    refine alive7_fn.c fun m => ?_
    dsimp only
    go_wp2
    go_ret
    exact ⟨rfl, hB _⟩
  by_cases a4 : 1099511627776 < n
  · clear hn
    go_enter Try.func8, Try.ntmps8
    go_wp2_with fail
    refine cutc_box2 fun W g1 _ g2 _ _ hB => ?_
    refine alive7_fn.c fun m => ?_
    dsimp only
    go_wp2
    go_ret
    exact ⟨rfl, hB _⟩
  by_cases a5 : n ≤ p.n + 1
  · clear hn
    go_enter Try.func8, Try.ntmps8
    go_wp2_with fail
    refine cutc_box2 fun W g1 _ g2 _ _ hB => ?_
    refine alive7_fn.c fun m => ?_
    dsimp only
    go_wp2
    go_ret
    exact ⟨rfl, hB _⟩
  have e1 : cmpS p { p with n := n, s := s } = 1 := by
    unfold cmpS wayI
    rw [if_pos rfl, if_neg (by show ¬ n < p.n; omega), if_pos (by show p.n < n; omega), if_pos (by show p.n < n - 1; omega)]
  have e2 : cmpS { p with n := n, s := s } p = 3 := by rw [cmpS_turn p, e1]; rfl
  have f1 := (cmpS_fn p { p with n := n, s := s } hp hn).at_eq (congrArg (Value.int .i64) e1)
  have f2 := (cmpS_fn { p with n := n, s := s } p hn hp).at_eq (congrArg (Value.int .i64) e2)
  clear e1 e2
  have F1_ := hid f1
  clear f1
  have F2_ := hid f2
  clear f2
  go_enter Try.func8, Try.ntmps8
  rw [gr_self w]
  go_wp2_with fail
  obtain ⟨W, e, ht⟩ := two_alloc w w (A := sa p) (B := pa s) (S := 29) (T := 27)
  have hs : (gr W W).heap.size = (gr w w).heap.size + 1 + 1 := by rw [← e]; simp
  have e2 : ((gr w w).alloc (.cells (sa p) 29)).heap.size = (gr w w).heap.size + 1 := by simp
  rw [e2] at ht
  rw [e, ← hs]
  have g1 := ht.rb
  have g2 := ht.rc
  have hB : ∀ d, Below w.heap.size w (gr W d) := fun d => by
    obtain ⟨d', e⟩ := ht.up d
    rw [e]
    exact gr_below w d'
  clear ht e e2 hs
  generalize (gr w w).heap.size = b1 at *
  have hw0 : Below W.heap.size W (((gr W W).alloc (.cells (sa zeroS) 29)).setRow (gr W W).heap.size (sa p)) := below_setRow ((gr_below W W).alloc (gr_below W W).size _) (gr_below W W).size _
  have hlo := (gr_below W W).size
  have r0 : row? (((gr W W).alloc (.cells (sa zeroS) 29)).setRow (gr W W).heap.size (sa p)) (gr W W).heap.size = sa p := by
    rw [row_setRow _ _ _ _ (by simp [row_alloc, rowOf]), if_pos rfl]
  have o0 : own? (((gr W W).alloc (.cells (sa zeroS) 29)).setRow (gr W W).heap.size (sa p)) (gr W W).heap.size = true := by
    rw [own_setRow, own_alloc, if_pos rfl]; rfl
  generalize (((gr W W).alloc (.cells (sa zeroS) 29)).setRow (gr W W).heap.size (sa p)) = w0 at *
  generalize (gr W W).heap.size = b3 at *
  refine wp_region_sels W [0, 2] [1] [3, 4, 5] (by kernel_rfl) (by kernel_rfl) (fun c a b w hd h => And.intro (hd.symm.trans (And.left h)) (And.right h)) hw0 rfl rfl ?_
  simp only [selL, List.filterMap_cons, List.filterMap_nil, List.getElem?_cons_zero, List.getElem?_cons_succ]
  refine (show wpQuiet _ _ _ _ [_, _] _ from ?_)
  repeat (go_big_quiet_step (fail))
  refine wpQuiet_nil ?_
  refine (show wpQuiet _ _ _ _ [_] _ from ?_)
  repeat (go_big_quiet_step (fail))
  refine wpQuiet_nil ?_
  intro w1 hw1 hr1 ho1 hz1
  have r1 : row? w1 b3 = sa p := by rw [hr1, r0]
  have o1 : own? w1 b3 = true := by rw [ho1, o0]
  refine wpRow_skip rfl rfl rfl (w' := w1.setCell ⟨b3, 13, none⟩ (.int .i64 n)) (by simp [go_sem, r1, o1]) (gr_ex (hw1.setCell hlo _)) ?_
  have hw2 : Below W.heap.size W (w1.setCell ⟨b3, 13, none⟩ (.int .i64 n)) := hw1.setCell hlo _
  have r2 : row? (w1.setCell ⟨b3, 13, none⟩ (.int .i64 n)) b3 = sa { p with n := n } := by rw [row_setCell, if_pos rfl, r1, sa_setN]
  have o2 : own? (w1.setCell ⟨b3, 13, none⟩ (.int .i64 n)) b3 = true := by rw [own_setCell, o1]
  generalize w1.setCell ⟨b3, 13, none⟩ (.int .i64 n) = w2 at *
  refine wpRow_val rfl rfl (v := .pointer (some ⟨b3, 14, none⟩)) (by simp [go_sem]) (gr_ex hw2) ?_
  refine wpRow_skip rfl rfl rfl (w' := w2.setRow b3 (sa { p with n := n, s := s })) (by simp [go_sem, r2, o2, sa_setS]) (gr_ex (below_setRow hw2 hlo _)) ?_
  have r3 : row? (w2.setRow b3 (sa { p with n := n, s := s })) b3 = sa { p with n := n, s := s } := by rw [row_setRow _ _ _ _ (by rw [r2]; simp), if_pos rfl]
  have o3 : own? (w2.setRow b3 (sa { p with n := n, s := s })) b3 = true := by rw [own_setRow, o2]
  obtain ⟨X, e, g3, _, u3⟩ := newW (below_setRow hw2 hlo _) r3 o3 (by simp)
  refine (show Exit.then _ _ _ _ _ from ?_)
  rw [e]
  clear e r3 o3 r2 o2 r1 o1 hw1 hw2 hr1 ho1 hz1 r0 o0 hw0 hlo
  replace g1 := upr u3 g1
  replace hB := upb u3 hB
  clear u3 g2
  go_simp
  go_wp2_with fail
  refine alive7_fn.c fun m => ?_
  dsimp only
  go_wp2_with fail
  refine F1_.out.c fun m => ?_
  dsimp only
  go_wp2_with fail
  refine F2_.out.c fun m => ?_
  dsimp only
  go_wp2
  go_ret
  exact ⟨rfl, by rw [← gr_self w]; exact hB _⟩
end Go.Proofs.Ytcjbopobgpfjlaa
