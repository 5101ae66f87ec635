/-
  What a clock says of itself; the law BestCompares: it answers true. No condition.
-/
import Derived.Test.YtcjbopobgpfjlaaBpE
import Derived.Test.YtcjbopobgpfjlaaRegT
import Derived.Test.YtcjbopobgpfjlaaRaI
namespace Go.Proofs.Ytcjbopobgpfjlaa
open Go.RowKit

def ownS (g : Clk) (x y z p q : Int) : Sett := ⟨p, q, x, y, z, g, 0, ⟨g, 0⟩, ⟨g, 0⟩⟩
@[go_sem] theorem bldPC (w : World) (g : Clk) : (bld 27 #[(0, .agg (ca g))]).run Try.prog w = .ok (.agg (pa ⟨g, 0⟩)) w := by
  obtain ⟨g, hg, rg⟩ := g
  obtain ⟨_, _, _, _, _, _, _, _, rfl⟩ := list8 hg
  exact run_bld w (by kernel_rfl)
@[go_sem] theorem bldOwn (w : World) (g : Clk) (x y z p q : Int) : (bld 29 #[(0, .int .i64 p), (1, .int .i64 q), (2, .agg #[.int .i64 x, .int .i64 y, .int .i64 z]), (3, .agg (ca g)), (5, .agg (pa ⟨g, 0⟩)), (6, .agg (pa ⟨g, 0⟩))]).run Try.prog w = .ok (.agg (sa (ownS g x y z p q))) w := by
  obtain ⟨g, hg, rg⟩ := g
  obtain ⟨_, _, _, _, _, _, _, _, rfl⟩ := list8 hg
  exact run_bld w (by kernel_rfl)
@[simp, go_sem] theorem cha_grand (c : Cho) : sub (cha c) 5 8 = ca c.s.g := by
  have h := sub_in (A := cha c) (o := 0) (n := 32) 5 8 (by omega)
  rw [cha_set, sa_grand] at h
  exact h.symm
@[simp, go_sem] theorem cha_qual (c : Cho) : sub (cha c) 2 3 = #[.int .i64 c.s.x, .int .i64 c.s.y, .int .i64 c.s.z] := by
  have h := sub_in (A := cha c) (o := 0) (n := 32) 2 3 (by omega)
  rw [cha_set, sa_qual] at h
  exact h.symm
@[go_sem] theorem qual_all (x y z : Int) : sub #[.int .i64 x, .int .i64 y, .int .i64 z] 0 3 = #[.int .i64 x, .int .i64 y, .int .i64 z] := sub_all _ _ (by simp)
@[go_sem] theorem stPrt (w : World) (b : Nat) (p : Prt) (h : (row? w b).size = 9) (ho : own? w b = true) : (stAt 27 (.pointer (some ⟨b, 0, none⟩)) (.agg (pa p))).run Try.prog w = .ok () (w.setRow b (pa p)) :=
  run_stAt_row siz27 w b _ (Array.all_eq_true_iff_forall_mem.2 (pa_oneCell p)) (by simp) h ho
@[go_sem high] theorem eqQual_self (d : Nat) (x y z : Int) (w : World) : (Op.equalIn (d + 2) 23 (.agg #[.int .i64 x, .int .i64 y, .int .i64 z]) (.agg #[.int .i64 x, .int .i64 y, .int .i64 z])).run Try.prog w = .ok true w := by
  rw [show d + 2 = (d + 1) + 1 from rfl, run_equalIn_agg w (d + 1) 23 _ _ (by kernel_rfl) (by kernel_rfl)]
  simp only [Program.fieldsOf, Try.underlying23]
  simp [go_sem]
@[go_sem high] theorem eqSet_self (d : Nat) (p : Sett) (w : World) : (Op.equalIn (d + 4) 29 (.agg (sa p)) (.agg (sa p))).run Try.prog w = .ok true w := by
  rw [show d + 4 = (d + 3) + 1 from rfl, run_equalIn_agg w (d + 3) 29 _ _ (by kernel_rfl) (by kernel_rfl)]
  simp only [Program.fieldsOf, Try.underlying29]
  have e1 : (sa p).extract 5 13 = ca p.g := sa_grand p
  have e2 : (sa p).extract 14 22 = ca p.s.c := sa_sclk p
  have e3 : (sa p).extract 23 31 = ca p.r.c := sa_rclk p
  simp [go_sem, e1, e2, e3]
set_option maxRecDepth 100000 in
set_option maxHeartbeats 1000000 in
theorem own_fg (g : Clk) (x y z p q : Int) : Fn Try.prog 32 #[.agg (ca g), .agg #[.int .i64 x, .int .i64 y, .int .i64 z], .int .i64 p, .int .i64 q] (.agg (sa (ownS g x y z p q))) := by
  intro w
  go_enter Try.func32, Try.ntmps32
  go_upto_region 1 with (fail)
  refine cut_box3 fun W g1 _ g2 _ g3 o3 _ hB => ?_
  replace g3 : ∀ d, row? (gr W d) (w.heap.size + 1 + 1) = sa zeroS := g3
  replace o3 : ∀ d, own? (gr W d) (w.heap.size + 1 + 1) = true := o3
  go_upto_region 2 with (fail)
  obtain ⟨W1, hE, r4, _, u1, _⟩ := newblk W W (pa zeroP) (pa ⟨g, 0⟩) 27 (by simp [pa])
  rw [hE]
  clear hE
  generalize (gr W W).heap.size = b1 at *
  replace g1 := upr u1 g1
  replace g2 := upr u1 g2
  replace g3 := upr u1 g3
  replace o3 := upo u1 o3
  have hB1 := upb u1 hB
  clear u1 hB
  have HB1_ := hid hB1
  clear hB1
  go_wp2
  obtain ⟨W2, hE, q2, _, b2⟩ := setb (w0 := w) (B := sa (ownS g x y z p q)) (by omega) (g3 W1) (o3 W1) (by simp) (HB1_.out W1)
  rw [hE]
  refine bodyPost_ret (results_c1 rfl rfl (by go_simp)) rfl ⟨rfl, b2⟩
set_option maxRecDepth 100000 in
set_option maxHeartbeats 1000000 in
theorem rown_fg (g : Clk) (x y z p q : Int) : Fn Try.prog 36 #[.agg (ca g), .agg #[.int .i64 x, .int .i64 y, .int .i64 z], .int .i64 p, .int .i64 q] (.agg (sa (ownS g x y z p q))) := by
  intro w
  go_enter Try.func36, Try.ntmps36
  go_upto_region 1 with (fail)
  refine cut_box3 fun W g1 _ g2 _ g3 o3 _ hB => ?_
  replace g3 : ∀ d, row? (gr W d) (w.heap.size + 1 + 1) = sa zeroS := g3
  replace o3 : ∀ d, own? (gr W d) (w.heap.size + 1 + 1) = true := o3
  have HB_ := hid hB
  clear hB
  go_wp2
  obtain ⟨W2, hE, q2, _, b2⟩ := setb (w0 := w) (B := sa (ownS g x y z p q)) (by omega) (g3 W) (o3 W) (by simp) (HB_.out W)
  rw [hE]
  refine bodyPost_ret (results_c1 rfl rfl (by go_simp)) rfl ⟨rfl, b2⟩
theorem less_anti {p q : Sett} (h : lessS p q = true) : lessS q p = false := by
  unfold lessS at *
  rw [cmpS_turn p q]
  simp only [Bool.or_eq_true, decide_eq_true_eq] at h
  rcases h with h | h <;> rw [h] <;> decide
theorem better_not (a b : Cho) : (betterC a b && betterC b a) = false := by
  unfold betterC
  cases h1 : lessS a.s b.s with
  | false => cases a.is <;> cases b.is <;> simp
  | true => rw [less_anti h1]; cases a.is <;> cases b.is <;> simp
set_option maxRecDepth 100000 in
set_option maxHeartbeats 4000000 in
theorem lbcmp_fn (a b : Cho) (ha : inR a.s.n) (hb : inR b.s.n) (x y : Int) : Fn Try.prog 14 #[.agg (cha a), .agg (cha b), .agg #[.int .i64 x, .int .i64 y]] (.bool true) := by
  intro w
  have f1 := better_fn a b ha hb
  have f2 := rbetter_fn a b ha hb
  have f3 := byWay_fn a b ha hb
  have f4 := rbyWay_fn a b ha hb
  have f5 := own_fg a.s.g a.s.x a.s.y a.s.z x y
  have f6 := rown_fg a.s.g a.s.x a.s.y a.s.z x y
  have f7 := better_fn b a hb ha
  have hn := better_not a b
  have q1 := cha_grand a
  have q2 := cha_qual a
  generalize betterC a b = v1 at *
  generalize betterC b a = v2 at *
  generalize byWayC a b = v3 at *
  generalize ownS a.s.g a.s.x a.s.y a.s.z x y = s1 at *
  clear ha hb
  have F1_ := hid f1
  clear f1
  have F2_ := hid f2
  clear f2
  have F3_ := hid f3
  clear f3
  have F4_ := hid f4
  clear f4
  have F5_ := hid f5
  clear f5
  have F6_ := hid f6
  clear f6
  have F7_ := hid f7
  clear f7
  have HN_ := hid hn
  clear hn
  go_enter Try.func14, Try.ntmps14
  go_wp2_with fail
  refine cut_box3 fun W g1 _ g2 _ g3 _ _ hB => ?_
  replace g3 : ∀ d, row? (gr W d) (w.heap.size + 1 + 1) = #[.int .i64 x, .int .i64 y] := g3
  refine wp_region_two W 2 (by kernel_rfl) (by kernel_rfl) (fun c a b w hd h => And.intro (hd.symm.trans (And.left h)) (And.right h)) ⟨_, rfl⟩ rfl rfl rfl rfl rfl rfl (by decide) rfl rfl rfl rfl rfl rfl (fun ρ w => by simp [go_sem]; rfl) (fun ρ w => by simp [go_sem]; rfl) (by simp) (by simp) ?_
  simp only [List.take_succ_cons, List.take_zero]
  repeat (go_big_quiet_step (fail))
  refine wpQuiet_nil ?_
  refine ⟨(cha a), (cha b), fun W1_ b_ c_ ht_ => ?_⟩
  have rb_ := ht_.rb
  have ob_ := ht_.ob
  have rc_ := ht_.rc
  have oc_ := ht_.oc
  have ne_ := ht_.ne
  refine ⟨by simp [go_sem, rb_, ob_], by simp [go_sem, rb_, rc_, oc_, Ne.symm ne_], fun X ht => ?_⟩
  clear rb_ ob_ rc_ oc_ ne_ ht_
  go_simp
  replace g1 := upr ht.up g1
  replace g2 := upr ht.up g2
  replace g3 := upr ht.up g3
  have hB := upb ht.up hB
  have r1 := ht.rb
  have r2 := ht.rc
  clear ht
  have HB_ := hid hB
  clear hB
  go_wp2_with fail
  refine F5_.out.c fun m => ?_
  dsimp only
  go_upto_region 3 with (fail)
  obtain ⟨W1, hE, r3, _, u1, _⟩ := newblk X m (sa zeroS) (sa s1) 29 (by simp)
  rw [hE]
  clear hE
  generalize (gr X m).heap.size = b9 at *
  replace g1 := upr u1 g1
  replace g2 := upr u1 g2
  replace g3 := upr u1 g3
  replace r1 := upr u1 r1
  replace r2 := upr u1 r2
  have hB := upb u1 HB_.out
  clear HB_ u1
  have HB_ := hid hB
  clear hB
  have hn := HN_.out
  clear HN_
  cases v1 with
  | false =>
    clear hn
    refine wp_region_gr W1 (by kernel_rfl) (by kernel_rfl) ⟨_, rfl⟩ ?_
    repeat (go_big_quiet_step ((first | (go_at_call 26; exact alive09_fn.q) | (go_at_call 31; first | with_reducible exact F1_.out.q | with_reducible exact F7_.out.q) | (go_at_call 33; exact F2_.out.q) | (go_at_call 34; exact F3_.out.q) | (go_at_call 35; exact F4_.out.q) | (go_at_call 36; exact F6_.out.q))))
    refine wpQuiet_nil ?_
    rintro _ ⟨z, rfl⟩
    go_wp2
    go_ret
    exact ⟨rfl, HB_.out _⟩
  | true =>
    obtain rfl : v2 = false := by simpa using hn
    clear hn
    refine wp_region_gr W1 (by kernel_rfl) (by kernel_rfl) ⟨_, rfl⟩ ?_
    repeat (go_big_quiet_step ((first | (go_at_call 26; exact alive09_fn.q) | (go_at_call 31; first | with_reducible exact F1_.out.q | with_reducible exact F7_.out.q) | (go_at_call 33; exact F2_.out.q) | (go_at_call 34; exact F3_.out.q) | (go_at_call 35; exact F4_.out.q) | (go_at_call 36; exact F6_.out.q))))
    refine wpQuiet_nil ?_
    rintro _ ⟨z, rfl⟩
    go_wp2
    go_ret
    exact ⟨rfl, HB_.out _⟩
end Go.Proofs.Ytcjbopobgpfjlaa
