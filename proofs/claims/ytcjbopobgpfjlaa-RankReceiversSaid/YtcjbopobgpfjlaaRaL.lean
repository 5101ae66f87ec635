/-
  The law RankReceivers: it answers true. No condition.
-/
import Derived.Test.YtcjbopobgpfjlaaRaK
namespace Go.Proofs.Ytcjbopobgpfjlaa
open Go.RowKit

def xa (x y : Prt) : Array Value := pa x ++ pa y
@[simp, go_sem] theorem xa_size (x y : Prt) : (xa x y).size = 18 := by simp [xa]
@[simp, go_sem] theorem xa_ne (x y : Prt) : xa x y ≠ #[] := fun e => by have := xa_size x y; rw [e] at this; cases this
@[simp, go_sem] theorem xa_0 (x y : Prt) : sub (xa x y) 0 9 = pa x := by
  have : xa x y = #[] ++ pa x ++ pa y := by simp [xa]
  rw [this]
  exact sub_mid rfl (by simp)
@[simp, go_sem] theorem xa_9 (x y : Prt) : sub (xa x y) 9 9 = pa y := by
  have : xa x y = pa x ++ pa y ++ #[] := by simp [xa]
  rw [this]
  exact sub_mid (by simp) (by simp)
theorem Two.newW {W0 W w : World} {b c : Nat} {A B A' B' : Array Value} (h : Two W0 W b c A B) (hb : Below W0.heap.size W0 w) (hr : row? w b = A') (ho : own? w b = true) (hrc : row? w c = B') (hoc : own? w c = true) (hA : A' ≠ #[]) (hC : B' ≠ #[]) :
    ∃ W1, w = gr W1 W1 ∧ Two W0 W1 b c A' B' :=
  ⟨w, gr_self w, h.ne, h.lb, h.lc, gr_row hr (row_lt (by rw [hr]; exact hA)), gr_own ho, gr_row hrc (row_lt (by rw [hrc]; exact hC)), gr_own hoc, fun d => gr_ex (hb.trans ((gr_below w d).mono hb.size))⟩
theorem Two.below {W0 W : World} {b c : Nat} {A B : Array Value} (h : Two W0 W b c A B) (d : World) : Below W0.heap.size W0 (gr W d) := by
  obtain ⟨d', e⟩ := h.up d
  rw [e]
  exact gr_below W0 d'
/-- What is known of a world on the way through a chain of stores into the block b. -/
structure St (W0 w : World) (b c : Nat) (A B : Array Value) : Prop where
  bel : Below W0.heap.size W0 w
  lb : W0.heap.size ≤ b
  ne : c ≠ b
  r : row? w b = A
  o : own? w b = true
  rc : row? w c = B
  oc : own? w c = true
theorem St.ext {W0 w : World} {b c : Nat} {A B : Array Value} (h : St W0 w b c A B) : ∃ d, w = gr W0 d := gr_ex h.bel
theorem St.cell {W0 w : World} {b c : Nat} {A B : Array Value} (h : St W0 w b c A B) (k : Nat) (v : Value) {A' : Array Value} (hA : A.setIfInBounds k v = A') : St W0 (w.setCell ⟨b, k, none⟩ v) b c A' B :=
  ⟨h.bel.setCell h.lb _, h.lb, h.ne, by rw [row_setCell, if_pos rfl, h.r, hA], by rw [own_setCell, h.o], by rw [row_setCell, if_neg h.ne, h.rc], by rw [own_setCell, h.oc]⟩
theorem St.row {W0 w : World} {b c : Nat} {A B : Array Value} (h : St W0 w b c A B) (hA : A ≠ #[]) (A' : Array Value) : St W0 (w.setRow b A') b c A' B := by
  have hne : row? w b ≠ #[] := by rw [h.r]; exact hA
  exact ⟨below_setRow h.bel h.lb _, h.lb, h.ne, by rw [row_setRow _ _ _ _ hne, if_pos rfl], by rw [own_setRow, h.o], by rw [row_setRow _ _ _ _ hne, if_neg h.ne, h.rc], by rw [own_setRow, h.oc]⟩
theorem Two.st {W0 W : World} {b c : Nat} {A B : Array Value} (h : Two W0 W b c A B) (d : World) : St W0 (gr W d) b c A B := ⟨h.below d, h.lb, h.ne.symm, h.rb d, h.ob d, h.rc d, h.oc d⟩
theorem St.same {W0 w w1 : World} {b c : Nat} {A B : Array Value} (h : St W0 w b c A B) (hb : Below W0.heap.size W0 w1) (hr : ∀ b, row? w1 b = row? w b) (ho : ∀ b, own? w1 b = own? w b) : St W0 w1 b c A B :=
  ⟨hb, h.lb, h.ne, by rw [hr, h.r], by rw [ho, h.o], by rw [hr, h.rc], by rw [ho, h.oc]⟩
theorem St.two {W0 w : World} {b c : Nat} {A B : Array Value} (h : St W0 w b c A B) (lc : W0.heap.size ≤ c) (hA : A ≠ #[]) (hC : B ≠ #[]) : ∃ W1, w = gr W1 W1 ∧ Two W0 W1 b c A B :=
  ⟨w, gr_self w, h.ne.symm, h.lb, lc, gr_row h.r (row_lt (by rw [h.r]; exact hA)), gr_own h.o, gr_row h.rc (row_lt (by rw [h.rc]; exact hC)), gr_own h.oc, fun d => gr_ex (h.bel.trans ((gr_below w d).mono h.bel.size))⟩
set_option maxHeartbeats 1600000 in
theorem receivers_fn (p q : Sett) (x y : Prt) (hp : inR p.n) (hq : inR q.n) : Fn Try.prog 10 #[.agg (sa p), .agg (sa q), .agg (xa x y)] (.bool true) := by
  intro w
  by_cases h : p.g = q.g
  · clear hp hq
    go_enter Try.func10, Try.ntmps10
    go_wp2_with fail
    refine cutc_box3 fun W g1 _ g2 _ g3 _ _ hB => ?_
    refine alive7_fn.c fun m => ?_
    dsimp only
    go_wp2
    go_ret
    exact ⟨rfl, hB _⟩
  · have f1 := cmpS_fn p q hp hq
    have f2 := (cmpS_fn { p with r := x, s := y, n := q.n } { q with r := y, s := x, n := p.n } hq hp).at_eq (u := .int .i64 (cmpS p q)) (congrArg (Value.int .i64) (by
      unfold cmpS
      rw [if_neg h, if_neg h]
      rfl))
    generalize cmpS p q = v at *
    clear hp hq
    have F1_ := hid f1
    clear f1
    have F2_ := hid f2
    clear f2
    go_enter Try.func10, Try.ntmps10
    go_wp2_with fail
    refine cut_box3 fun W g1 _ g2 _ g3 _ _ hB => ?_
    replace g3 : ∀ d, row? (gr W d) (w.heap.size + 1 + 1) = xa x y := g3
    refine wp_region_two W 2 (by kernel_rfl) (by kernel_rfl) (fun c a b w hd h => And.intro (hd.symm.trans (And.left h)) (And.right h)) ⟨_, rfl⟩ rfl rfl rfl rfl rfl rfl (by decide) rfl rfl rfl rfl rfl rfl (fun ρ w => by simp [go_sem]; rfl) (fun ρ w => by simp [go_sem]; rfl) (by simp) (by simp) ?_
    simp only [List.take_succ_cons, List.take_zero]
    repeat (go_big_quiet_step (fail))
    refine wpQuiet_nil ?_
    refine ⟨(sa p), (sa q), fun W1_ b_ c_ ht_ => ?_⟩
    have rb_ := ht_.rb
    have ob_ := ht_.ob
    have rc_ := ht_.rc
    have oc_ := ht_.oc
    have ne_ := ht_.ne
    refine ⟨by simp [go_sem, rb_, ob_], by simp [go_sem, rb_, rc_, oc_, Ne.symm ne_], fun X ht => ?_⟩
    clear rb_ ob_ rc_ oc_ ne_ ht_
    go_simp
    go_wp2_with fail
    have st := ht.st X
    have hlc := ht.lc
    clear ht
    generalize gr X X = w0 at *
    refine wp_region_sels W [0, 2, 4] [1, 3, 5] [6, 7, 8, 9, 10, 11] (by kernel_rfl) (by kernel_rfl) (fun c a b w hd h => And.intro (hd.symm.trans (And.left h)) (And.right h)) st.bel rfl rfl ?_
    simp only [selL, List.filterMap_cons, List.filterMap_nil, List.getElem?_cons_zero, List.getElem?_cons_succ]
    refine (show wpQuiet _ _ _ _ [_, _, _] _ from ?_)
    repeat (go_big_quiet_step (fail))
    refine wpQuiet_nil ?_
    refine (show wpQuiet _ _ _ _ [_, _, _] _ from ?_)
    repeat (go_big_quiet_step (fail))
    refine wpQuiet_nil ?_
    intro w1 hw1 hr1 ho1 hz1
    replace st := st.same hw1 hr1 ho1
    clear hw1 hr1 ho1 hz1
    refine wpRow_val rfl rfl (v := .pointer (some ⟨b_, 23, none⟩)) (by simp [go_sem]) st.ext ?_
    have s2 := st.row (by simp) (sa { p with r := x })
    refine wpRow_skip rfl rfl rfl (w' := w1.setRow b_ (sa { p with r := x })) (by simp [go_sem, st.r, st.o, sa_setR]) s2.ext ?_
    clear st
    generalize w1.setRow b_ (sa { p with r := x }) = w2 at *
    refine wpRow_val rfl rfl (v := .pointer (some ⟨b_, 14, none⟩)) (by simp [go_sem]) s2.ext ?_
    have s3 := s2.row (by simp) (sa { p with r := x, s := y })
    refine wpRow_skip rfl rfl rfl (w' := w2.setRow b_ (sa { p with r := x, s := y })) (by simp [go_sem, s2.r, s2.o, sa_setS]) s3.ext ?_
    clear s2
    generalize w2.setRow b_ (sa { p with r := x, s := y }) = w3 at *
    refine wpRow_val rfl rfl (v := .pointer (some ⟨b_, 13, none⟩)) (by simp [go_sem]) s3.ext ?_
    have s4 := s3.cell 13 (.int .i64 q.n) (sa_setN _ _)
    refine wpRow_skip rfl rfl rfl (w' := w3.setCell ⟨b_, 13, none⟩ (.int .i64 q.n)) (by simp [go_sem, s3.r, s3.o]) s4.ext ?_
    clear s3
    generalize w3.setCell ⟨b_, 13, none⟩ (.int .i64 q.n) = w4 at *
    obtain ⟨Y, e, ht⟩ := s4.two hlc (by simp) (by simp)
    refine (show Exit.then _ _ _ _ _ from ?_)
    subst e
    clear s4
    go_simp
    go_wp2_with fail
    have st := ht.swap.st Y
    have hlb := ht.lb
    clear ht
    generalize gr Y Y = w0 at *
    refine wp_region_sels W [0, 2, 4] [1, 3, 5] [6, 7, 8, 9, 10, 11] (by kernel_rfl) (by kernel_rfl) (fun c a b w hd h => And.intro (hd.symm.trans (And.left h)) (And.right h)) st.bel rfl rfl ?_
    simp only [selL, List.filterMap_cons, List.filterMap_nil, List.getElem?_cons_zero, List.getElem?_cons_succ]
    refine (show wpQuiet _ _ _ _ [_, _, _] _ from ?_)
    repeat (go_big_quiet_step (fail))
    refine wpQuiet_nil ?_
    refine (show wpQuiet _ _ _ _ [_, _, _] _ from ?_)
    repeat (go_big_quiet_step (fail))
    refine wpQuiet_nil ?_
    intro w1 hw1 hr1 ho1 hz1
    replace st := st.same hw1 hr1 ho1
    clear hw1 hr1 ho1 hz1
    refine wpRow_val rfl rfl (v := .pointer (some ⟨c_, 23, none⟩)) (by simp [go_sem]) st.ext ?_
    have s2 := st.row (by simp) (sa { q with r := y })
    refine wpRow_skip rfl rfl rfl (w' := w1.setRow c_ (sa { q with r := y })) (by simp [go_sem, st.r, st.o, sa_setR]) s2.ext ?_
    clear st
    generalize w1.setRow c_ (sa { q with r := y }) = w2 at *
    refine wpRow_val rfl rfl (v := .pointer (some ⟨c_, 14, none⟩)) (by simp [go_sem]) s2.ext ?_
    have s3 := s2.row (by simp) (sa { q with r := y, s := x })
    refine wpRow_skip rfl rfl rfl (w' := w2.setRow c_ (sa { q with r := y, s := x })) (by simp [go_sem, s2.r, s2.o, sa_setS]) s3.ext ?_
    clear s2
    generalize w2.setRow c_ (sa { q with r := y, s := x }) = w3 at *
    refine wpRow_val rfl rfl (v := .pointer (some ⟨c_, 13, none⟩)) (by simp [go_sem]) s3.ext ?_
    have s4 := s3.cell 13 (.int .i64 p.n) (sa_setN _ _)
    refine wpRow_skip rfl rfl rfl (w' := w3.setCell ⟨c_, 13, none⟩ (.int .i64 p.n)) (by simp [go_sem, s3.r, s3.o]) s4.ext ?_
    clear s3
    generalize w3.setCell ⟨c_, 13, none⟩ (.int .i64 p.n) = w4 at *
    obtain ⟨Z, e, ht⟩ := s4.two hlb (by simp) (by simp)
    refine (show Exit.then _ _ _ _ _ from ?_)
    subst e
    clear s4
    replace g1 := upr ht.up g1
    replace g2 := upr ht.up g2
    replace hB := upb ht.up hB
    have rb := ht.rb
    have rc := ht.rc
    clear ht hlc hlb g3
    go_simp
    go_wp2_with fail
    refine wp_region_gr Z (by kernel_rfl) (by kernel_rfl) ⟨_, rfl⟩ ?_
    repeat (go_big_quiet_step ((first | (go_at_call 15; exact alive7_fn.q) | (go_at_call 16; first | with_reducible exact F1_.out.q | with_reducible exact F2_.out.q))))
    refine wpQuiet_nil ?_
    rintro _ ⟨z, rfl⟩
    go_wp2
    go_ret
    exact ⟨rfl, hB _⟩
end Go.Proofs.Ytcjbopobgpfjlaa
