/-
  The walk of the law IdentCards: it answers true. No condition.
-/
import Derived.Test.YtdamljmbnkdjfaaIdL
import Derived.Test.YtdamljmbnkdjfaaRegI
namespace Go.Proofs.Ytdamljmbnkdjfaa
open Go.RowKit

theorem mac_ext {m k : Mac} (h : m.l = k.l) : m = k := by cases m; cases k; cases h; rfl
instance : DecidableEq Mac := fun m k => if h : m.l = k.l then .isTrue (mac_ext h) else .isFalse (fun e => h (by rw [e]))
theorem list6 {l : List Int} (h : l.length = 6) : l = [l.getD 0 0, l.getD 1 0, l.getD 2 0, l.getD 3 0, l.getD 4 0, l.getD 5 0] := by
  match l, h with
  | [a, b, c, d, e, f], _ => rfl
theorem ofM_inj (m k : Mac) : ofM m = ofM k ↔ m = k := by
  constructor
  · intro h
    have h1 := congrArg Clk.l h
    simp only [ofM, List.cons.injEq, and_true, true_and] at h1
    obtain ⟨a, b, c, d, e, f⟩ := h1
    apply mac_ext
    rw [list6 m.h, list6 k.h, a, b, c, d, e, f]
  · intro h; rw [h]
theorem ofM_nz (m : Mac) : ofM m ≠ zeroC := by
  intro h
  have h1 := congrArg Clk.l h
  simp only [ofM, zeroC, List.cons.injEq] at h1
  have := h1.2.2.2.1
  omega
theorem ofM_3 (m : Mac) (h : 3 < (ca (ofM m)).size) : (ca (ofM m))[3]'h = .int .u8 255 := rfl
theorem ofM_4 (m : Mac) (h : 4 < (ca (ofM m)).size) : (ca (ofM m))[4]'h = .int .u8 254 := rfl
@[go_sem high] theorem eqMac (d : Nat) (x y : Mac) (w : World) : (Op.equalIn (d + 2) 29 (.agg (ma x)) (.agg (ma y))).run Try.prog w = .ok (decide (x = y)) w := by
  unfold ma
  rw [eqArr (P := Try.prog) (t := 29) (e := 5) (n := 6) Try.underlying29 (by kernel_rfl) (by kernel_rfl) (fun w => by kernel_rfl) Try.underlying5 d x.l y.l x.h y.h w]
  congr 1
  rw [decide_eq_decide]
  exact ⟨mac_ext, fun e => by rw [e]⟩

def CardsI (W : World) (B : Nat) (m k : Mac) (s : Array Bool) (a : Act) (w : World) : Prop :=
  s.size = 8 ∧ (∃ d, w = gr W d) ∧ ∃ v5 v6 v7 v8 v9 v10, a = { tmps := #[.agg (ma m), .agg (ma k), .pointer (some ⟨B, 0, none⟩), .pointer (some ⟨B + 1, 0, none⟩), .bool false, v5, v6, v7, v8, v9, v10, undef, undef, undef, undef, undef, undef, undef, undef, undef, undef, undef, undef, undef, undef, undef, undef, undef, undef, undef, undef, undef, undef, undef, undef, undef], defers := [] } ∧
    (has s 0 = true → v7 = .agg (ma m)) ∧ (has s 1 = true → v8 = .agg (ca (ofM m))) ∧ (has s 2 = true → v9 = .agg (ma k)) ∧ (has s 3 = true → v10 = .agg (ca (ofM k))) ∧
    (has s 4 = true → OwnN 8 W.heap.size w v5 fun c => has s 6 = true → c = ca (ofM m)) ∧ (has s 5 = true → OwnN 8 W.heap.size w v6 fun c => has s 7 = true → c = ca (ofM k)) ∧
    (has s 4 = true → has s 5 = true → v5 ≠ v6) ∧ (has s 6 = true → has s 4 = true) ∧ (has s 7 = true → has s 5 = true)

set_option maxRecDepth 100000 in
set_option maxHeartbeats 1600000 in
theorem cards_fn (m k : Mac) : Fn Try.prog 4 #[.agg (ma m), .agg (ma k)] (.bool true) := by
  intro w
  go_enter Try.func4, Try.ntmps4
  go_wp2
  refine cut_box2 fun W g1 _ g2 _ hz hB => ?_
  refine wp_region_inv (CardsI W w.heap.size m k) (by kernel_rfl) ?_ ?_ ?_
  · obtain ⟨d, hd⟩ := gr_drew W W
    exact ⟨rfl, ⟨d, hd⟩, undef, undef, undef, undef, undef, undef, rfl, by simp [has_none], by simp [has_none], by simp [has_none], by simp [has_none], by simp [has_none], by simp [has_none], by simp [has_none], by simp [has_none], by simp [has_none]⟩
  · intro s a w1 i hI hi
    obtain ⟨hs, ⟨d, rfl⟩, v5, v6, v7, v8, v9, v10, rfl, i0, i1, i2, i3, i4, i5, i6, c6, c7⟩ := hI
    obtain ⟨hun, o, ho, hdep⟩ := mem_ready.1 hi
    have hun' := getD_both hun
    have hi8 : i < 8 := by have := (Array.getElem?_eq_some_iff.1 ho).1; simpa using this
    have hst := has_set (s := s) (i := i) (by omega)
    have hWd := (gr_below W d).size
    match i, hi8 with
    | 0, _ =>
      obtain rfl := Option.some.inj ho
      refine wpOp_val rfl rfl (w' := gr W d) (v := .agg (ma m)) (by simp [go_sem, g1]) ?_
      refine ⟨by simp [hs], ⟨d, rfl⟩, v5, v6, _, v8, v9, v10, rfl, ?_⟩
      simp only [hst]
      simpa using ⟨i1, i2, i3, i4, i5, i6, c6, c7⟩
    | 1, _ =>
      obtain rfl := Option.some.inj ho
      have e := i0 (hdep ⟨0, .data⟩ (by simp) rfl)
      subst e
      refine wpOp_fn rfl rfl (by simp [go_sem]) (of_fn m) fun w' hb => ?_
      obtain ⟨d', rfl⟩ := gr_ext hb
      refine ⟨by simp [hs], ⟨d', rfl⟩, v5, v6, _, _, v9, v10, rfl, ?_⟩
      simp only [hst]
      simpa using ⟨i2, i3, fun h => (i4 h).up hb, fun h => (i5 h).up hb, i6, c6, c7⟩
    | 2, _ =>
      obtain rfl := Option.some.inj ho
      refine wpOp_val rfl rfl (w' := gr W d) (v := .agg (ma k)) (by simp [go_sem, g2]) ?_
      refine ⟨by simp [hs], ⟨d, rfl⟩, v5, v6, v7, v8, _, v10, rfl, ?_⟩
      simp only [hst]
      simpa using ⟨i0, i1, i3, i4, i5, i6, c6, c7⟩
    | 3, _ =>
      obtain rfl := Option.some.inj ho
      have e := i2 (hdep ⟨2, .data⟩ (by simp) rfl)
      subst e
      refine wpOp_fn rfl rfl (by simp [go_sem]) (of_fn k) fun w' hb => ?_
      obtain ⟨d', rfl⟩ := gr_ext hb
      refine ⟨by simp [hs], ⟨d', rfl⟩, v5, v6, v7, v8, _, _, rfl, ?_⟩
      simp only [hst]
      simpa using ⟨i0, i1, fun h => (i4 h).up hb, fun h => (i5 h).up hb, i6, c6, c7⟩
    | 4, _ =>
      obtain rfl := Option.some.inj ho
      refine wpOp_val rfl rfl (w' := (gr W d).alloc (.cells (ca zeroC) 23)) (v := .pointer (some ⟨(gr W d).heap.size, 0, none⟩)) (by simp [go_sem]) ?_
      have hb : Below (gr W d).heap.size (gr W d) ((gr W d).alloc (.cells (ca zeroC) 23)) := (Below.refl _ _).alloc (Nat.le_refl _) _
      have hun6 : has s 6 = false := by
        cases h : has s 6 with
        | false => rfl
        | true => rw [show s.getD 4 false = true from c6 h] at hun'; cases hun'
      refine ⟨by simp [hs], gr_ext hb, _, v6, v7, v8, v9, v10, rfl, ?_⟩
      simp only [hst]
      simpa using ⟨i0, i1, i2, i3, OwnN.new hWd (by simp) (by simp [hun6]), fun h => (i5 h).up hb, fun h => (by
        obtain ⟨b, e, _, hlt, _⟩ := i5 h
        rw [e]
        intro e2
        cases e2
        omega), c7⟩
    | 5, _ =>
      obtain rfl := Option.some.inj ho
      refine wpOp_val rfl rfl (w' := (gr W d).alloc (.cells (ca zeroC) 23)) (v := .pointer (some ⟨(gr W d).heap.size, 0, none⟩)) (by simp [go_sem]) ?_
      have hb : Below (gr W d).heap.size (gr W d) ((gr W d).alloc (.cells (ca zeroC) 23)) := (Below.refl _ _).alloc (Nat.le_refl _) _
      have hun7 : has s 7 = false := by
        cases h : has s 7 with
        | false => rfl
        | true => rw [show s.getD 5 false = true from c7 h] at hun'; cases hun'
      refine ⟨by simp [hs], gr_ext hb, v5, _, v7, v8, v9, v10, rfl, ?_⟩
      simp only [hst]
      simpa using ⟨i0, i1, i2, i3, fun h => (i4 h).up hb, OwnN.new hWd (by simp) (by simp [hun7]), fun h => (by
        obtain ⟨b, e, _, hlt, _⟩ := i4 h
        rw [e]
        intro e2
        cases e2
        omega), c6⟩
    | 6, _ =>
      obtain rfl := Option.some.inj ho
      have h4 : has s 4 = true := hdep ⟨4, .data⟩ (by simp) rfl
      have h5 : has s 5 = true := hdep ⟨5, .phase⟩ (by simp) rfl
      have e8 := i1 (hdep ⟨1, .data⟩ (by simp) rfl)
      subst e8
      obtain ⟨b, rfl, hlo, hlt, hown, hsz, _⟩ := i4 h4
      have hne : row? (gr W d) b ≠ #[] := by intro e; rw [e] at hsz; cases hsz
      refine wpOp_skip rfl rfl (w' := (gr W d).setRow b (ca (ofM m))) (by simp [go_sem, hsz, hown]) ?_
      refine ⟨by simp [hs], gr_ex (below_setRow (gr_below W d) hlo _), _, v6, v7, _, v9, v10, rfl, ?_⟩
      simp only [hst]
      simpa [h4, h5] using ⟨i0, i2, i3, (i4 h4).set (q := fun c => c = ca (ofM m)) (by simp) (by omega) rfl, (i5 h5).other (i6 h4 h5).symm _ hne, i6 h4 h5⟩
    | 7, _ =>
      obtain rfl := Option.some.inj ho
      have h4 : has s 4 = true := hdep ⟨4, .phase⟩ (by simp) rfl
      have h5 : has s 5 = true := hdep ⟨5, .data⟩ (by simp) rfl
      have h6 : has s 6 = true := hdep ⟨6, .chain⟩ (by simp) rfl
      have e10 := i3 (hdep ⟨3, .data⟩ (by simp) rfl)
      subst e10
      obtain ⟨b, rfl, hlo, hlt, hown, hsz, _⟩ := i5 h5
      have hne : row? (gr W d) b ≠ #[] := by intro e; rw [e] at hsz; cases hsz
      refine wpOp_skip rfl rfl (w' := (gr W d).setRow b (ca (ofM k))) (by simp [go_sem, hsz, hown]) ?_
      refine ⟨by simp [hs], gr_ex (below_setRow (gr_below W d) hlo _), v5, _, v7, v8, v9, _, rfl, ?_⟩
      simp only [hst]
      simpa [h4, h5, h6] using ⟨i0, i1, i2, ((i4 h4).weak fun c h => h h6).other (i6 h4 h5) _ hne, (i5 h5).set (q := fun c => c = ca (ofM k)) (by simp) (by omega) rfl, i6 h4 h5⟩
  · intro s a w1 hI hr
    obtain ⟨hs, ⟨d, rfl⟩, v5, v6, v7, v8, v9, v10, rfl, i0, i1, i2, i3, i4, i5, i6, c6, c7⟩ := hI
    have hall := all_up (by kernel_rfl) hs hr
    obtain ⟨b5, rfl, hlo5, hlt5, _, _, r5⟩ := i4 (hall 4 (by simp))
    obtain ⟨b6, rfl, hlo6, hlt6, _, _, r6⟩ := i5 (hall 5 (by simp))
    replace r5 := r5 (hall 6 (by simp))
    replace r6 := r6 (hall 7 (by simp))
    obtain rfl := i0 (hall 0 (by simp))
    obtain rfl := i1 (hall 1 (by simp))
    obtain rfl := i2 (hall 2 (by simp))
    obtain rfl := i3 (hall 3 (by simp))
    clear i0 i1 i2 i3 i4 i5 i6 c6 c7 hall hs hr
    have q5 := gr_row r5 hlt5
    have q6 := gr_row r6 hlt6
    have q1 := fun e => g1 e
    have u : ∀ e, ∃ e', gr (gr W d) e = gr W e' := gr_gr W d
    replace g1 := upr u g1
    replace g2 := upr u g2
    replace hB := upb u hB
    have hj := ofM_inj m k
    have hdj : decide (ofM m = ofM k) = decide (m = k) := decide_eq_decide.2 hj
    have hnz := decide_eq_false (ofM_nz m)
    have h3 := ofM_3 m
    have h4 := ofM_4 m
    clear u q1 hj r5 r6
    generalize gr W d = W1 at *
    rw [gr_self W1]
    go_wp2
    refine wp_region_gr W1 (by kernel_rfl) (by kernel_rfl) ⟨_, rfl⟩ ?_
    repeat (go_big_quiet_step ((first | (go_at_call 13; exact alive_fn.q) | (go_at_call 16; exact (zero_fn _).q))))
    refine wpQuiet_nil ?_
    rintro _ ⟨y, rfl⟩
    go_wp2
    go_ret
    exact ⟨rfl, hB _⟩
end Go.Proofs.Ytdamljmbnkdjfaa
