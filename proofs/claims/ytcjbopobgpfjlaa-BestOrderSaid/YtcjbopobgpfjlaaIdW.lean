/-
  The walks of cmp.Compare, cmp.Or, ident.Compare, ident.Ports, ident.Zero: each hands back what the plain functions say. No condition.
-/
import Derived.Test.YtcjbopobgpfjlaaIdA
import Derived.Test.YtcjbopobgpfjlaaProg
namespace Go.Proofs.Ytcjbopobgpfjlaa
open Go.RowKit

theorem agg25 (w : World) : (isAgg 25).run Try.prog w = .ok true w := by kernel_rfl
theorem siz25 (w : World) : (sizeOf 25).run Try.prog w = .ok 8 w := by kernel_rfl
theorem agg27 (w : World) : (isAgg 27).run Try.prog w = .ok true w := by kernel_rfl
theorem siz27 (w : World) : (sizeOf 27).run Try.prog w = .ok 9 w := by kernel_rfl
@[go_sem] theorem ldClk (w : World) (b off : Nat) (h : off + 8 ≤ (row? w b).size) : (ldAt 25 (.pointer (some ⟨b, off, none⟩))).run Try.prog w = .ok (.agg (sub (row? w b) off 8)) w := run_ldAt_agg agg25 siz25 w b off h
@[go_sem] theorem ldPrt (w : World) (b off : Nat) (h : off + 9 ≤ (row? w b).size) : (ldAt 27 (.pointer (some ⟨b, off, none⟩))).run Try.prog w = .ok (.agg (sub (row? w b) off 9)) w := run_ldAt_agg agg27 siz27 w b off h

@[go_sem high] theorem eqClk (d : Nat) (x y : Clk) (w : World) : (Op.equalIn (d + 2) 25 (.agg (ca x)) (.agg (ca y))).run Try.prog w = .ok (decide (x = y)) w := by
  unfold ca
  rw [eqArr (P := Try.prog) (t := 25) (e := 5) (n := 8) Try.underlying25 (by kernel_rfl) (by kernel_rfl) (fun w => by kernel_rfl) Try.underlying5 d x.l y.l x.h y.h w, clk_dec]
@[go_sem high] theorem eqPrt (d : Nat) (p q : Prt) (w : World) : (Op.equalIn (d + 3) 27 (.agg (pa p)) (.agg (pa q))).run Try.prog w = .ok (decide (p = q)) w := by
  rw [show d + 3 = (d + 2) + 1 from rfl, run_equalIn_agg w (d + 2) 27 _ _ (by kernel_rfl) (by kernel_rfl), prt_dec]
  simp only [Program.fieldsOf, Try.underlying27]
  by_cases h : p.c = q.c <;> by_cases h2 : p.n = q.n <;> simp [go_sem, h, h2]
theorem ixClk (c : Clk) (k : Nat) (hk : k < 8) (w : World) : (Instr.index 25 (.agg (ca c)) (.int .i64 k)).run Try.prog w = .ok (.int .u8 (c.l.getD k 0)) w := by
  unfold Instr.index
  have h1 : (sizeOf 5).run Try.prog w = .ok 1 w := by kernel_rfl
  have h2 := part_cl (P := Try.prog) (e := 5) (fun w => by kernel_rfl) w c.l k (by rw [c.h]; exact hk)
  simp [Sem.run_bind, asIntOf, Try.underlying25, run_underlying, h1, hk, ca]
  simpa using h2
@[go_sem] theorem zeroC_lit : (Value.agg #[.int .u8 0, .int .u8 0, .int .u8 0, .int .u8 0, .int .u8 0, .int .u8 0, .int .u8 0, .int .u8 0]) = .agg (ca zeroC) := rfl
@[go_sem] theorem zeroP_lit : (Value.agg #[.int .u8 0, .int .u8 0, .int .u8 0, .int .u8 0, .int .u8 0, .int .u8 0, .int .u8 0, .int .u8 0, .int .i64 0]) = .agg (pa zeroP) := rfl

@[go_sem] theorem bldC (w : World) : (bld 25 #[]).run Try.prog w = .ok (.agg (ca zeroC)) w := run_bld w (by kernel_rfl)
@[go_sem] theorem bldP (w : World) : (bld 27 #[]).run Try.prog w = .ok (.agg (pa zeroP)) w := run_bld w (by kernel_rfl)

theorem nanB (a : Int) : Fn Try.prog 53 #[.int .u8 a] (.bool false) := by
  intro w
  go_enter Try.func53, Try.ntmps53
  go_wp2
  go_ret
  exact ⟨rfl, Below.refl _ _⟩
theorem nanI (a : Int) : Fn Try.prog 49 #[.int .i64 a] (.bool false) := by
  intro w
  go_enter Try.func49, Try.ntmps49
  go_wp2
  go_ret
  exact ⟨rfl, Below.refl _ _⟩
theorem cmpB_fn (a b : Int) : Fn Try.prog 50 #[.int .u8 a, .int .u8 b] (.int .i64 (cmpI a b)) := by
  intro w
  rw [gr_self w]
  unfold cmpI
  go_enter Try.func50, Try.ntmps50
  go_wp2_with (go_at_call 53; refine (nanB _).c fun m => ?_)
  all_goals (go_ret; exact ⟨ret_int (by simp_all), by rw [← gr_self]; exact gr_below _ _⟩)
theorem cmpI_fn (a b : Int) : Fn Try.prog 41 #[.int .i64 a, .int .i64 b] (.int .i64 (cmpI a b)) := by
  intro w
  rw [gr_self w]
  unfold cmpI
  go_enter Try.func41, Try.ntmps41
  go_wp2_with (go_at_call 49; refine (nanI _).c fun m => ?_)
  all_goals (go_ret; exact ⟨ret_int (by simp_all), by rw [← gr_self]; exact gr_below _ _⟩)

set_option maxHeartbeats 400000 in
theorem cmpC_fn (c d : Clk) : Fn Try.prog 42 #[.agg (ca c), .agg (ca d)] (.int .i64 (cmpC c d)) := by
  intro w
  go_enter Try.func42, Try.ntmps42
  go_wp2
  refine cut_box2 fun W g1 _ g2 _ hz hB => ?_
  go_loopw [6] (fun i wr => ∃ (k : Nat) (x : World), k ≤ 8 ∧ i = .int .i64 k ∧ cmpL (c.l.drop k) (d.l.drop k) = cmpC c d ∧ wr = gr W x) (fun i _ => 8 - (intOf i).toNat)
  case atStart => exact ⟨0, W, by omega, rfl, by simp [cmpC], rfl⟩
  case round =>
    obtain ⟨k, x, hk, rfl, hcmp, rfl⟩ := hrel
    by_cases hlt : k < 8
    · have hs := cmpC_drop c d k hlt
      rw [hcmp] at hs
      have HS := hid hs
      clear hs hcmp
      have d1 := fun h => ca_at c (k := k) h
      have d2 := fun h => ca_at d (k := k) h
      generalize c.l.getD k 0 = a at *
      generalize d.l.getD k 0 = b at *
      by_cases he : a = b
      · subst he
        have hne : (a != a) = false := by simp
        go_wp2
        refine wp_region_gr W (by kernel_rfl) (by kernel_rfl) ⟨_, rfl⟩ ?_
        repeat (go_big_quiet_step (fail))
        refine wpQuiet_nil ?_
        rintro _ ⟨y, rfl⟩
        go_wp2
        go_roundw
        case rel => exact ⟨k+1, _, by omega, by go_num, by rw [HS.out]; simp, rfl⟩
        case measure => simp [intOf]; omega
      · have hne : (a != b) = true := by simpa using he
        have HE := hid he
        clear he
        go_wp2
        refine wp_region_gr W (by kernel_rfl) (by kernel_rfl) ⟨_, rfl⟩ ?_
        repeat (go_big_quiet_step (fail))
        refine wpQuiet_nil ?_
        rintro _ ⟨y, rfl⟩
        go_wp2
        refine wp_region_gr W (by kernel_rfl) (by kernel_rfl) ⟨_, rfl⟩ ?_
        repeat (go_big_quiet_step ((go_at_call 50; exact (cmpB_fn _ _).q)))
        refine wpQuiet_nil ?_
        rintro _ ⟨z, rfl⟩
        go_wp2
        go_ret
        exact ⟨ret_int (by rw [HS.out, if_neg HE.out]), hB _⟩
    · have hk8 : k = 8 := by omega
      subst hk8
      have HC := hid hcmp
      clear hcmp
      go_wp2
      go_ret
      exact ⟨ret_int (by rw [← HC.out, cmpC_end]), hB _⟩

/-- The first number that is not 0. -/
def firstNZ : List Int → Int
  | [] => 0
  | a :: l => if a = 0 then firstNZ l else a
def il (l : List Int) : Array Value := (l.map (Value.int .i64)).toArray
@[simp] theorem il_size (l : List Int) : (il l).size = l.length := by simp [il]
theorem il_at (l : List Int) {k : Nat} (h : k < (il l).size) : (il l)[k]'h = .int .i64 (l.getD k 0) := by
  have h' : k < l.length := by simpa using h
  simp [il, h']
theorem firstNZ_drop (l : List Int) (k : Nat) (hk : k < l.length) : firstNZ (l.drop k) = if l.getD k 0 = 0 then firstNZ (l.drop (k + 1)) else l.getD k 0 := by
  rw [List.drop_eq_getElem_cons hk]
  simp [firstNZ, hk]

set_option maxHeartbeats 400000 in
theorem orI (l : List Int) (hl : l.length ≤ 1000) (W d : World) (b : Nat) (hr : ∀ d, row? (gr W d) b = il l) :
    Calls Try.prog 52 #[.slice (some ⟨b, 0, none⟩) l.length l.length] (gr W d) fun e w' => e = .returned (.int .i64 (firstNZ l)) ∧ ∃ d, w' = gr W d := by
  go_enter Try.func52, Try.ntmps52
  go_wp2
  go_loopw [8] (fun i wr => ∃ (k : Nat) (x : World), k ≤ l.length ∧ i = .int .i64 k ∧ firstNZ (l.drop k) = firstNZ l ∧ wr = gr W x) (fun i _ => l.length - (intOf i).toNat)
  case atStart => exact ⟨0, d, by omega, rfl, by simp, rfl⟩
  case round =>
    obtain ⟨k, x, hk, rfl, hf, rfl⟩ := hrel
    by_cases hlt : k < l.length
    · have hs := firstNZ_drop l k hlt
      rw [hf] at hs
      have HS := hid hs
      clear hs hf
      have d1 := fun h => il_at l (k := k) h
      generalize l.getD k 0 = a at *
      by_cases he : a = 0
      · subst he
        go_wp2
        go_roundw
        case rel => exact ⟨k+1, _, by omega, by go_num, by rw [HS.out]; simp, rfl⟩
        case measure => simp [intOf]; omega
      · have hne : (a != 0) = true := by simpa using he
        have HE := hid he
        clear he
        go_wp2
        go_ret
        exact ⟨ret_int (by rw [HS.out, if_neg HE.out]), _, rfl⟩
    · have hk8 : k = l.length := by omega
      have HK := hid hk8
      have HF := hid hf
      clear hf hk8
      go_wp2
      go_ret
      exact ⟨ret_int (by rw [← HF.out, HK.out]; simp [firstNZ]), _, rfl⟩

theorem orI' (l : List Int) (hl : l.length ≤ 1000) (w : World) (b : Nat) (hb : b < w.heap.size) (hr : row? w b = il l) :
    Calls Try.prog 52 #[.slice (some ⟨b, 0, none⟩) l.length l.length] w fun e w' => e = .returned (.int .i64 (firstNZ l)) ∧ Below w.heap.size w w' := by
  have h := orI l hl w w b (gr_row hr hb)
  rw [← gr_self w] at h
  exact h.mono fun e w' ⟨he, d, hd⟩ => ⟨he, by rw [hd]; exact gr_below w d⟩

theorem cmpP_first (p q : Prt) : cmpP p q = firstNZ [cmpC p.c q.c, cmpI p.n q.n] := by
  unfold cmpP firstNZ firstNZ firstNZ
  by_cases h : cmpC p.c q.c = 0
  · simp [h]
  · simp [h]

set_option maxHeartbeats 400000 in
theorem cmpP_fn (p q : Prt) : Fn Try.prog 48 #[.agg (pa p), .agg (pa q)] (.int .i64 (cmpP p q)) := by
  intro w
  go_enter Try.func48, Try.ntmps48
  go_wp2
  refine cut_box2 fun W g1 _ g2 _ hz hB => ?_
  refine wp_region_gr_tail W 10 (by kernel_rfl) (by kernel_rfl) ⟨_, rfl⟩ ?_
  simp only [List.take_succ_cons, List.take_zero, List.drop_succ_cons, List.drop_zero]
  repeat (go_big_quiet_step ((first | (go_at_call 42; exact (cmpC_fn _ _).q) | (go_at_call 41; exact (cmpI_fn _ _).q))))
  refine wpQuiet_nil ?_
  rintro _ ⟨y, rfl⟩
  go_wp2_with fail
  have hz' := (gr_below W y).size
  refine (orI' [cmpC p.c q.c, cmpI p.n q.n] (by simp) _ _ (by simp) (by simp [row_alloc, rowOf, il])).mono ?_
  rintro e w' ⟨rfl, hw'⟩
  have hX : Below w.heap.size w w' := ((hB y).alloc (by omega) _).trans (hw'.mono (by simp; omega))
  clear hw'
  go_wp2
  go_ret
  exact ⟨ret_int (cmpP_first p q).symm, hX⟩
end Go.Proofs.Ytcjbopobgpfjlaa
