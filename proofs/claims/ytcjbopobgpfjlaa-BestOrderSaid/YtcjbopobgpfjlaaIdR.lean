/-
  The walks of the references' Compare and Ports of clocks: they hand back what the plain functions say. No condition.
-/
import Derived.Test.YtcjbopobgpfjlaaIdW
namespace Go.Proofs.Ytcjbopobgpfjlaa
open Go.RowKit

set_option maxHeartbeats 400000 in
theorem rcmpC_fn (c d : Clk) : Fn Try.prog 38 #[.agg (ca c), .agg (ca d)] (.int .i64 (cmpC c d)) := by
  intro w
  go_enter Try.func38, Try.ntmps38
  go_wp2
  refine cut_box2 fun W g1 _ g2 _ hz hB => ?_
  go_loopw [5] (fun i wr => ∃ (k : Nat) (x : World), k ≤ 8 ∧ i = .int .i64 k ∧ cmpL (c.l.drop k) (d.l.drop k) = cmpC c d ∧ wr = gr W x) (fun i _ => 8 - (intOf i).toNat)
  case atStart => exact ⟨0, W, by omega, rfl, by simp [cmpC], rfl⟩
  case round =>
    obtain ⟨k, x, hk, rfl, hcmp, rfl⟩ := hrel
    by_cases hlt : k < 8
    · have hs := cmpC_drop c d k hlt
      rw [hcmp] at hs
      have HS_ := hid hs
      clear hs
      clear hcmp
      have d1 := fun h => ca_at c (k := k) h
      have d2 := fun h => ca_at d (k := k) h
      generalize c.l.getD k 0 = a at *
      generalize d.l.getD k 0 = b at *
      by_cases h1 : a < b
      · go_wp2
        refine wp_region_gr W (by kernel_rfl) (by kernel_rfl) ⟨_, rfl⟩ ?_
        repeat (go_big_quiet_step (fail))
        refine wpQuiet_nil ?_
        rintro _ ⟨y, rfl⟩
        go_wp2
        go_ret
        exact ⟨ret_int (by rw [HS_.out, if_neg (by omega), cmpI, if_pos (by omega)]), hB _⟩
      · by_cases h2 : b < a
        · go_wp2
          refine wp_region_gr W (by kernel_rfl) (by kernel_rfl) ⟨_, rfl⟩ ?_
          repeat (go_big_quiet_step (fail))
          refine wpQuiet_nil ?_
          rintro _ ⟨y, rfl⟩
          go_wp2
          refine wp_region_gr W (by kernel_rfl) (by kernel_rfl) ⟨_, rfl⟩ ?_
          repeat (go_big_quiet_step (fail))
          refine wpQuiet_nil ?_
          rintro _ ⟨z, rfl⟩
          go_wp2
          go_ret
          exact ⟨ret_int (by rw [HS_.out, if_neg (by omega), cmpI, if_neg (by omega), if_pos h2]), hB _⟩
        · have e : a = b := by omega
          subst e
          go_wp2
          refine wp_region_gr W (by kernel_rfl) (by kernel_rfl) ⟨_, rfl⟩ ?_
          repeat (go_big_quiet_step (fail))
          refine wpQuiet_nil ?_
          rintro _ ⟨y, rfl⟩
          go_wp2
          refine wp_region_gr W (by kernel_rfl) (by kernel_rfl) ⟨_, rfl⟩ ?_
          repeat (go_big_quiet_step (fail))
          refine wpQuiet_nil ?_
          rintro _ ⟨z, rfl⟩
          go_wp2
          go_roundw
          case rel => exact ⟨k+1, _, by omega, by go_num, by rw [HS_.out]; simp, rfl⟩
          case measure => simp [intOf]; omega
    · have hk8 : k = 8 := by omega
      subst hk8
      have HCMP_ := hid hcmp
      clear hcmp
      go_wp2
      go_ret
      exact ⟨ret_int (by rw [← HCMP_.out, cmpC_end]), hB _⟩

theorem cmpI_cases (a b : Int) : (a < b ∧ cmpI a b = -1) ∨ (b < a ∧ cmpI a b = 1) ∨ (a = b ∧ cmpI a b = 0) := by
  unfold cmpI
  split <;> (try split) <;> omega

set_option maxHeartbeats 400000 in
theorem rcmpP_fn (p q : Prt) : Fn Try.prog 39 #[.agg (pa p), .agg (pa q)] (.int .i64 (cmpP p q)) := by
  intro w
  have hp : cmpP p q = if cmpC p.c q.c ≠ 0 then cmpC p.c q.c else cmpI p.n q.n := rfl
  have HP_ := hid hp
  clear hp
  go_enter Try.func39, Try.ntmps39
  go_wp2_with fail
  refine cutc_box2 fun W g1 _ g2 _ hz hB => ?_
  refine (rcmpC_fn _ _).c fun m => ?_
  dsimp only
  by_cases hc : cmpC p.c q.c = 0
  · have hn : (cmpC p.c q.c != 0) = false := by simpa using hc
    have HC_ := hid hc
    clear hc
    have hi := cmpI_cases p.n q.n
    have HI_ := hid hi
    clear hi
    by_cases h1 : p.n < q.n
    · go_wp2
      go_ret
      exact ⟨ret_int (by rw [HP_.out, HC_.out]; have := HI_.out; simp; omega), hB _⟩
    · by_cases h2 : q.n < p.n
      · go_wp2
        go_ret
        exact ⟨ret_int (by rw [HP_.out, HC_.out]; have := HI_.out; simp; omega), hB _⟩
      · go_wp2
        go_ret
        exact ⟨ret_int (by rw [HP_.out, HC_.out]; have := HI_.out; simp; omega), hB _⟩
  · have hn : (cmpC p.c q.c != 0) = true := by simpa using hc
    have HC_ := hid hc
    clear hc
    go_wp2
    go_ret
    exact ⟨ret_int (by rw [HP_.out, if_pos HC_.out]), hB _⟩
end Go.Proofs.Ytcjbopobgpfjlaa
