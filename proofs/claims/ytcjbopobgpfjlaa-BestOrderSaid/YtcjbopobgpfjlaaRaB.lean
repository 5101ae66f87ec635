/-
  The walks of package rank: way, Grand, Compare, Less. No condition.
-/
import Derived.Test.YtcjbopobgpfjlaaRaW
namespace Go.Proofs.Ytcjbopobgpfjlaa
open Go.RowKit

/-- A number of 64 bits. -/
def inR (n : Int) : Prop := -9223372036854775808 ≤ n ∧ n ≤ 9223372036854775807
def wayI (p q : Sett) : Int :=
  if q.n < p.n then (if q.n < p.n - 1 then 3 else nearI p) else if p.n < q.n then (if p.n < q.n - 1 then 1 else turnI (nearI q)) else
    if firstNZ [cmpP p.s q.s, cmpI p.r.n q.r.n] = -1 then 2 else if firstNZ [cmpP p.s q.s, cmpI p.r.n q.r.n] = 1 then 4 else 6
theorem below2 (w : World) (x y : Obj) : Below w.heap.size w ((w.alloc x).alloc y) := ((Below.refl _ _).alloc (Nat.le_refl _) _).alloc (by simp) _
set_option maxHeartbeats 800000 in
theorem way_fn (p q : Sett) (hp : inR p.n) (hq : inR q.n) : Fn Try.prog 37 #[.agg (sa p), .agg (sa q)] (.int .i64 (wayI p q)) := by
  intro w
  obtain ⟨f, hf⟩ : ∃ f, f = firstNZ [cmpP p.s q.s, cmpI p.r.n q.r.n] := ⟨_, rfl⟩
  have e : wayI p q = if q.n < p.n then (if q.n < p.n - 1 then 3 else nearI p) else if p.n < q.n then (if p.n < q.n - 1 then 1 else turnI (nearI q)) else if f = -1 then 2 else if f = 1 then 4 else 6 := by rw [hf]; rfl
  obtain ⟨p1, p2⟩ := hp
  obtain ⟨q1, q2⟩ := hq
  generalize wayI p q = v at *
  have n1 : ∀ h, (sa p)[13]'h = .int .i64 p.n := sa_at13 p
  have n2 : ∀ h, (sa q)[13]'h = .int .i64 q.n := sa_at13 q
  have f1 := near_fn p
  have f2 := near_fn q
  have fo := @fstI' [cmpP p.s q.s, cmpI p.r.n q.r.n] (by simp)
  rw [← hf] at fo
  have HF_ := hid hf
  clear hf
  have F1_ := hid f1
  clear f1
  have F2_ := hid f2
  clear f2
  have FO_ := hid fo
  clear fo
  by_cases h1 : q.n < p.n
  · by_cases h2 : q.n < p.n - 1
    · rw [if_pos h1, if_pos h2] at e
      subst e
      go_enter Try.func37, Try.ntmps37
      go_wp2
      go_ret
      exact ⟨rfl, below2 _ _ _⟩
    · rw [if_pos h1, if_neg h2] at e
      subst e
      go_enter Try.func37, Try.ntmps37
      have h3 : ¬ p.n < q.n := by omega
      go_wp2_with fail
      refine cutc_box2 fun W g1 _ g2 _ _ hB => ?_
      refine F1_.out.c fun m => ?_
      dsimp only
      go_wp2
      go_ret
      exact ⟨rfl, hB _⟩
  by_cases h3 : p.n < q.n
  · by_cases h4 : p.n < q.n - 1
    · rw [if_neg h1, if_pos h3, if_pos h4] at e
      subst e
      go_enter Try.func37, Try.ntmps37
      go_wp2
      go_ret
      exact ⟨rfl, below2 _ _ _⟩
    · rw [if_neg h1, if_pos h3, if_neg h4] at e
      subst e
      go_enter Try.func37, Try.ntmps37
      go_wp2_with fail
      refine cutc_box2 fun W g1 _ g2 _ _ hB => ?_
      refine F2_.out.c fun m => ?_
      dsimp only
      go_wp2_with fail
      refine (turn_fn _).c fun m => ?_
      dsimp only
      go_wp2
      go_ret
      exact ⟨rfl, hB _⟩
  rw [if_neg h1, if_neg h3] at e
  have E_ := hid e
  clear e
  go_enter Try.func37, Try.ntmps37
  go_wp2_with fail
  refine cut_box2 fun W g1 _ g2 _ _ hB => ?_
  refine wp_region_gr_tail W 12 (by kernel_rfl) (by kernel_rfl) ⟨_, rfl⟩ ?_
  simp only [List.take_succ_cons, List.take_zero, List.drop_succ_cons, List.drop_zero]
  repeat (go_big_quiet_step ((first | (go_at_call 48; exact (cmpP_fn _ _).q) | (go_at_call 41; exact (cmpI_fn _ _).q))))
  refine wpQuiet_nil ?_
  rintro _ ⟨y, rfl⟩
  go_wp2_with fail
  have hz' := (gr_below W y).size
  refine (FO_.out _ _ (by simp) (by simp [row_alloc, rowOf, il])).mono ?_
  rintro e w' ⟨rfl, hw'⟩
  have hX : Below w.heap.size w w' := ((hB y).alloc (by omega) _).trans (hw'.mono (by simp; omega))
  clear hw'
  by_cases f1 : f = -1
  · subst f1
    go_wp2
    go_ret
    exact ⟨by rw [E_.out]; rfl, hX⟩
  by_cases f2 : f = 1
  · subst f2
    go_wp2
    go_ret
    exact ⟨by rw [E_.out]; rfl, hX⟩
  have b1 : (f == -1) = false := by simpa using f1
  have b2 : (f == 1) = false := by simpa using f2
  have F1_ := hid f1
  clear f1
  have F2_ := hid f2
  clear f2
  go_wp2
  go_ret
  exact ⟨by rw [E_.out, if_neg F1_.out, if_neg F2_.out]; rfl, hX⟩
end Go.Proofs.Ytcjbopobgpfjlaa
