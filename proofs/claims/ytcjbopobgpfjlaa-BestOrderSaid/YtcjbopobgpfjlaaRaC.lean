/-
  The walks of package rank: Grand, Compare, Less. No condition.
-/
import Derived.Test.YtcjbopobgpfjlaaRaB
import Derived.Test.YtcjbopobgpfjlaaRegT
namespace Go.Proofs.Ytcjbopobgpfjlaa
open Go.RowKit

def grandL (p q : Sett) : List Int := [cmpI p.a q.a, cmpI p.x q.x, cmpI p.y q.y, cmpI p.z q.z, cmpI p.b q.b, cmpC p.g q.g]
def grandI (p q : Sett) : Int := firstNZ (grandL p q)
set_option maxHeartbeats 800000 in
theorem grand_fn (p q : Sett) : Fn Try.prog 18 #[.agg (sa p), .agg (sa q)] (.int .i64 (grandI p q)) := by
  intro w
  have hl : firstNZ (grandL p q) = grandI p q := rfl
  generalize grandI p q = v at *
  have fo := @fstI' (grandL p q) (by simp [grandL])
  rw [hl] at fo
  unfold grandL at fo
  have FO_ := hid fo
  clear fo hl
  go_enter Try.func18, Try.ntmps18
  go_wp2_with fail
  refine cut_box2 fun W g1 _ g2 _ _ hB => ?_
  refine wp_region_two W 4 (by kernel_rfl) (by kernel_rfl) (fun c a b w hd h => And.intro (hd.symm.trans (And.left h)) (And.right h)) ⟨_, rfl⟩ rfl rfl rfl rfl rfl rfl (by decide) rfl rfl rfl rfl rfl rfl (fun ρ w => by simp [go_sem]; rfl) (fun ρ w => by simp [go_sem]; rfl) (by simp) (by simp) ?_
  simp only [List.take_succ_cons, List.take_zero]
  repeat (go_big_quiet_step (fail))
  refine wpQuiet_nil ?_
  refine ⟨#[.int .i64 p.x, .int .i64 p.y, .int .i64 p.z], #[.int .i64 q.x, .int .i64 q.y, .int .i64 q.z], fun W1_ b_ c_ ht_ => ?_⟩
  have rb_ := ht_.rb
  have ob_ := ht_.ob
  have rc_ := ht_.rc
  have oc_ := ht_.oc
  have ne_ := ht_.ne
  refine ⟨by simp [go_sem, rb_, ob_], by simp [go_sem, rb_, rc_, oc_, Ne.symm ne_], fun X ht => ?_⟩
  clear rb_ ob_ rc_ oc_ ne_ ht_
  go_simp
  replace g1 := upr ht.up g1
  replace g2 := upr ht.up g2
  replace hB := upb ht.up hB
  have r1 := ht.rb
  have r2 := ht.rc
  clear ht
  go_wp2_with fail
  refine wp_region_gr_tail X 30 (by kernel_rfl) (by kernel_rfl) ⟨_, rfl⟩ ?_
  simp only [List.take_succ_cons, List.take_zero, List.drop_succ_cons, List.drop_zero]
  repeat (go_big_quiet_step ((first | (go_at_call 42; exact (cmpC_fn _ _).q) | (go_at_call 41; exact (cmpI_fn _ _).q))))
  refine wpQuiet_nil ?_
  rintro _ ⟨y, rfl⟩
  go_wp2_with fail
  have hz' := (hB y).size
  refine (FO_.out _ _ (by simp) (by simp [row_alloc, rowOf, il])).mono ?_
  rintro e w' ⟨rfl, hw'⟩
  have hX : Below w.heap.size w w' := ((hB y).alloc (by omega) _).trans (hw'.mono (by simp; omega))
  clear hw'
  go_wp2
  go_ret
  exact ⟨rfl, hX⟩
def cmpS (p q : Sett) : Int := if p.g = q.g then wayI p q else if grandI p q < 0 then 1 else 3
theorem cmpS_fn (p q : Sett) (hp : inR p.n) (hq : inR q.n) : Fn Try.prog 16 #[.agg (sa p), .agg (sa q)] (.int .i64 (cmpS p q)) := by
  intro w
  have e : cmpS p q = if p.g = q.g then wayI p q else if grandI p q < 0 then 1 else 3 := rfl
  generalize cmpS p q = v at *
  have f1 := way_fn p q hp hq
  have f2 := grand_fn p q
  clear hp hq
  by_cases h : p.g = q.g
  · rw [if_pos h] at e
    subst e
    have F1_ := hid f1
    clear f1
    have F2_ := hid f2
    clear f2
    go_enter Try.func16, Try.ntmps16
    go_wp2_with fail
    refine cutc_box2 fun W g1 _ g2 _ _ hB => ?_
    refine F1_.out.c fun m => ?_
    dsimp only
    go_wp2
    go_ret
    exact ⟨rfl, hB _⟩
  · rw [if_neg h] at e
    generalize grandI p q = n at *
    have F1_ := hid f1
    clear f1
    have F2_ := hid f2
    clear f2
    go_enter Try.func16, Try.ntmps16
    go_wp2_with fail
    refine cutc_box2 fun W g1 _ g2 _ _ hB => ?_
    refine F2_.out.c fun m => ?_
    dsimp only
    by_cases hn : n < 0
    · rw [if_pos hn] at e
      subst e
      go_wp2
      go_ret
      exact ⟨rfl, hB _⟩
    · rw [if_neg hn] at e
      subst e
      go_wp2
      go_ret
      exact ⟨rfl, hB _⟩
def lessS (p q : Sett) : Bool := decide (cmpS p q = 1) || decide (cmpS p q = 2)
theorem lessS_fn (p q : Sett) (hp : inR p.n) (hq : inR q.n) : Fn Try.prog 20 #[.agg (sa p), .agg (sa q)] (.bool (lessS p q)) := by
  intro w
  have f1 := cmpS_fn p q hp hq
  have e : lessS p q = (decide (cmpS p q = 1) || decide (cmpS p q = 2)) := rfl
  generalize lessS p q = v at *
  generalize cmpS p q = n at *
  clear hp hq
  have F1_ := hid f1
  clear f1
  have E_ := hid e
  clear e
  go_enter Try.func20, Try.ntmps20
  go_wp2_with fail
  refine cutc_box2 fun W g1 _ g2 _ _ hB => ?_
  refine F1_.out.c fun m => ?_
  dsimp only
  by_cases h1 : n = 1
  · subst h1
    go_wp2
    go_ret
    exact ⟨by rw [E_.out]; rfl, hB _⟩
  by_cases h2 : n = 2
  · subst h2
    go_wp2
    go_ret
    exact ⟨by rw [E_.out]; rfl, hB _⟩
  have b1 : (n == 1) = false := by simpa using h1
  have b2 : (n == 2) = false := by simpa using h2
  have e' := E_.out
  rw [decide_eq_false h1, decide_eq_false h2] at e'
  subst e'
  clear E_ h1 h2
  go_wp2
  go_ret
  exact ⟨rfl, hB _⟩
end Go.Proofs.Ytcjbopobgpfjlaa
