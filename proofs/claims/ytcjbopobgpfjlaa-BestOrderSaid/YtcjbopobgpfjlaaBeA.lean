/-
  Choices as plain data; how they are compared: the walks of Better and ByWay, the program's and the reference's. No condition but the numbers' range.
-/
import Derived.Test.YtcjbopobgpfjlaaRaF
namespace Go.Proofs.Ytcjbopobgpfjlaa
open Go.RowKit

structure Cho where
  s : Sett
  is : Bool
def cha (c : Cho) : Array Value := sa c.s ++ #[.bool c.is]
@[simp, go_sem] theorem cha_size (c : Cho) : (cha c).size = 33 := by simp [cha]
@[simp, go_sem] theorem cha_ne (c : Cho) : cha c ≠ #[] := fun e => by have := cha_size c; rw [e] at this; cases this
@[simp, go_sem] theorem cha_32 (c : Cho) : (cha c)[32]? = some (.bool c.is) := by
  unfold cha
  rw [Array.getElem?_append_right (by simp)]
  simp
@[simp, go_sem] theorem cha_at32 (c : Cho) (h : 32 < (cha c).size) : (cha c)[32]'h = .bool c.is := at_of (cha_32 c) h
@[simp, go_sem] theorem cha_set (c : Cho) : sub (cha c) 0 32 = sa c.s := by
  have := sa_size c.s
  simp [sub, cha, this]
@[simp, go_sem] theorem cha_all (c : Cho) : sub (cha c) 0 33 = cha c := sub_all _ _ (by simp)
@[simp, go_sem] theorem cha_pop (c : Cho) : (cha c).pop = sa c.s := by simp [cha]
def zeroCh : Cho := ⟨zeroS, false⟩
def betterC (a b : Cho) : Bool := a.is && (!b.is || lessS a.s b.s)
def byWayC (a b : Cho) : Bool := a.is && (b.is && decide (cmpS a.s b.s = 2))
set_option maxHeartbeats 800000 in
theorem better_fn (a b : Cho) (ha : inR a.s.n) (hb : inR b.s.n) : Fn Try.prog 31 #[.agg (cha a), .agg (cha b)] (.bool (betterC a b)) := by
  intro w
  obtain ⟨p, i⟩ := a
  obtain ⟨q, j⟩ := b
  have f1 := lessS_fn p q ha hb
  dsimp only [betterC] at *
  generalize lessS p q = v at *
  have g1 := cha_32 ⟨p, i⟩
  have g2 := cha_32 ⟨q, j⟩
  have g3 := cha_set ⟨p, i⟩
  have g4 := cha_set ⟨q, j⟩
  dsimp only at g1 g2 g3 g4
  clear ha hb
  have F1_ := hid f1
  clear f1
  cases i with
  | false =>
    go_enter Try.func31, Try.ntmps31
    go_wp2
    go_ret
    exact ⟨rfl, ((Below.refl _ _).alloc (Nat.le_refl _) _).alloc (by simp) _⟩
  | true =>
    cases j with
    | false =>
      go_enter Try.func31, Try.ntmps31
      go_wp2
      go_ret
      exact ⟨rfl, ((Below.refl _ _).alloc (Nat.le_refl _) _).alloc (by simp) _⟩
    | true =>
      go_enter Try.func31, Try.ntmps31
      go_wp2_with fail
      refine cutc_box2 fun W _ _ _ _ _ hB => ?_
      refine F1_.out.c fun m => ?_
      dsimp only
      go_wp2
      go_ret
      exact ⟨rfl, hB _⟩
set_option maxHeartbeats 800000 in
theorem rbetter_fn (a b : Cho) (ha : inR a.s.n) (hb : inR b.s.n) : Fn Try.prog 33 #[.agg (cha a), .agg (cha b)] (.bool (betterC a b)) := by
  intro w
  obtain ⟨p, i⟩ := a
  obtain ⟨q, j⟩ := b
  have f1 := rlessS_fn p q ha hb
  dsimp only [betterC] at *
  generalize lessS p q = v at *
  have g1 := cha_32 ⟨p, i⟩
  have g2 := cha_32 ⟨q, j⟩
  have g3 := cha_set ⟨p, i⟩
  have g4 := cha_set ⟨q, j⟩
  dsimp only at g1 g2 g3 g4
  clear ha hb
  have F1_ := hid f1
  clear f1
  cases i with
  | false =>
    go_enter Try.func33, Try.ntmps33
    go_wp2
    go_ret
    exact ⟨rfl, ((Below.refl _ _).alloc (Nat.le_refl _) _).alloc (by simp) _⟩
  | true =>
    cases j with
    | false =>
      go_enter Try.func33, Try.ntmps33
      go_wp2
      go_ret
      exact ⟨rfl, ((Below.refl _ _).alloc (Nat.le_refl _) _).alloc (by simp) _⟩
    | true =>
      go_enter Try.func33, Try.ntmps33
      go_wp2_with fail
      refine cutc_box2 fun W _ _ _ _ _ hB => ?_
      refine F1_.out.c fun m => ?_
      dsimp only
      go_wp2
      go_ret
      exact ⟨rfl, hB _⟩
set_option maxHeartbeats 800000 in
theorem byWay_fn (a b : Cho) (ha : inR a.s.n) (hb : inR b.s.n) : Fn Try.prog 34 #[.agg (cha a), .agg (cha b)] (.bool (byWayC a b)) := by
  intro w
  obtain ⟨p, i⟩ := a
  obtain ⟨q, j⟩ := b
  have f1 := cmpS_fn p q ha hb
  dsimp only [byWayC] at *
  generalize cmpS p q = v at *
  have g1 := cha_32 ⟨p, i⟩
  have g2 := cha_32 ⟨q, j⟩
  have g3 := cha_set ⟨p, i⟩
  have g4 := cha_set ⟨q, j⟩
  dsimp only at g1 g2 g3 g4
  clear ha hb
  cases i with
  | false =>
    clear f1
    go_enter Try.func34, Try.ntmps34
    go_wp2
    go_ret
    exact ⟨rfl, ((Below.refl _ _).alloc (Nat.le_refl _) _).alloc (by simp) _⟩
  | true =>
    cases j with
    | false =>
      clear f1
      go_enter Try.func34, Try.ntmps34
      go_wp2
      go_ret
      exact ⟨rfl, ((Below.refl _ _).alloc (Nat.le_refl _) _).alloc (by simp) _⟩
    | true =>
      by_cases h2 : v = 2
      · subst h2
        have F1_ := hid f1
        clear f1
        go_enter Try.func34, Try.ntmps34
        go_wp2_with fail
        refine cutc_box2 fun W _ _ _ _ _ hB => ?_
        refine F1_.out.c fun m => ?_
        dsimp only
        go_wp2
        go_ret
        exact ⟨rfl, hB _⟩
      · have b2 : (v == 2) = false := by simpa using h2
        rw [decide_eq_false h2]
        clear h2
        have F1_ := hid f1
        clear f1
        go_enter Try.func34, Try.ntmps34
        go_wp2_with fail
        refine cutc_box2 fun W _ _ _ _ _ hB => ?_
        refine F1_.out.c fun m => ?_
        dsimp only
        go_wp2
        go_ret
        exact ⟨rfl, hB _⟩
set_option maxHeartbeats 800000 in
theorem rbyWay_fn (a b : Cho) (ha : inR a.s.n) (hb : inR b.s.n) : Fn Try.prog 35 #[.agg (cha a), .agg (cha b)] (.bool (byWayC a b)) := by
  intro w
  obtain ⟨p, i⟩ := a
  obtain ⟨q, j⟩ := b
  have f1 := rcmp_fn p q ha hb
  dsimp only [byWayC] at *
  generalize cmpS p q = v at *
  have g1 := cha_32 ⟨p, i⟩
  have g2 := cha_32 ⟨q, j⟩
  have g3 := cha_set ⟨p, i⟩
  have g4 := cha_set ⟨q, j⟩
  dsimp only at g1 g2 g3 g4
  clear ha hb
  cases i with
  | false =>
    clear f1
    go_enter Try.func35, Try.ntmps35
    go_wp2
    go_ret
    exact ⟨rfl, ((Below.refl _ _).alloc (Nat.le_refl _) _).alloc (by simp) _⟩
  | true =>
    cases j with
    | false =>
      clear f1
      go_enter Try.func35, Try.ntmps35
      go_wp2
      go_ret
      exact ⟨rfl, ((Below.refl _ _).alloc (Nat.le_refl _) _).alloc (by simp) _⟩
    | true =>
      by_cases h2 : v = 2
      · subst h2
        have F1_ := hid f1
        clear f1
        go_enter Try.func35, Try.ntmps35
        go_wp2_with fail
        refine cutc_box2 fun W _ _ _ _ _ hB => ?_
        refine F1_.out.c fun m => ?_
        dsimp only
        go_wp2
        go_ret
        exact ⟨rfl, hB _⟩
      · have b2 : (v == 2) = false := by simpa using h2
        rw [decide_eq_false h2]
        clear h2
        have F1_ := hid f1
        clear f1
        go_enter Try.func35, Try.ntmps35
        go_wp2_with fail
        refine cutc_box2 fun W _ _ _ _ _ hB => ?_
        refine F1_.out.c fun m => ?_
        dsimp only
        go_wp2
        go_ret
        exact ⟨rfl, hB _⟩
end Go.Proofs.Ytcjbopobgpfjlaa
