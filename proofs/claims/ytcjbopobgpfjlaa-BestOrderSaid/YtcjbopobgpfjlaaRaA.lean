/-
  Sets as plain data: their cells, their places. No program, no condition.
-/
import Derived.Test.YtcjbopobgpfjlaaIdA
import Derived.Test.YtcjbopobgpfjlaaIdC
namespace Go.Proofs.Ytcjbopobgpfjlaa
open Go.RowKit

structure Sett where
  a : Int
  b : Int
  x : Int
  y : Int
  z : Int
  g : Clk
  n : Int
  s : Prt
  r : Prt
theorem Sett.ext' {p q : Sett} (h1 : p.a = q.a) (h2 : p.b = q.b) (h3 : p.x = q.x) (h4 : p.y = q.y) (h5 : p.z = q.z) (h6 : p.g = q.g) (h7 : p.n = q.n) (h8 : p.s = q.s) (h9 : p.r = q.r) : p = q := by
  cases p; cases q; simp_all
def sa (x : Sett) : Array Value := #[.int .i64 x.a, .int .i64 x.b, .int .i64 x.x, .int .i64 x.y, .int .i64 x.z] ++ ca x.g ++ #[.int .i64 x.n] ++ pa x.s ++ pa x.r
@[simp, go_sem] theorem sa_size (x : Sett) : (sa x).size = 32 := by simp [sa]
theorem sa_opt (x : Sett) : (sa x)[0]? = some (.int .i64 x.a) ∧ (sa x)[1]? = some (.int .i64 x.b) ∧ (sa x)[2]? = some (.int .i64 x.x) ∧ (sa x)[3]? = some (.int .i64 x.y) ∧ (sa x)[4]? = some (.int .i64 x.z) ∧ (sa x)[13]? = some (.int .i64 x.n) ∧ (sa x)[22]? = some (.int .i64 x.s.n) ∧ (sa x)[31]? = some (.int .i64 x.r.n) := by
  simp [sa, Array.getElem_push]
theorem at_of {a : Array Value} {k : Nat} {v : Value} (h1 : a[k]? = some v) (h : k < a.size) : a[k]'h = v := by
  rw [Array.getElem?_eq_getElem h] at h1
  exact Option.some.inj h1
@[simp, go_sem] theorem sa_0 (x : Sett) : (sa x)[0]? = some (.int .i64 x.a) := (sa_opt x).1
@[simp, go_sem] theorem sa_1 (x : Sett) : (sa x)[1]? = some (.int .i64 x.b) := (sa_opt x).2.1
@[simp, go_sem] theorem sa_2 (x : Sett) : (sa x)[2]? = some (.int .i64 x.x) := (sa_opt x).2.2.1
@[simp, go_sem] theorem sa_3 (x : Sett) : (sa x)[3]? = some (.int .i64 x.y) := (sa_opt x).2.2.2.1
@[simp, go_sem] theorem sa_4 (x : Sett) : (sa x)[4]? = some (.int .i64 x.z) := (sa_opt x).2.2.2.2.1
@[simp, go_sem] theorem sa_13 (x : Sett) : (sa x)[13]? = some (.int .i64 x.n) := (sa_opt x).2.2.2.2.2.1
@[simp, go_sem] theorem sa_22 (x : Sett) : (sa x)[22]? = some (.int .i64 x.s.n) := (sa_opt x).2.2.2.2.2.2.1
@[simp, go_sem] theorem sa_31 (x : Sett) : (sa x)[31]? = some (.int .i64 x.r.n) := (sa_opt x).2.2.2.2.2.2.2
@[simp, go_sem] theorem sa_at0 (x : Sett) (h : 0 < (sa x).size) : (sa x)[0]'h = .int .i64 x.a := at_of (sa_0 x) h
@[simp, go_sem] theorem sa_at1 (x : Sett) (h : 1 < (sa x).size) : (sa x)[1]'h = .int .i64 x.b := at_of (sa_1 x) h
@[simp, go_sem] theorem sa_at2 (x : Sett) (h : 2 < (sa x).size) : (sa x)[2]'h = .int .i64 x.x := at_of (sa_2 x) h
@[simp, go_sem] theorem sa_at3 (x : Sett) (h : 3 < (sa x).size) : (sa x)[3]'h = .int .i64 x.y := at_of (sa_3 x) h
@[simp, go_sem] theorem sa_at4 (x : Sett) (h : 4 < (sa x).size) : (sa x)[4]'h = .int .i64 x.z := at_of (sa_4 x) h
@[simp, go_sem] theorem sa_at13 (x : Sett) (h : 13 < (sa x).size) : (sa x)[13]'h = .int .i64 x.n := at_of (sa_13 x) h
@[simp, go_sem] theorem sa_at22 (x : Sett) (h : 22 < (sa x).size) : (sa x)[22]'h = .int .i64 x.s.n := at_of (sa_22 x) h
@[simp, go_sem] theorem sa_at31 (x : Sett) (h : 31 < (sa x).size) : (sa x)[31]'h = .int .i64 x.r.n := at_of (sa_31 x) h
theorem sub_mid {A B C : Array Value} {k n : Nat} (h1 : A.size = k) (h2 : B.size = n) : sub (A ++ B ++ C) k n = B := by
  subst h1 h2
  unfold sub
  apply Array.ext_getElem?
  intro i
  rw [Array.getElem?_extract]
  by_cases hi : i < B.size
  · have h1 : (A ++ (B ++ C))[A.size + i]? = some B[i] := by
      rw [Array.getElem?_append_right (Nat.le_add_right _ _), Nat.add_sub_cancel_left, Array.getElem?_append_left hi, Array.getElem?_eq_getElem hi]
    simp [hi, h1]
  · simp [hi]
@[simp, go_sem] theorem sa_qual (x : Sett) : sub (sa x) 2 3 = #[.int .i64 x.x, .int .i64 x.y, .int .i64 x.z] := by
  have : sa x = #[.int .i64 x.a, .int .i64 x.b] ++ #[.int .i64 x.x, .int .i64 x.y, .int .i64 x.z] ++ (ca x.g ++ #[.int .i64 x.n] ++ pa x.s ++ pa x.r) := by
    simp [sa]
  rw [this]
  exact sub_mid rfl rfl
@[simp, go_sem] theorem sa_grand (x : Sett) : sub (sa x) 5 8 = ca x.g := by
  have : sa x = #[.int .i64 x.a, .int .i64 x.b, .int .i64 x.x, .int .i64 x.y, .int .i64 x.z] ++ ca x.g ++ (#[.int .i64 x.n] ++ pa x.s ++ pa x.r) := by
    simp [sa]
  rw [this]
  exact sub_mid rfl (by simp)
@[simp, go_sem] theorem sa_sender (x : Sett) : sub (sa x) 14 9 = pa x.s := by
  have : sa x = (#[.int .i64 x.a, .int .i64 x.b, .int .i64 x.x, .int .i64 x.y, .int .i64 x.z] ++ ca x.g ++ #[.int .i64 x.n]) ++ pa x.s ++ pa x.r := by
    simp [sa]
  rw [this]
  exact sub_mid (by simp) (by simp)
@[simp, go_sem] theorem sa_receiver (x : Sett) : sub (sa x) 23 9 = pa x.r := by
  have : sa x = (#[.int .i64 x.a, .int .i64 x.b, .int .i64 x.x, .int .i64 x.y, .int .i64 x.z] ++ ca x.g ++ #[.int .i64 x.n] ++ pa x.s) ++ pa x.r ++ #[] := by
    simp [sa]
  rw [this]
  exact sub_mid (by simp) (by simp)
@[simp, go_sem] theorem sa_sclk (x : Sett) : sub (sa x) 14 8 = ca x.s.c := by
  have : sa x = (#[.int .i64 x.a, .int .i64 x.b, .int .i64 x.x, .int .i64 x.y, .int .i64 x.z] ++ ca x.g ++ #[.int .i64 x.n]) ++ ca x.s.c ++ (#[.int .i64 x.s.n] ++ pa x.r) := by
    simp [sa, pa]
  rw [this]
  exact sub_mid (by simp) (by simp)
@[simp, go_sem] theorem sa_rclk (x : Sett) : sub (sa x) 23 8 = ca x.r.c := by
  have : sa x = (#[.int .i64 x.a, .int .i64 x.b, .int .i64 x.x, .int .i64 x.y, .int .i64 x.z] ++ ca x.g ++ #[.int .i64 x.n] ++ pa x.s) ++ ca x.r.c ++ #[.int .i64 x.r.n] := by
    simp [sa, pa]
  rw [this]
  exact sub_mid (by simp) (by simp)
@[simp, go_sem] theorem sa_all (x : Sett) : sub (sa x) 0 32 = sa x := sub_all _ _ (by simp)
end Go.Proofs.Ytcjbopobgpfjlaa
