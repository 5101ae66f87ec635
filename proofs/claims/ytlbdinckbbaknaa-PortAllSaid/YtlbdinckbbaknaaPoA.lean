/-
  A port's machine as plain data, and what each call makes of it. No program, no condition.
-/
import Derived.Test.YtlbdinckbbaknaaRegP
import Derived.Test.YtlbdinckbbaknaaChg
namespace Go.Proofs.Ytlbdinckbbaknaa
open Go.RowKit

structure Mach where
  e : Int
  o : Int
  so : Bool
  s : Int
  u : Int
abbrev mc (m : Mach) : Array Value := #[.int .i64 m.e, .int .i64 m.o, .bool m.so, .int .i64 m.s, .int .i64 m.u]
structure Opp where
  k : Int
  c : Int
  p : Int
  n : Int
  sm : Bool
abbrev oa (x : Opp) : Array Value := #[.int .i64 x.k, .int .i64 x.c, .int .i64 x.p, .int .i64 x.n, .bool x.sm]
def big : Int := 4611686018427387904
def tmI (n : Int) : Int := if n < 0 then 0 else if n > big then big else n
theorem tmI_bd (n : Int) : 0 ≤ tmI n ∧ tmI n ≤ 4611686018427387904 := by
  unfold tmI big
  split
  · omega
  · split <;> omega
theorem tmI_of {n : Int} (h : 0 ≤ n) (h' : n ≤ 4611686018427387904) : tmI n = n := by
  unfold tmI big
  rw [if_neg (by omega), if_neg (by omega)]
structure Mach.ok (m : Mach) : Prop where
  e1 : 1 ≤ m.e
  e2 : m.e ≤ 1099511627776
  o1 : 2 ≤ m.o
  o2 : m.o ≤ 10
  s1 : 1 ≤ m.s
  s2 : m.s ≤ 9
  u1 : 0 ≤ m.u
  u2 : m.u ≤ 4611686018427387904
theorem Mach.ok.oe {m : Mach} (h : m.ok) : 0 ≤ m.o * m.e ∧ m.o * m.e ≤ 10995116277760 := by
  have h1 : m.o * m.e ≤ 10 * m.e := Int.mul_le_mul_of_nonneg_right h.o2 (by have := h.e1; omega)
  have h2 : 0 ≤ m.o * m.e := Int.mul_nonneg (by have := h.o1; omega) (by have := h.e1; omega)
  have := h.e2
  omega
def anewM (m : Mach) (s n : Int) : Mach := { m with s := s, u := tmI (tmI n + m.o * m.e) }
def restM (m : Mach) (s : Int) : Mach := { m with s := s, u := 0 }
def waitM (m : Mach) (s n : Int) : Mach := { m with s := s, u := tmI n }
def hearsM (m : Mach) : Bool := decide (m.s = 4) || decide (m.s = 7) || decide (m.s = 8) || decide (m.s = 9)
def clampI (n : Int) : Int := if n < 0 then 0 else if n > 255 then 255 else n
def decM (m : Mach) (c p n : Int) (sm : Bool) : Mach :=
  if m.s < 4 ∨ c < 1 ∨ 6 < c then m
  else if c = 4 then (if sm = true ∧ (m.s = 8 ∨ m.s = 9) then m else anewM m 8 n)
  else if 4 < c ∧ m.s = 7 then m
  else if c < 4 ∧ (m.s = 5 ∨ m.s = 6) then m
  else if m.so = true then (if m.s = 4 then m else anewM m 4 n)
  else if 4 < c then anewM m 7 n
  else if c = 3 then { m with s := 5, u := tmI (tmI n + (clampI p + 1) * m.e) }
  else { m with s := 5, u := tmI n }
def tickM (m : Mach) (n : Int) : Mach × Int :=
  if (m.s ≠ 5 ∧ hearsM m = false) ∨ tmI n < m.u then (m, 0)
  else if m.s = 5 then (restM m 6, 1)
  else if m.so = true then (anewM m 4 n, 2)
  else (restM m 6, 2)
def doM (m : Mach) (x : Opp) : Mach × Int :=
  if x.k = 0 then (if m.s = 1 then (anewM m 4 x.n, 1) else (m, 0))
  else if x.k = 1 then (if m.s ≠ 2 ∧ m.s ≠ 3 then (restM m 2, 1) else (m, 0))
  else if x.k = 2 then (if m.s = 2 then (restM m 1, 1) else (m, 0))
  else if x.k = 3 then (if m.s ≠ 3 then (restM m 3, 1) else (m, 0))
  else if x.k = 4 then (if m.s = 3 then (restM m 1, 1) else (m, 0))
  else if x.k = 5 then (if m.s = 8 then ({ m with s := 9 }, 1) else (m, 0))
  else if x.k = 6 then (if m.s = 9 then ({ m with s := 8 }, 1) else (m, 0))
  else if x.k = 7 then (if hearsM m = true then (anewM m m.s x.n, 0) else (m, 0))
  else if x.k = 8 then (decM m x.c x.p x.n x.sm, 0)
  else if x.k = 9 then tickM m x.n
  else (m, 0)

theorem Mach.ok.anew {m : Mach} (h : m.ok) {s : Int} (h1 : 1 ≤ s) (h2 : s ≤ 9) (n : Int) : (anewM m s n).ok :=
  ⟨h.e1, h.e2, h.o1, h.o2, h1, h2, (tmI_bd _).1, (tmI_bd _).2⟩
theorem Mach.ok.rest {m : Mach} (h : m.ok) {s : Int} (h1 : 1 ≤ s) (h2 : s ≤ 9) : (restM m s).ok :=
  ⟨h.e1, h.e2, h.o1, h.o2, h1, h2, by simp [restM], by simp [restM]⟩
theorem Mach.ok.to {m : Mach} (h : m.ok) {s : Int} (h1 : 1 ≤ s) (h2 : s ≤ 9) : ({ m with s := s } : Mach).ok :=
  ⟨h.e1, h.e2, h.o1, h.o2, h1, h2, h.u1, h.u2⟩
theorem Mach.ok.until {m : Mach} (h : m.ok) {s : Int} (h1 : 1 ≤ s) (h2 : s ≤ 9) (n : Int) : ({ m with s := s, u := tmI n } : Mach).ok :=
  ⟨h.e1, h.e2, h.o1, h.o2, h1, h2, (tmI_bd _).1, (tmI_bd _).2⟩
theorem Mach.ok.dec {m : Mach} (h : m.ok) (c p n : Int) (sm : Bool) : (decM m c p n sm).ok := by
  unfold decM
  split
  · exact h
  split
  · split
    · exact h
    · exact h.anew (by omega) (by omega) _
  split
  · exact h
  split
  · exact h
  split
  · split
    · exact h
    · exact h.anew (by omega) (by omega) _
  split
  · exact h.anew (by omega) (by omega) _
  split
  · exact h.until (by omega) (by omega) _
  · exact h.until (by omega) (by omega) _
theorem Mach.ok.tick {m : Mach} (h : m.ok) (n : Int) : (tickM m n).1.ok := by
  unfold tickM
  split
  · exact h
  split
  · exact h.rest (by omega) (by omega)
  split
  · exact h.anew (by omega) (by omega) _
  · exact h.rest (by omega) (by omega)
theorem Mach.ok.step {m : Mach} (h : m.ok) (x : Opp) : (doM m x).1.ok := by
  unfold doM
  split
  · split
    · exact h.anew (by omega) (by omega) _
    · exact h
  split
  · split
    · exact h.rest (by omega) (by omega)
    · exact h
  split
  · split
    · exact h.rest (by omega) (by omega)
    · exact h
  split
  · split
    · exact h.rest (by omega) (by omega)
    · exact h
  split
  · split
    · exact h.rest (by omega) (by omega)
    · exact h
  split
  · split
    · exact h.to (by omega) (by omega)
    · exact h
  split
  · split
    · exact h.to (by omega) (by omega)
    · exact h
  split
  · split
    · exact h.anew h.s1 h.s2 _
    · exact h
  split
  · exact h.dec _ _ _ _
  split
  · exact h.tick _
  · exact h
end Go.Proofs.Ytlbdinckbbaknaa
