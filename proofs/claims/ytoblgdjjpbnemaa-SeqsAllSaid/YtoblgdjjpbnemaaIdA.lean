/-
  Clocks and ports as plain data, and how they lie in cells; their order. No program, no condition.
-/
import Derived.Test.YtoblgdjjpbnemaaBase
import Derived.ChangeKeysEq
namespace Go.Proofs.Ytoblgdjjpbnemaa
open Go.RowKit

/-- Bytes as cells. -/
def cl (l : List Int) : Array Value := (l.map (Value.int .u8)).toArray
theorem cl_size (l : List Int) : (cl l).size = l.length := by simp [cl]
theorem cl_get {l : List Int} {k : Nat} (h : k < l.length) : (cl l)[k]? = some (.int .u8 (l.getD k 0)) := by simp [cl, h]
theorem cl_inj {l m : List Int} (h : cl l = cl m) : l = m := by
  have h' := congrArg Array.toList h
  simp only [cl] at h'
  exact (List.map_inj_right (fun a b e => by cases e; rfl)).1 h'

structure Clk where
  l : List Int
  h : l.length = 8
  r : ∀ x ∈ l, 0 ≤ x ∧ x < 256
theorem Clk.ext' {c d : Clk} (h : c.l = d.l) : c = d := by cases c; cases d; cases h; rfl
instance : DecidableEq Clk := fun c d => if h : c.l = d.l then .isTrue (Clk.ext' h) else .isFalse (fun e => h (by rw [e]))
def ca (c : Clk) : Array Value := cl c.l
@[simp, go_sem] theorem ca_size (c : Clk) : (ca c).size = 8 := by rw [ca, cl_size, c.h]
@[simp, go_sem] theorem ca_ne (c : Clk) : ca c ≠ #[] := fun h => by
  have := ca_size c
  rw [h] at this
  cases this
theorem ca_get (c : Clk) {k : Nat} (h : k < 8) : (ca c)[k]? = some (.int .u8 (c.l.getD k 0)) := cl_get (by rw [c.h]; exact h)
theorem ca_at (c : Clk) {k : Nat} (h : k < (ca c).size) : (ca c)[k]'h = .int .u8 (c.l.getD k 0) := by
  have h1 := ca_get c (k := k) (by simpa using h)
  rw [Array.getElem?_eq_getElem h] at h1
  exact Option.some.inj h1
theorem Clk.rng (c : Clk) (k : Nat) : 0 ≤ c.l.getD k 0 ∧ c.l.getD k 0 < 256 := by
  by_cases h : k < c.l.length
  · have := c.r (c.l[k]) (List.getElem_mem h)
    simpa [h] using this
  · simp [h]
structure Prt where
  c : Clk
  n : Int
theorem Prt.ext' {p q : Prt} (h : p.c = q.c) (g : p.n = q.n) : p = q := by cases p; cases q; cases h; cases g; rfl
instance : DecidableEq Prt := fun p q => if h : p.c = q.c ∧ p.n = q.n then .isTrue (Prt.ext' h.1 h.2) else .isFalse (fun e => h (by rw [e]; exact ⟨rfl, rfl⟩))
def pa (p : Prt) : Array Value := ca p.c ++ #[.int .i64 p.n]
@[simp, go_sem] theorem pa_size (p : Prt) : (pa p).size = 9 := by simp [pa]
@[simp, go_sem] theorem pa_8 (p : Prt) : (pa p)[8]? = some (.int .i64 p.n) := by
  unfold pa
  rw [Array.getElem?_append_right (by simp)]
  simp
@[simp, go_sem] theorem pa_at8 (p : Prt) (h : 8 < (pa p).size) : (pa p)[8]'h = .int .i64 p.n := by
  have h1 := pa_8 p
  rw [Array.getElem?_eq_getElem h] at h1
  exact Option.some.inj h1
@[simp, go_sem] theorem pa_clk (p : Prt) : sub (pa p) 0 8 = ca p.c := by
  have := ca_size p.c
  simp [sub, pa, this]
@[simp, go_sem] theorem pa_pop (p : Prt) : (pa p).pop = ca p.c := by simp [pa]
@[simp, go_sem] theorem ca_all (c : Clk) : sub (ca c) 0 8 = ca c := sub_all _ _ (by simp)
@[simp, go_sem] theorem pa_all (p : Prt) : sub (pa p) 0 9 = pa p := sub_all _ _ (by simp)

/-- cmp.Compare of integers. -/
def cmpI (a b : Int) : Int := if a < b then -1 else if b < a then 1 else 0
def cmpL : List Int → List Int → Int
  | a :: l, b :: m => if a = b then cmpL l m else cmpI a b
  | _, _ => 0
def cmpC (c d : Clk) : Int := cmpL c.l d.l
def cmpP (p q : Prt) : Int := if cmpC p.c q.c ≠ 0 then cmpC p.c q.c else cmpI p.n q.n
theorem cmpL_drop (l m : List Int) (hl : l.length = m.length) (k : Nat) (hk : k < l.length) :
    cmpL (l.drop k) (m.drop k) = if l.getD k 0 = m.getD k 0 then cmpL (l.drop (k+1)) (m.drop (k+1)) else cmpI (l.getD k 0) (m.getD k 0) := by
  have hk2 : k < m.length := by omega
  rw [List.drop_eq_getElem_cons hk, List.drop_eq_getElem_cons hk2]
  simp only [cmpL]
  simp [hk, hk2]
theorem cmpC_drop (c d : Clk) (k : Nat) (hk : k < 8) :
    cmpL (c.l.drop k) (d.l.drop k) = if c.l.getD k 0 = d.l.getD k 0 then cmpL (c.l.drop (k+1)) (d.l.drop (k+1)) else cmpI (c.l.getD k 0) (d.l.getD k 0) :=
  cmpL_drop c.l d.l (by rw [c.h, d.h]) k (by rw [c.h]; exact hk)
theorem cmpC_end (c d : Clk) : cmpL (c.l.drop 8) (d.l.drop 8) = 0 := by
  rw [List.drop_of_length_le (by rw [c.h]; exact Nat.le_refl _)]
  rfl
theorem part_cl {P : Program} {e : TypeId} (ha : ∀ w, (isAgg e).run P w = .ok false w) (w : World) (l : List Int) (k : Nat) (h : k < l.length) :
    (part e (cl l) k).run P w = .ok (.int .u8 (l.getD k 0)) w := by
  unfold part
  simp [Sem.run_bind, ha, cl_get h]
theorem eqItems_cl {P : Program} {e : TypeId} (ha : ∀ w, (isAgg e).run P w = .ok false w) (he : P.underlying e = some (.int .u8)) (d : Nat) (l m : List Int) (hm : m.length = l.length) (w : World) :
    ∀ (j k : Nat), k + j = l.length → (Op.eqItems (d + 1) e 1 (cl l) (cl m) (List.range' k j)).run P w = .ok (decide (l.drop k = m.drop k)) w := by
  intro j
  induction j with
  | zero =>
    intro k hk
    have h1 : l.drop k = [] := List.drop_of_length_le (by omega)
    have h2 : m.drop k = [] := List.drop_of_length_le (by omega)
    simp [Op.eqItems, h1, h2]
  | succ j ih =>
    intro k hk
    have hlt : k < l.length := by omega
    have hlt2 : k < m.length := by omega
    simp only [List.range'_succ, Op.eqItems, Nat.mul_one, Sem.run_bind, part_cl ha w l k hlt, part_cl ha w m k hlt2, Result.andThen_ok, run_equalIn_int w d e .u8 .u8 _ _ he]
    have hd : decide (l.drop k = m.drop k) = ((l.getD k 0 == m.getD k 0) && decide (l.drop (k + 1) = m.drop (k + 1))) := by
      rw [Bool.eq_iff_iff, List.drop_eq_getElem_cons hlt, List.drop_eq_getElem_cons hlt2]
      simp only [decide_eq_true_eq, List.cons.injEq, Bool.and_eq_true, beq_iff_eq]
      simp [hlt, hlt2]
    rw [hd]
    generalize l.getD k 0 = a
    generalize m.getD k 0 = b
    cases hx : (a == b)
    · simp
    · simpa using ih (k + 1) (by omega)
theorem eqArr {P : Program} {t e : TypeId} {n : Nat} (hu : P.underlying t = some (.array n e)) (hi : (P.info? e).isSome = true) (hc : P.cellsOf e = 1) (ha : ∀ w, (isAgg e).run P w = .ok false w)
    (he : P.underlying e = some (.int .u8)) (d : Nat) (l m : List Int) (hl : l.length = n) (hm : m.length = n) (w : World) :
    (Op.equalIn (d + 2) t (.agg (cl l)) (.agg (cl m))).run P w = .ok (decide (l = m)) w := by
  obtain ⟨i, hi⟩ := Option.isSome_iff_exists.1 hi
  rw [run_equalIn_array w (d + 1) _ _ hu hi, hc, List.range_eq_range']
  subst hl
  have := eqItems_cl ha he d l m hm w l.length 0 (by omega)
  simpa using this
theorem clk_dec (c d : Clk) : decide (c.l = d.l) = decide (c = d) := by
  rw [decide_eq_decide]
  exact ⟨Clk.ext', fun e => by rw [e]⟩
theorem prt_dec (p q : Prt) : decide (p = q) = (decide (p.c = q.c) && decide (p.n = q.n)) := by
  rw [← Bool.decide_and, decide_eq_decide]
  exact ⟨fun e => by rw [e]; exact ⟨rfl, rfl⟩, fun e => Prt.ext' e.1 e.2⟩
def zeroC : Clk := ⟨[0, 0, 0, 0, 0, 0, 0, 0], rfl, by decide⟩
def zeroP : Prt := ⟨zeroC, 0⟩
end Go.Proofs.Ytoblgdjjpbnemaa
