/-
  Calls of a script and what they come to; the walk of does. No condition.
-/
import Derived.Test.YtoblgdjjpbnemaaSqF
namespace Go.Proofs.Ytoblgdjjpbnemaa
open Go.RowKit

structure OpQ where
  kd : Int
  ty : Int
  q : Int
  p : Prt
  x : X3
def oq (o : OpQ) : Array Value := #[.int .i64 o.kd, .int .i64 o.ty, .int .i64 o.q] ++ (pa o.p ++ xc o.x)
@[simp, go_sem] theorem oq_size (o : OpQ) : (oq o).size = 15 := by simp [oq]
@[simp, go_sem] theorem oq_ne (o : OpQ) : oq o ≠ #[] := fun e => by have := oq_size o; rw [e] at this; cases this
theorem oq_one (o : OpQ) : ∀ v ∈ oq o, v.oneCell' = true := by
  intro v hv
  unfold oq at hv
  rcases Array.mem_append.1 hv with h | h
  · simp at h
    rcases h with rfl | rfl | rfl <;> rfl
  · rcases Array.mem_append.1 h with h | h
    · exact pa_one _ v h
    · exact xc_one _ v h
theorem oq_get (o : OpQ) (k : Nat) (h : k < 3) : (oq o)[k]? = (#[Value.int .i64 o.kd, .int .i64 o.ty, .int .i64 o.q])[k]? := by
  unfold oq
  rw [Array.getElem?_append_left (by simpa using h)]
@[simp, go_sem] theorem oq_0 (o : OpQ) : (oq o)[0]? = some (.int .i64 o.kd) := by rw [oq_get o 0 (by omega)]; rfl
@[simp, go_sem] theorem oq_1 (o : OpQ) : (oq o)[1]? = some (.int .i64 o.ty) := by rw [oq_get o 1 (by omega)]; rfl
@[simp, go_sem] theorem oq_2 (o : OpQ) : (oq o)[2]? = some (.int .i64 o.q) := by rw [oq_get o 2 (by omega)]; rfl
@[simp, go_sem] theorem oq_at0 (o : OpQ) (h : 0 < (oq o).size) : (oq o)[0]'h = .int .i64 o.kd := by
  have h1 := oq_0 o
  rw [Array.getElem?_eq_getElem h] at h1
  exact Option.some.inj h1
@[simp, go_sem] theorem oq_at1 (o : OpQ) (h : 1 < (oq o).size) : (oq o)[1]'h = .int .i64 o.ty := by
  have h1 := oq_1 o
  rw [Array.getElem?_eq_getElem h] at h1
  exact Option.some.inj h1
@[simp, go_sem] theorem oq_at2 (o : OpQ) (h : 2 < (oq o).size) : (oq o)[2]'h = .int .i64 o.q := by
  have h1 := oq_2 o
  rw [Array.getElem?_eq_getElem h] at h1
  exact Option.some.inj h1
@[simp, go_sem] theorem oq_p (o : OpQ) : sub (oq o) 3 9 = pa o.p := by
  apply Array.ext_getElem?
  intro i
  unfold sub oq
  have h1 := pa_size o.p
  by_cases hi : i < 9
  · rw [Array.getElem?_extract, if_pos (by simp; omega), Array.getElem?_append_right (by simp), Array.getElem?_append_left (by simp; omega)]
    simp
  · rw [Array.getElem?_eq_none (by simp; omega), Array.getElem?_eq_none (by omega)]
@[simp, go_sem] theorem oq_x (o : OpQ) : sub (oq o) 12 3 = xc o.x := by
  apply Array.ext_getElem?
  intro i
  unfold sub oq
  by_cases hi : i < 3
  · rw [Array.getElem?_extract, if_pos (by simp; omega), Array.getElem?_append_right (by simp; omega), Array.getElem?_append_right (by simp; omega)]
    simp
    congr 1
    omega
  · rw [Array.getElem?_eq_none (by simp; omega), Array.getElem?_eq_none (by simp; omega)]
@[simp, go_sem] theorem oq_all (o : OpQ) : sub (oq o) 0 15 = oq o := sub_all _ _ (by simp)
def aq (n : Int) (x : X3) (is : Bool) : Array Value := #[.int .i64 n, .int .i64 x.a, .int .i64 x.b, .int .i64 x.c, .bool is]
@[simp, go_sem] theorem aq_size (n : Int) (x : X3) (is : Bool) : (aq n x is).size = 5 := rfl
@[simp, go_sem] theorem aq_ne (n : Int) (x : X3) (is : Bool) : aq n x is ≠ #[] := fun e => by have := aq_size n x is; rw [e] at this; cases this
@[simp, go_sem] theorem aq_all (n : Int) (x : X3) (is : Bool) : sub (aq n x is) 0 5 = aq n x is := sub_all _ _ (by simp)
theorem aq_one (n : Int) (x : X3) (is : Bool) : ∀ v ∈ aq n x is, v.oneCell' = true := by
  intro v hv
  simp [aq] at hv
  rcases hv with rfl | rfl | rfl | rfl | rfl <;> rfl
@[simp, go_sem] theorem aq_0 (n : Int) (x : X3) (is : Bool) : (aq n x is)[0]? = some (.int .i64 n) := rfl
@[simp, go_sem] theorem aq_at0 (n : Int) (x : X3) (is : Bool) (h : 0 < (aq n x is).size) : (aq n x is)[0]'h = .int .i64 n := rfl
theorem aq_lit : (#[.int .i64 0, .int .i64 0, .int .i64 0, .int .i64 0, .bool false] : Array Value) = aq 0 zeroX false := rfl
theorem agg38 (w : World) : (isAgg 38).run Try.prog w = .ok true w := by kernel_rfl
theorem siz38 (w : World) : (sizeOf 38).run Try.prog w = .ok 15 w := by kernel_rfl
@[go_sem] theorem ldOp (w : World) (b off : Nat) (h : off + 15 ≤ (row? w b).size) : (ldAt 38 (.pointer (some ⟨b, off, none⟩))).run Try.prog w = .ok (.agg (sub (row? w b) off 15)) w := run_ldAt_agg agg38 siz38 w b off h
@[go_sem] theorem stOp (w : World) (b : Nat) (o : OpQ) (h : (row? w b).size = 15) (ho : own? w b = true) : (stAt 38 (.pointer (some ⟨b, 0, none⟩)) (.agg (oq o))).run Try.prog w = .ok () (w.setRow b (oq o)) :=
  run_stAt_row siz38 w b _ (Array.all_eq_true_iff_forall_mem.2 (oq_one o)) (by simp) h ho
theorem agg40 (w : World) : (isAgg 40).run Try.prog w = .ok true w := by kernel_rfl
theorem siz40 (w : World) : (sizeOf 40).run Try.prog w = .ok 5 w := by kernel_rfl
@[go_sem] theorem ldAns (w : World) (b off : Nat) (h : off + 5 ≤ (row? w b).size) : (ldAt 40 (.pointer (some ⟨b, off, none⟩))).run Try.prog w = .ok (.agg (sub (row? w b) off 5)) w := run_ldAt_agg agg40 siz40 w b off h
@[go_sem] theorem stAns (w : World) (b : Nat) (n : Int) (x : X3) (is : Bool) (h : (row? w b).size = 5) (ho : own? w b = true) : (stAt 40 (.pointer (some ⟨b, 0, none⟩)) (.agg (aq n x is))).run Try.prog w = .ok () (w.setRow b (aq n x is)) :=
  run_stAt_row siz40 w b _ (Array.all_eq_true_iff_forall_mem.2 (aq_one n x is)) (by simp) h ho
theorem aq_put (n : Int) (x y : X3) (is : Bool) : wrL (xc y).toList 1 (aq n x is) = aq n y is := rfl
theorem stXP (w : World) (b : Nat) (n : Int) (x y : X3) (is : Bool) (hr : row? w b = aq n x is) (ho : own? w b = true) : (stAt 36 (.pointer (some ⟨b, 1, none⟩)) (.agg (xc y))).run Try.prog w = .ok () (w.setRow b (aq n y is)) := by
  have h := run_stAt_part siz36 w b 1 (xc y) (xc_one y) (by simp) (by rw [hr]; simp) ho
  rw [hr, aq_put] at h
  exact h
structure AnQ where
  n : Int
  x : X3
  is : Bool
deriving DecidableEq
def doB (pb : PB) (o : OpQ) (g : Nat) : PB × AnQ :=
  if o.kd = 0 then ((nextB pb o.ty).1, ⟨(nextB pb o.ty).2, zeroX, false⟩)
  else if o.kd = 1 then ((freshB pb o.p o.ty o.q g).1, ⟨0, zeroX, (freshB pb o.p o.ty o.q g).2⟩)
  else if o.kd = 2 then ((keepB pb o.p o.q o.x).1, ⟨0, zeroX, (keepB pb o.p o.q o.x).2⟩)
  else if o.kd = 3 then ((takeQ pb o.p o.q).1, ⟨0, (takeQ pb o.p o.q).2.1, (takeQ pb o.p o.q).2.2⟩)
  else if o.kd = 4 then ((forgetB pb o.p).1, ⟨0, zeroX, (forgetB pb o.p).2⟩)
  else (pb, ⟨0, zeroX, false⟩)
theorem doB_ok {pb : PB} (h : pb.Ok) (o : OpQ) (g : Nat) : (doB pb o g).1.Ok := by
  unfold doB
  split
  · exact nextB_ok h _
  split
  · exact freshB_ok h _ _ _ _
  split
  · exact keepB_ok h _ _ _
  split
  · exact takeQ_ok h _ _
  split
  · exact forgetB_ok h _
  · exact h
theorem results_cell {P : Program} {fn : Func} {t ty b : Nat} {tmps : Array Value} {w : World} {v : Value} (h : fn.results = #[.cell t ty]) (ht : tmps.getD t undef = .pointer (some ⟨b, 0, none⟩)) (hv : (ldAt ty (.pointer (some ⟨b, 0, none⟩))).run P w = .ok v w) : (results fn tmps).run P w = .ok v w := by
  have hv' : (loadVar ty ⟨b, 0, none⟩).run P w = .ok v w := by
    unfold ldAt Instr.loadAt at hv
    simpa [Instr.sureAddr] using hv
  have ht' : tmps[t]?.getD undef = .pointer (some ⟨b, 0, none⟩) := by simpa using ht
  simp [results, h, ht', asAddr, hv']
end Go.Proofs.Ytoblgdjjpbnemaa
