/-
  The walk of best.Port. No condition but that there are at most 1000.
-/
import Derived.Test.YtcjbopobgpfjlaaBpA
namespace Go.Proofs.Ytcjbopobgpfjlaa
open Go.RowKit Go.Shelf

theorem heard_c (r : Prt) (a : Option Addr) (len cap : Nat) (w : World) : Calls Try.prog 45 #[.slice a len cap, .agg (pa r)] w fun e w' => e = .returned (.func (.func 51) #[] #[.pointer (some ⟨w.heap.size, 0, none⟩), .pointer (some ⟨w.heap.size + 1, 0, none⟩)]) ∧ w' = (w.alloc (.cells #[.slice a len cap] 35)).alloc (.cells (pa r) 27) := by
  go_enter Try.func45, Try.ntmps45
  go_wp2
  go_ret
  exact ⟨rfl, rfl⟩
def CellsAt (W : World) (b : Nat) (A : Array Value) (t : TypeId) : Prop := W.heap[b]? = some (.cells A t (0, 0))
theorem CellsAt.lt {W : World} {b : Nat} {A : Array Value} {t : TypeId} (h : CellsAt W b A t) : b < W.heap.size := (Array.getElem?_eq_some_iff.1 h).1
theorem CellsAt.row {W : World} {b : Nat} {A : Array Value} {t : TypeId} (h : CellsAt W b A t) : row? W b = A := by unfold row?; rw [show W.heap[b]? = _ from h]; rfl
theorem CellsAt.own {W : World} {b : Nat} {A : Array Value} {t : TypeId} (h : CellsAt W b A t) : own? W b = true := by unfold own?; rw [show W.heap[b]? = _ from h]; rfl
theorem CellsAt.new (W : World) (A : Array Value) (t : TypeId) : CellsAt (W.alloc (.cells A t)) W.heap.size A t := World.alloc_heap_new W _
theorem CellsAt.kept {W W' : World} {row : Option Nat} {b : Nat} {A : Array Value} {t : TypeId} (h : CellsAt W b A t) (hg : W.grownBy W' row) (hne : some b ≠ row) : CellsAt W' b A t := (hg.block b h.lt hne).trans h
theorem CellsAt.alloc {W : World} {b : Nat} {A : Array Value} {t : TypeId} (h : CellsAt W b A t) (o : Obj) : CellsAt (W.alloc o) b A t := h.kept (World.grownBy_alloc W o none) (by simp)
theorem cells_own {β : Type} (b : Nat) (A : Array Value) (t : TypeId) : Own (fun (_ : β) W => CellsAt W b A t) := fun _ X Y row hs hg hrow =>
  hs.kept hg (fun e' => by obtain ⟨o, ho, hc⟩ := hrow b e'.symm; rw [show X.heap[b]? = _ from hs] at ho; cases ho; cases hc)
theorem CellsAt.not_row {W : World} {b : Nat} {t e : TypeId} {A : Array Value} (h : CellsAt W b A t) (hte : t ≠ e) {base size k : Nat} {v : Value} {xs : List Value} (hr : W.ownsRow base e size v k xs) : some b ≠ v.ownBlock := by
  rcases hr.2 with ⟨rfl, _⟩ | ⟨g, cap, cur, rfl, _, hgb, _⟩
  · simp [Value.ownBlock]
  · intro e'
    obtain rfl : b = g := by simpa [Value.ownBlock] using e'
    have := (show W.heap[b]? = _ from h).symm.trans hgb
    simp at this
    exact hte this.2
theorem results_c1 {P : Program} {fn : Func} {t ty b : Nat} {tmps : Array Value} {w : World} {v : Value} (h : fn.results = #[.cell t ty]) (ht : tmps.getD t undef = .pointer (some ⟨b, 0, none⟩)) (hv : (ldAt ty (.pointer (some ⟨b, 0, none⟩))).run P w = .ok v w) : (results fn tmps).run P w = .ok v w := by
  have hv' : (loadVar ty ⟨b, 0, none⟩).run P w = .ok v w := by
    unfold ldAt Instr.loadAt at hv
    simpa [Instr.sureAddr] using hv
  have ht' : tmps[t]?.getD undef = .pointer (some ⟨b, 0, none⟩) := by simpa using ht
  simp [results, h, ht', asAddr, Sem.run_bind, hv']
theorem results_c2 {P : Program} {fn : Func} {t ty b u : Nat} {tmps : Array Value} {w : World} {v : Value} (h : fn.results = #[.cell t ty, .tmp u]) (ht : tmps.getD t undef = .pointer (some ⟨b, 0, none⟩)) (hv : (ldAt ty (.pointer (some ⟨b, 0, none⟩))).run P w = .ok v w) : (results fn tmps).run P w = .ok (.tuple #[v, tmps.getD u undef]) w := by
  have hv' : (loadVar ty ⟨b, 0, none⟩).run P w = .ok v w := by
    unfold ldAt Instr.loadAt at hv
    simpa [Instr.sureAddr] using hv
  have ht' : tmps[t]?.getD undef = .pointer (some ⟨b, 0, none⟩) := by simpa using ht
  simp [results, h, ht', asAddr, Sem.run_bind, hv']
theorem atS_no (n cap : Nat) (a : Option Addr) (k : Int) (h : k < 0) {W : World} : Fg Try.prog 46 #[.slice a n cap, .int .i64 k] (.tuple #[.agg (sa zeroS), .bool false]) W := by
  intro d
  go_enter Try.func46, Try.ntmps46
  go_wp2
  obtain ⟨W1, hE, r4, _, u1, _⟩ := newblk W d (sa zeroS) (sa zeroS) 29 (by simp)
  rw [hE]
  refine bodyPost_ret (results_c2 rfl rfl (v := .agg (sa zeroS)) (by go_simp)) rfl ⟨rfl, u1 _⟩
theorem atS_yes (xs : List Sett) (cap : Nat) (a : Option Addr) (k : Nat) (hk : k < xs.length) {W : World} (hX : ∀ d, RowsIn sa zeroS 32 (gr W d) a xs) :
    Fg Try.prog 46 #[.slice a xs.length cap, .int .i64 k] (.tuple #[.agg (sa (xs.getD k zeroS)), .bool true]) W := by
  intro d
  have h0 : xs ≠ [] := by intro e; rw [e] at hk; simp at hk
  obtain ⟨b, off, rfl, _⟩ := (hX W).at h0
  have s1 := fun d => ((show RowsAt sa zeroS 32 (gr W d) b off xs from by obtain ⟨c', off', e, hs⟩ := (hX d).at h0; cases e; exact hs) k hk).1
  have s2 := fun d => ((show RowsAt sa zeroS 32 (gr W d) b off xs from by obtain ⟨c', off', e, hs⟩ := (hX d).at h0; cases e; exact hs) k hk).2
  have h1 : (k : Int) < (xs.length : Int) := by omega
  generalize xs.getD k zeroS = v at *
  clear hX h0
  go_enter Try.func46, Try.ntmps46
  go_upto_region 3 with (fail)
  obtain ⟨W1, c, hE, ec, r4, u1⟩ : ∃ W1 c, (gr W d).alloc (.cells (sa zeroS) 29) = gr W1 W1 ∧ (gr W d).heap.size = c ∧ ((∀ d, row? (gr W1 d) c = sa zeroS) ∧ (∀ d, own? (gr W1 d) c = true)) ∧ (∀ d, ∃ d', gr W1 d = gr W d') :=
    ⟨_, _, gr_self _, rfl, ⟨gr_row (by simp [row_alloc, rowOf]) (by simp), gr_own (by simp [own_alloc, ownOf])⟩, fun e => gr_ex (((gr_below W d).alloc (gr_below W d).size _).trans ((gr_below _ e).mono (by have := (gr_below W d).size; simp; omega)))⟩
  rw [hE]
  simp only [ec]
  clear hE
  have u1 := u1
  have s1' := fun d => upT u1 (T := fun w => off + k * 32 + 32 ≤ (row? w b).size) (fun d => s1 d) d
  have s2' := fun d => upT u1 (T := fun w => sub (row? w b) (off + k * 32) 32 = sa v) (fun d => s2 d) d
  obtain ⟨r5, o5⟩ := r4
  clear s1 s2
  go_wp2
  have hw : Below W.heap.size W (gr W1 W1) := by
    obtain ⟨d', e⟩ := u1 W1
    rw [e]
    exact gr_below W d'
  obtain ⟨W2, hE, r6, _, b2⟩ := setb (w0 := W) (b := c) (B := sa v) (by rw [← ec]; exact (gr_below W d).size) (r5 W1) (o5 W1) (by simp) hw
  rw [hE]
  refine bodyPost_ret (results_c2 rfl rfl (v := .agg (sa v)) ?_) rfl ⟨rfl, gr_ex b2⟩
  rw [ldSet _ _ _ (by rw [r6]; simp), r6]
  simp
theorem wpRow_new {P : Program} {ops : Array Oper} {Q : Exit → Act → World → Prop} {S : World → Prop} {k : Nat} {ks : List Nat} {o : Oper} {a : Act} {w w' : World} {v : Value} (ho : ops[k]? = some o) (hg : o.guard = none) (h : (execOp a.eval o).run P w = .ok (.value v) w') (hS : S w')
    (hk : wpRow P ops Q S ks (a.put o.dst v) w') : wpRow P ops Q S (k :: ks) a w := by
  unfold wpRow wpOp
  rw [ho]
  simp only [Region.wanted, hg, if_true]
  left
  unfold Oper.wp
  rw [h]
  exact ⟨hS, hk⟩
end Go.Proofs.Ytcjbopobgpfjlaa
