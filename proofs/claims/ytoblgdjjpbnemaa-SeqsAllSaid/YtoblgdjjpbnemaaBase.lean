/-
  Small laws of our own for the walks of this seat, over any program: what the rows of a world hold (row?), worlds that extend a world (gr), a region that draws its order and whose calls make memory, loads and stores of whole aggregates. No condition.
-/
import Derived.WalkKit
import Derived.WalkSpells
import Derived.WalkLawsBesides
import Derived.Deep.QuietTactic
import Derived.BigQuiet
import Derived.StillTail
namespace Go.Proofs.Ytoblgdjjpbnemaa
open Go.RowKit

theorem hid {p : Prop} (h : p) : Hid p := h

/-- The cells of an object, none if it is no row of cells. -/
def rowOf : Obj → Array Value
  | .cells c _ _ => c
  | _ => #[]
/-- Is it a row of cells with no frozen range? -/
def ownOf : Obj → Bool
  | .cells _ _ fr => fr == (0, 0)
  | _ => false
def row? (w : World) (b : Nat) : Array Value := match w.heap[b]? with | some o => rowOf o | none => #[]
def own? (w : World) (b : Nat) : Bool := match w.heap[b]? with | some o => ownOf o | none => false

@[go_sem] theorem rowOf_cells (c : Array Value) (t : TypeId) (fr : Nat × Nat) : rowOf (.cells c t fr) = c := congrArg (fun x => x) rfl
@[go_sem] theorem ownOf_cells (c : Array Value) (t : TypeId) : ownOf (.cells c t (0, 0)) = true := congrArg (fun x => x) rfl

theorem cell_row (w : World) (b j : Nat) : w.cell? ⟨b, j, none⟩ = (row? w b)[j]? := by
  unfold World.cell? row?
  cases h : w.heap[b]? with
  | none => simp
  | some o => cases o <;> simp [rowOf]
theorem frozen_own {w : World} {b j : Nat} (h : own? w b = true) : w.frozen? ⟨b, j, none⟩ = false := by
  unfold own? at h
  unfold World.frozen?
  cases hb : w.heap[b]? with
  | none => rfl
  | some o =>
    rw [hb] at h
    cases o with
    | cells c t fr =>
      simp only [ownOf, beq_iff_eq] at h
      subst h
      simp
    | _ => rfl
attribute [go_sem] cell_row frozen_own

@[go_sem] theorem ne_2 (n : Nat) : (n = n + 1 + 1) = False := by simp <;> omega
@[go_sem] theorem ne_2' (n : Nat) : (n + 1 + 1 = n) = False := by simp <;> omega
@[go_sem] theorem ne_3 (n : Nat) : (n = n + 1 + 1 + 1) = False := by simp <;> omega
@[go_sem] theorem ne_3' (n : Nat) : (n + 1 + 1 + 1 = n) = False := by simp <;> omega
@[go_sem] theorem ne_4 (n : Nat) : (n = n + 1 + 1 + 1 + 1) = False := by simp <;> omega
@[go_sem] theorem ne_4' (n : Nat) : (n + 1 + 1 + 1 + 1 = n) = False := by simp <;> omega
@[go_sem] theorem row_alloc (w : World) (o : Obj) (b : Nat) : row? (w.alloc o) b = if b = w.heap.size then rowOf o else row? w b := by
  unfold row? World.alloc
  simp only [Array.getElem?_push]
  by_cases h : b = w.heap.size <;> simp [h]
@[go_sem] theorem own_alloc (w : World) (o : Obj) (b : Nat) : own? (w.alloc o) b = if b = w.heap.size then ownOf o else own? w b := by
  unfold own? World.alloc
  simp only [Array.getElem?_push]
  by_cases h : b = w.heap.size <;> simp [h]
@[go_sem] theorem row_drew (w : World) (b : Nat) : row? w.drew b = row? w b := congrArg (fun x => x) rfl
@[go_sem] theorem own_drew (w : World) (b : Nat) : own? w.drew b = own? w b := congrArg (fun x => x) rfl
@[go_sem] theorem row_drewN (w : World) (n b : Nat) : row? (w.drewN n) b = row? w b := congrArg (fun x => x) rfl
@[go_sem] theorem own_drewN (w : World) (n b : Nat) : own? (w.drewN n) b = own? w b := congrArg (fun x => x) rfl
@[go_sem] theorem row_setCell (w : World) (c j b : Nat) (v : Value) : row? (w.setCell ⟨c, j, none⟩ v) b = if b = c then (row? w b).setIfInBounds j v else row? w b := by
  unfold row? World.setCell
  simp only [Array.getElem?_modify]
  by_cases h : c = b
  · subst h
    simp only [if_true]
    cases hb : w.heap[c]? with
    | none => simp
    | some o => cases o <;> simp [rowOf]
  · simp [h, Ne.symm h]
@[go_sem] theorem own_setCell (w : World) (a : Addr) (b : Nat) (v : Value) : own? (w.setCell a v) b = own? w b := by
  unfold own? World.setCell
  simp only [Array.getElem?_modify]
  by_cases h : a.block = b
  · rw [h]
    simp only [if_true]
    cases hb : w.heap[b]? with
    | none => simp
    | some o => cases o <;> simp [ownOf]
  · simp [h]
@[go_sem] theorem row_setRow (w : World) (c b : Nat) (cs : Array Value) (h : row? w c ≠ #[]) : row? (w.setRow c cs) b = if b = c then cs else row? w b := by
  unfold row? World.setRow
  simp only [Array.getElem?_modify]
  by_cases hc : c = b
  · subst hc
    simp only [if_true]
    unfold row? at h
    cases hb : w.heap[c]? with
    | none => simp [hb] at h
    | some o => cases o <;> simp [hb, rowOf] at h ⊢
  · simp [hc, Ne.symm hc]
@[go_sem] theorem own_setRow (w : World) (c b : Nat) (cs : Array Value) : own? (w.setRow c cs) b = own? w b := by
  unfold own? World.setRow
  simp only [Array.getElem?_modify]
  by_cases h : c = b
  · subst h
    simp only [if_true]
    cases hb : w.heap[c]? with
    | none => simp
    | some o => cases o <;> simp [ownOf]
  · simp [h]

/-- 'd', if it extends w; else w itself. -/
noncomputable def gr (w d : World) : World := by
  classical exact if Below w.heap.size w d then d else w
theorem gr_below (w d : World) : Below w.heap.size w (gr w d) := by
  unfold gr
  split
  · assumption
  · exact Below.refl _ _
theorem gr_of {w d : World} (h : Below w.heap.size w d) : d = gr w d := by
  unfold gr
  rw [if_pos h]
theorem gr_self (w : World) : w = gr w w := gr_of (Below.refl _ _)
theorem gr_ex {w d : World} (h : Below w.heap.size w d) : ∃ x, d = gr w x := ⟨d, gr_of h⟩
theorem gr_gr (w a b : World) : ∃ d, gr (gr w a) b = gr w d :=
  gr_ex ((gr_below w a).trans ((gr_below (gr w a) b).mono (gr_below w a).size))
theorem gr_drew (w a : World) : ∃ d, (gr w a).drew = gr w d := gr_ex (gr_below w a).drew
theorem gr_alloc (w a : World) (o : Obj) : ∃ d, (gr w a).alloc o = gr w d := gr_ex ((gr_below w a).alloc (gr_below w a).size o)
theorem gr_ext {w a w' : World} (h : Below (gr w a).heap.size (gr w a) w') : ∃ d, w' = gr w d :=
  gr_ex ((gr_below w a).trans (h.mono (gr_below w a).size))
/-- What the world w0 was extended to is an extension of the world at the begin. -/
theorem below_gr {B : Nat} {w w0 : World} (h : Below B w w0) (hB : B ≤ w0.heap.size) (d : World) : Below B w (gr w0 d) :=
  h.trans ((gr_below w0 d).mono hB)
theorem row_of_block {w w' : World} {b : Nat} (h : w'.heap[b]? = w.heap[b]?) : row? w' b = row? w b := by unfold row?; rw [h]
theorem own_of_block {w w' : World} {b : Nat} (h : w'.heap[b]? = w.heap[b]?) : own? w' b = own? w b := by unfold own?; rw [h]
theorem row_lt {w : World} {b : Nat} (h : row? w b ≠ #[]) : b < w.heap.size := by
  unfold row? at h
  cases hb : w.heap[b]? with
  | none => simp [hb] at h
  | some o => exact (Array.getElem?_eq_some_iff.1 hb).1
theorem own_lt {w : World} {b : Nat} (h : own? w b = true) : b < w.heap.size := by
  unfold own? at h
  cases hb : w.heap[b]? with
  | none => simp [hb] at h
  | some o => exact (Array.getElem?_eq_some_iff.1 hb).1
theorem Below_row {B : Nat} {w w' : World} (h : Below B w w') {b : Nat} (hb : b < B) : row? w' b = row? w b := row_of_block (h.block b hb)
theorem Below_own {B : Nat} {w w' : World} (h : Below B w w') {b : Nat} (hb : b < B) : own? w' b = own? w b := own_of_block (h.block b hb)
/-- A fact on a row, in every extension. -/
theorem gr_row {w : World} {b : Nat} {cs : Array Value} (h : row? w b = cs) (hb : b < w.heap.size) (d : World) : row? (gr w d) b = cs := by
  rw [Below_row (gr_below w d) hb, h]
theorem gr_own {w : World} {b : Nat} (h : own? w b = true) (d : World) : own? (gr w d) b = true := by
  rw [Below_own (gr_below w d) (own_lt h), h]
theorem Below.all {B : Nat} {w w' : World} (h : Below B w w') (hB : w.heap.size ≤ B) : Below w.heap.size w w' := h.mono hB

theorem ownsRow_gr {w : World} {base : Nat} {e : TypeId} {size : Nat} {v : Value} {n : Nat} {xs : List Value} (h : w.ownsRow base e size v n xs) (d : World) : (gr w d).ownsRow base e size v n xs := by
  obtain ⟨h1, h2⟩ := h
  refine ⟨h1, ?_⟩
  rcases h2 with h2 | ⟨g, cap, cur, hv, hg, hh, r⟩
  · exact Or.inl h2
  · have hlt := (Array.getElem?_eq_some_iff.1 hh).1
    exact Or.inr ⟨g, cap, cur, hv, hg, by rw [(gr_below w d).block g hlt]; exact hh, r⟩
theorem own_block_le {w : World} {base : Nat} {e : TypeId} {size : Nat} {v : Value} {n : Nat} {xs : List Value} (h : w.ownsRow base e size v n xs) : ∀ k, v.ownBlock = some k → base ≤ k := by
  intro k hk
  rcases h.2 with ⟨rfl, _⟩ | ⟨g, cap, cur, rfl, hg, _⟩
  · cases hk
  · cases hk; exact hg
theorem run_convert_own {P : Program} {w : World} {base : Nat} {src e : TypeId} (hs : P.underlying src = some (.slice e)) (he : P.underlying e = some (.int .u8)) {v : Value} {n : Nat} {xs : List Int}
    (h : w.ownsRow base e 1 v n (xs.map (Value.int .u8))) (dst : TypeId) (hd : P.underlying dst = some .string) : (convert src dst v).run P w = .ok (.string (strOfNums xs)) w := by
  obtain ⟨h1, h2⟩ := h
  have hn : xs.length = n := by simpa using h1
  rcases h2 with ⟨rfl, h0⟩ | ⟨g, cap, cur, rfl, _, hh, hc, _, hsz, htk⟩
  · obtain rfl : xs = [] := List.length_eq_zero_iff.1 (by omega)
    rw [run_convert_bytes_nil w src e hs he 0 0 dst hd]
    rfl
  · refine run_convert_bytes_arg w src e hs he g 0 n cap xs hn (fun i hi => ?_) dst hd
    rw [Nat.zero_add, cell_of_row w g i cur e (0, 0) hh]
    have : cur.toList[i]? = some (.int .u8 (xs.getD i 0)) := by
      have h3 : (cur.toList.take (n * 1))[i]? = cur.toList[i]? := by rw [List.getElem?_take]; simp; omega
      rw [← h3, htk]
      simp [show i < xs.length by omega]
    simpa using this
/-- A region that draws its order, whose operations read and whose calls hand back what does not hang on the world and extend it: one walk, in the text's order. -/
theorem wp_region_gr {P : Program} {id : Nat} {Q : Exit → Act → World → Prop} {a : Act} {w0 : World} {l : List Oper} (W : World) (hm : P.follows .mixedOrders = true) (hB : Region.lexB .any l.toArray = true)
    (hw : ∃ d, w0 = gr W d)
    (h : wpQuiet P l.toArray (fun w' => ∃ d, w' = gr W d) (fun a' => ∀ w', (∃ d, w' = gr W d) → Q .normal a' w') l a) : (Code.region id l.toArray true).wp P Q a w0 := by
  obtain ⟨d, rfl⟩ := hw
  obtain ⟨d', hd'⟩ := gr_drew W d
  exact wp_region_quiet (C := fun w' => ∃ d, w' = gr W d) hm hB ⟨d', hd'⟩ (by simpa using h)

/-- A contract of a function that computes: the value, and what is there stays as it was. -/
def Fn (P : Program) (f : FuncId) (args : Array Value) (v : Value) : Prop :=
  ∀ w, Calls P f args w fun e w' => e = .returned v ∧ Below w.heap.size w w'
/-- .. at a call in a quiet region. -/
theorem Fn.q {P : Program} {f : FuncId} {args : Array Value} {v : Value} (h : Fn P f args v) {W d : World} :
    Calls P f args (gr W d) fun e w'' => e = .returned v ∧ ∃ m, w'' = gr W m :=
  (h _).mono fun _ _ ⟨he, hb⟩ => ⟨he, gr_ext hb⟩
/-- .. at a call in a walk. -/
theorem Fn.c {P : Program} {f : FuncId} {args : Array Value} {v : Value} (h : Fn P f args v) {W d : World} {R : Ending → World → Prop}
    (k : ∀ m, R (.returned v) (gr W m)) : Calls P f args (gr W d) R :=
  (h _).mono fun _ _ ⟨he, hb⟩ => by
    obtain ⟨m, rfl⟩ := gr_ext hb
    subst he
    exact k m

theorem ret_int {k : IntKind} {a b : Int} (h : a = b) : Ending.returned (.int k a) = .returned (.int k b) := by rw [h]
theorem ret_bool {a b : Bool} (h : a = b) : Ending.returned (.bool a) = .returned (.bool b) := by rw [h]

/-! ### Loads and stores of aggregates -/
/-- 'Instr.loadAt' and 'Instr.storeAt', kept shut. -/
def ldAt (t : TypeId) (v : Value) : Sem Value := Instr.loadAt t v
def stAt (t : TypeId) (v u : Value) : Sem Unit := Instr.storeAt t v u
theorem loadAt_fold (t : TypeId) (v : Value) : Instr.loadAt t v = ldAt t v := rfl
theorem storeAt_fold (t : TypeId) (v u : Value) : Instr.storeAt t v u = stAt t v u := rfl
attribute [go_sem ↓] loadAt_fold storeAt_fold

theorem run_loadCells_row {P : Program} (w : World) (b off n : Nat) (h : off + n ≤ (row? w b).size) :
    (loadCells ⟨b, off, none⟩ n).run P w = .ok ((row? w b).extract off (off + n)) w := by
  have hl := run_loadCells_list (P := P) w ⟨b, off, none⟩ ((row? w b).extract off (off + n)).toList (fun j v hv => by
    have hadd : (⟨b, off, none⟩ : Addr).add j = ⟨b, off + j, none⟩ := by unfold Addr.add; split <;> simp_all
    rw [hadd, cell_row]
    have hj : j < n := by
      have := (List.getElem?_eq_some_iff.1 hv).1
      simp at this
      omega
    rw [← hv]
    simp only [Array.getElem?_toList, Array.getElem?_extract]
    rw [if_pos (by omega)])
  have hlen : ((row? w b).extract off (off + n)).toList.length = n := by simp; omega
  rw [hlen, Array.toArray_toList] at hl
  exact hl
/-- 'Instr.build', kept shut. -/
def bld (t : TypeId) (parts : Array (Nat × Value)) : Sem Value := Instr.build t parts
theorem build_fold (t : TypeId) (parts : Array (Nat × Value)) : Instr.build t parts = bld t parts := rfl
attribute [go_sem ↓] build_fold
theorem run_bld {P : Program} (w : World) {t : TypeId} {parts : Array (Nat × Value)} {cells : Array Value} (h : P.built t parts.toList = some cells) : (bld t parts).run P w = .ok (.agg cells) w := run_build w t parts cells h
/-- n cells from a place on. -/
def sub (a : Array Value) (off n : Nat) : Array Value := a.extract off (off + n)
theorem sub_all (a : Array Value) (n : Nat) (h : a.size = n) : sub a 0 n = a := by
  subst h
  simp [sub]
/-- A load of an aggregate of n cells. -/
theorem run_ldAt_agg {P : Program} {t : TypeId} {n : Nat} (ha : ∀ w, (isAgg t).run P w = .ok true w) (hs : ∀ w, (sizeOf t).run P w = .ok n w) (w : World) (b off : Nat) (h : off + n ≤ (row? w b).size) :
    (ldAt t (.pointer (some ⟨b, off, none⟩))).run P w = .ok (.agg (sub (row? w b) off n)) w := by
  unfold sub ldAt Instr.loadAt Instr.sureAddr loadVar
  simp [Sem.run_bind, ha, hs, run_loadCells_row w b off n h]
/-- A load of one cell. -/
@[go_sem] theorem run_ldAt_one {P : Program} {t : TypeId} (w : World) (a : Addr) (ha : (isAgg t).run P w = .ok false w) :
    (ldAt t (.pointer (some a))).run P w = (load a).run P w := by
  unfold ldAt Instr.loadAt Instr.sureAddr loadVar
  simp [Sem.run_bind, ha]
def OneC (v : Value) : Prop := v.oneCell' = true
@[go_sem] theorem one_int (k : IntKind) (n : Int) : OneC (Value.int k n) := rfl
@[go_sem] theorem one_bool (b : Bool) : OneC (Value.bool b) := rfl
@[go_sem] theorem one_slice (a : Option Addr) (n c : Nat) : OneC (Value.slice a n c) := rfl
@[go_sem] theorem one_pointer (a : Option Addr) : OneC (Value.pointer a) := rfl
@[go_sem] theorem one_string (s : ByteArray) : OneC (Value.string s) := rfl
@[go_sem] theorem one_func (f : Go.Fn) (a c : Array Value) : OneC (Value.func f a c) := rfl
@[go_sem] theorem one_map (a : Option Nat) : OneC (Value.map a) := rfl
@[go_sem] theorem one_chan (a : Option Nat) : OneC (Value.chan a) := rfl
/-- A store of one cell. -/
@[go_sem] theorem run_stAt_one {P : Program} {t : TypeId} (w : World) (b off : Nat) (v : Value) (hs : (sizeOf t).run P w = .ok 1 w) (hv : OneC v) (h : off < (row? w b).size) (ho : own? w b = true) :
    (stAt t (.pointer (some ⟨b, off, none⟩)) v).run P w = .ok () (w.setCell ⟨b, off, none⟩ v) := by
  have hc : w.cell? ⟨b, off, none⟩ = some (row? w b)[off] := by rw [cell_row]; simp [h]
  have hf : w.frozen? ⟨b, off, none⟩ = false := frozen_own ho
  unfold OneC at hv
  have hcl : v.cells = #[v] := by cases v <;> first | rfl | simp [Value.oneCell'] at hv
  unfold stAt Instr.storeAt Instr.sureAddr storeVar
  simp only [Sem.run_bind, Sem.run_pure, hs, Result.andThen_ok, hcl]
  have hst := run_store P w ⟨b, off, none⟩ v .plain hv
  simp [storeCells, Addr.add, hst, hc, hf]
/-- A store of a whole row. -/
theorem run_stAt_row {P : Program} {t : TypeId} {n : Nat} (hs : ∀ w, (sizeOf t).run P w = .ok n w) (w : World) (b : Nat) (cs : Array Value) (hv : cs.all (·.oneCell') = true) (hn : cs.size = n) (h : (row? w b).size = n) (ho : own? w b = true) :
    (stAt t (.pointer (some ⟨b, 0, none⟩)) (.agg cs)).run P w = .ok () (w.setRow b cs) := by
  unfold own? at ho
  cases hb : w.heap[b]? with
  | none => simp [hb] at ho
  | some o =>
    rw [hb] at ho
    cases o with
    | cells c ty fr =>
      simp only [ownOf, beq_iff_eq] at ho
      subst ho
      have hr : row? w b = c := by unfold row?; rw [hb]; rfl
      rw [hr] at h
      have := run_storeCells_from (P := P) b ty cs.toList 0 c w hb (by simp; omega) (fun v hv' => (Array.all_eq_true_iff_forall_mem.1 hv) v (by simpa using hv'))
      unfold stAt Instr.storeAt Instr.sureAddr storeVar
      simp [Sem.run_bind, hs, Value.cells, hn, this]
    | _ => simp [ownOf] at ho
/-! ### Results that lie in a cell -/
theorem run_loadVar_agg {P : Program} {t : TypeId} {n : Nat} (ha : ∀ w, (isAgg t).run P w = .ok true w) (hs : ∀ w, (sizeOf t).run P w = .ok n w) {w : World} {b : Nat} {cs : Array Value} (hr : row? w b = cs) (hn : cs.size = n) :
    (loadVar t ⟨b, 0, none⟩).run P w = .ok (.agg cs) w := by
  subst hr
  have := run_loadCells_row (P := P) w b 0 n (by omega)
  unfold loadVar
  simp only [Sem.run_bind, ha, hs, Result.andThen_ok, if_true, this, Nat.zero_add, Sem.run_pure]
  congr 2
  subst hn
  simp
theorem res_c {P : Program} {fn : Func} {p : Tmp} {t : TypeId} {n : Nat} (h : fn.results = #[.cell p t]) (ha : ∀ w, (isAgg t).run P w = .ok true w) (hs : ∀ w, (sizeOf t).run P w = .ok n w)
    (tmps : Array Value) (w : World) (b : Nat) (cs : Array Value) (hp : tmps.getD p undef = .pointer (some ⟨b, 0, none⟩)) (hr : row? w b = cs) (hn : cs.size = n) :
    (results fn tmps).run P w = .ok (.agg cs) w := by
  have hp' : tmps[p]?.getD undef = .pointer (some ⟨b, 0, none⟩) := by simpa using hp
  simp [results, h, hp', asAddr, run_loadVar_agg ha hs hr hn]
theorem res_ct {P : Program} {fn : Func} {p u : Tmp} {t : TypeId} {n : Nat} (h : fn.results = #[.cell p t, .tmp u]) (ha : ∀ w, (isAgg t).run P w = .ok true w) (hs : ∀ w, (sizeOf t).run P w = .ok n w)
    (tmps : Array Value) (w : World) (b : Nat) (cs : Array Value) (hp : tmps.getD p undef = .pointer (some ⟨b, 0, none⟩)) (hr : row? w b = cs) (hn : cs.size = n) :
    (results fn tmps).run P w = .ok (.tuple #[.agg cs, tmps.getD u undef]) w := by
  have hp' : tmps[p]?.getD undef = .pointer (some ⟨b, 0, none⟩) := by simpa using hp
  simp [results, h, hp', asAddr, run_loadVar_agg ha hs hr hn]

theorem post_c {P : Program} {fn : Func} {p : Tmp} {t : TypeId} {n : Nat} {R : Ending → World → Prop} {a : Act} {w : World} (h : fn.results = #[.cell p t]) (ha : ∀ w, (isAgg t).run P w = .ok true w) (hs : ∀ w, (sizeOf t).run P w = .ok n w)
    (b : Nat) (cs : Array Value) (hp : a.tmps.getD p undef = .pointer (some ⟨b, 0, none⟩)) (hd : a.defers = []) (hr : row? w b = cs) (hn : cs.size = n) (hR : R (.returned (.agg cs)) w) : bodyPost P fn R .ret a w :=
  bodyPost_ret (res_c h ha hs a.tmps w b cs hp hr hn) hd hR
theorem post_ct {P : Program} {fn : Func} {p u : Tmp} {t : TypeId} {n : Nat} {R : Ending → World → Prop} {a : Act} {w : World} (h : fn.results = #[.cell p t, .tmp u]) (ha : ∀ w, (isAgg t).run P w = .ok true w) (hs : ∀ w, (sizeOf t).run P w = .ok n w)
    (b : Nat) (cs : Array Value) (v : Value) (hp : a.tmps.getD p undef = .pointer (some ⟨b, 0, none⟩)) (hu : a.tmps.getD u undef = v) (hd : a.defers = []) (hr : row? w b = cs) (hn : cs.size = n) (hR : R (.returned (.tuple #[.agg cs, v])) w) : bodyPost P fn R .ret a w := by
  have := res_ct h ha hs a.tmps w b cs hp hr hn
  rw [hu] at this
  exact bodyPost_ret this hd hR

/-! ### A region that draws its order: quiet at first (in a class of worlds), and a chain behind that -/
section
variable {P : Program} {ops : Array Oper} {md : Region.Mode} {C : World → Prop}
/-- Whatever comes up for f operations is one of the first n, and quiet; then L. -/
def Heads (P : Program) (md : Region.Mode) (ops : Array Oper) (C : World → Prop) (n : Nat) (L : Array Bool → Act → Prop) : Nat → Array Bool → Act → Prop
  | 0, s, a => L s a
  | f + 1, s, a => Region.ready md ops s ≠ [] ∧ ∀ i ∈ Region.ready md ops s, i < n ∧ qOp P ops C i (Heads P md ops C n L f (s.setIfInBounds i true)) a

theorem Heads.any {n g : Nat} {L : Array Bool → Act → Prop} {Q : Exit → Act → World → Prop} (hL : ∀ s a w, C w → L s a → wpAny P md ops Q g s a w) :
    ∀ (f : Nat) (s : Array Bool) (a : Act) (w : World), C w → Heads P md ops C n L f s a → wpAny P md ops Q (f + g) s a w := by
  intro f
  induction f with
  | zero => intro s a w hw h; rw [Nat.zero_add]; exact hL s a w hw h
  | succ f ih =>
    intro s a w hw h
    rw [Nat.add_right_comm]
    exact ⟨fun e => absurd e h.1, fun i hi => wpOp_of_qOp hw (fun a' w' hw' h' => ih _ a' w' hw' h') (h.2 i hi).2⟩

/-- One that may come up now may be taken first. -/
theorem Heads.first {n i : Nat} {o : Oper} {v : Value} {L : Array Bool → Act → Prop} (ho : ops[i]? = some o)
    (hsel : ∀ (j : Nat) (p : Oper) cs b, ops[j]? = some p → p.op ≠ .select cs b)
    (hs : Region.sinkB md ops n = true) (hc : Region.chainB md ops n = true) (hn : n < ops.size) (hin : i < n)
    (hL : ∀ s a, L s a → ∀ j ∈ Region.ready md ops s, n ≤ j) :
    ∀ (f : Nat) (s : Array Bool) (a : Act), HeadInv md ops n s →
      (∀ j p, ops[j]? = some p → j ≠ i → s.getD j true = false → (∀ e ∈ p.after, Region.binds md e = true → e.on ≠ i) → o.apart ops p = true) →
      i ∈ Region.ready md ops s → YieldsIn P ops C o v a →
      Heads P md ops C n L f (s.setIfInBounds i true) (a.put o.dst v) → Heads P md ops C n L (f + 1) s a := by
  intro f
  induction f with
  | zero =>
    intro s a inv _ hr hy H
    have hu := (mem_ready.1 hr).1
    refine ⟨List.ne_nil_of_mem hr, fun j hj => ?_⟩
    have hjn : j < n := Nat.lt_of_not_le fun h => tail_waits hs hc hn inv _ i rfl hin hu j h hj
    by_cases e : j = i
    · subst e
      exact ⟨hjn, hy.qOp ho H⟩
    · exact absurd (hL _ _ H j (ready_mono hj e)) (by omega)
  | succ f ih =>
    intro s a inv free hr hy H
    have hu := (mem_ready.1 hr).1
    refine ⟨List.ne_nil_of_mem hr, fun j hj => ?_⟩
    have hjn : j < n := Nat.lt_of_not_le fun h => tail_waits hs hc hn inv _ i rfl hin hu j h hj
    refine ⟨hjn, ?_⟩
    by_cases e : j = i
    · subst e
      exact hy.qOp ho H
    · obtain ⟨hju, p, hp, hall⟩ := mem_ready.1 hj
      have hno : ∀ d ∈ p.after, Region.binds md d = true → d.on ≠ i := by
        intro d hd hb he
        have h1 := hall d hd hb
        rw [he, getD_both hu] at h1
        cases h1
      have hq := qOp_put hp (free j p hp e hju hno) (fun cs b => hsel i o cs b ho) (fun cs b => hsel j p cs b hp) hy (H.2 j (ready_mono hj e)).2
      refine qOp_mono (fun a' h' => ?_) hq
      refine ih (s.setIfInBounds j true) a' (inv.set hj hjn) ?_ (ready_mono hr (Ne.symm e)) h'.1 ?_
      · intro k r hk hki hku hkn
        refine free k r hk hki ?_ hkn
        by_cases ejk : j = k
        · rw [← ejk]; exact hju
        · rw [getD_set_ne true ejk] at hku; exact hku
      · rw [Array.setIfInBounds_comm _ _ e]
        exact h'.2

theorem Heads.lex {n g : Nat} {Lq : Act → Prop} (hsel : Region.noSelect ops = true) (hs : Region.sinkB md ops n = true) (hc : Region.chainB md ops n = true) (hn : n < ops.size) :
    ∀ (l : List Oper) (k : Nat) (s : Array Bool) (a : Act), (∀ j, j < l.length → l[j]? = ops[k + j]?) → k + l.length = n → HeadInv md ops n s →
      Region.lexHead md ops g l.length k s = true → wpQuiet P ops C Lq l a →
      Heads P md ops C n (fun s' a' => Region.seqB md ops g n s' = true ∧ Lq a') l.length s a := by
  intro l
  induction l with
  | nil =>
    intro k s a _ hk _ hB h
    simp only [List.length_nil, Nat.add_zero] at hk
    subst hk
    exact ⟨hB, h⟩
  | cons o l ih =>
    intro k s a hl hk inv hB h
    have h0 : ops[k]? = some o := by
      have := hl 0 (Nat.zero_lt_succ _)
      simpa using this.symm
    simp only [List.length_cons, Region.lexHead, Bool.and_eq_true] at hB
    have hkn : k < n := by simp only [List.length_cons] at hk; omega
    have hr : k ∈ Region.ready md ops s := by simpa using hB.1.1
    obtain ⟨v, hy, hK⟩ := yieldsIn_of_qOp (K := wpQuiet P ops C Lq l) h0 (by unfold qOp; simp only [h0]; exact h)
    refine Heads.first h0 (Region.noSelect_spec hsel) hs hc hn hkn (fun s' a' hL => seqB_ready hL.1) _ s a inv (Region.free_spec h0 hB.1.2) hr hy ?_
    refine ih (k + 1) _ _ (fun j hj => ?_) (by simp only [List.length_cons] at hk; omega) (inv.set hr hkn) hB.2 hK
    have h1 := hl (j + 1) (by simp only [List.length_cons]; omega)
    rw [List.getElem?_cons_succ] at h1
    rw [h1]
    congr 1
    omega

theorem wp_region_quiet_tail {id : Nat} {Q : Exit → Act → World → Prop} {a : Act} {w : World} {l : List Oper} (n : Nat) (hm : P.follows .mixedOrders = true) (hB : Region.lexTailB .any l.toArray n = true)
    (hC : C { w with drawn := w.drawn + 1 })
    (h : wpQuiet P l.toArray C (fun a' => ∀ w', C w' → wpList P l.toArray Q (l.drop n) a' w') (l.take n) a) : (Code.region id l.toArray true).wp P Q a w := by
  simp only [Region.lexTailB, Bool.and_eq_true, decide_eq_true_eq] at hB
  obtain ⟨⟨⟨⟨hsel, hn⟩, hs⟩, hc⟩, hlex⟩ := hB
  have htl : (l.take n).length = n := by simp only [List.size_toArray] at hn; simp; omega
  have hdl : (l.drop n).length = l.toArray.size - n := by simp
  have inv : HeadInv .any l.toArray n (Array.replicate l.toArray.size false) := by
    refine ⟨by simp, fun j p _ hl => ?_, fun t _ ht => getD_in (by simpa using ht) (getD_replicate_false _ _)⟩
    rw [getD_replicate_false] at hl
    cases hl
  have H := Heads.lex (C := C) (md := .any) (g := l.toArray.size - n) hsel hs hc hn (l.take n) 0 _ a (fun j hj => by
    rw [htl] at hj
    simp [hj]) (by omega) inv (by rw [htl]; exact hlex) h
  have K := H.any (Q := Q) (g := l.toArray.size - n) (fun s a' w' hw' hL => by
    have := wpAny_of_seq (md := .any) (Q' := Q) (l.drop n) n s a' w' (fun j => by simp [List.getElem?_drop]) (by rw [hdl]; exact hL.1) (hL.2 w' hw')
    rwa [hdl] at this) _ _ _ _ hC
  rw [htl, show n + (l.toArray.size - n) = l.toArray.size by omega] at K
  exact wp_region_any hm K
end
/-- .. in the extensions of W. -/
theorem wp_region_gr_tail {P : Program} {id : Nat} {Q : Exit → Act → World → Prop} {a : Act} {w0 : World} {l : List Oper} (W : World) (n : Nat) (hm : P.follows .mixedOrders = true) (hB : Region.lexTailB .any l.toArray n = true)
    (hw : ∃ d, w0 = gr W d)
    (h : wpQuiet P l.toArray (fun w' => ∃ d, w' = gr W d) (fun a' => ∀ w', (∃ d, w' = gr W d) → wpList P l.toArray Q (l.drop n) a' w') (l.take n) a) : (Code.region id l.toArray true).wp P Q a w0 := by
  obtain ⟨d, rfl⟩ := hw
  obtain ⟨d', hd'⟩ := gr_drew W d
  exact wp_region_quiet_tail (C := fun w' => ∃ d, w' = gr W d) n hm hB ⟨d', hd'⟩ h

/-! ### Behind the boxes at a function's begin: the world is W from here on, and what extends it -/
theorem boxM1 (M : World → Prop) {w : World} {A : Array Value} {S : TypeId}
    (h : ∀ W, (∀ d, row? (gr W d) w.heap.size = A) → (∀ d, own? (gr W d) w.heap.size = true) → w.heap.size + 1 ≤ W.heap.size → (∀ d, Below w.heap.size w (gr W d)) → M (gr W W)) : M (w.alloc (.cells A S)) := by
  have k := h (w.alloc (.cells A S)) (gr_row (by simp [row_alloc, rowOf]) (by simp)) (gr_own (by simp [own_alloc, ownOf])) (by simp)
    (below_gr ((Below.refl _ _).alloc (Nat.le_refl _) _) (by simp))
  rwa [← gr_self] at k
theorem cut_box1 {P : Program} {c : Code} {Q : Exit → Act → World → Prop} {a : Act} {w : World} {A : Array Value} {S : TypeId}
    (h : ∀ W, (∀ d, row? (gr W d) w.heap.size = A) → (∀ d, own? (gr W d) w.heap.size = true) → w.heap.size + 1 ≤ W.heap.size → (∀ d, Below w.heap.size w (gr W d)) → c.wp P Q a (gr W W)) : c.wp P Q a (w.alloc (.cells A S)) := boxM1 (fun w => c.wp P Q a w) h
theorem cutc_box1 {P : Program} {f : FuncId} {args : Array Value} {R : Ending → World → Prop} {w : World} {A : Array Value} {S : TypeId}
    (h : ∀ W, (∀ d, row? (gr W d) w.heap.size = A) → (∀ d, own? (gr W d) w.heap.size = true) → w.heap.size + 1 ≤ W.heap.size → (∀ d, Below w.heap.size w (gr W d)) → Calls P f args (gr W W) R) : Calls P f args (w.alloc (.cells A S)) R := boxM1 (fun w => Calls P f args w R) h
theorem cutl_box1 {P : Program} {ops : Array Oper} {Q : Exit → Act → World → Prop} {l : List Oper} {a : Act} {w : World} {A : Array Value} {S : TypeId}
    (h : ∀ W, (∀ d, row? (gr W d) w.heap.size = A) → (∀ d, own? (gr W d) w.heap.size = true) → w.heap.size + 1 ≤ W.heap.size → (∀ d, Below w.heap.size w (gr W d)) → wpList P ops Q l a (gr W W)) : wpList P ops Q l a (w.alloc (.cells A S)) := boxM1 (fun w => wpList P ops Q l a w) h
theorem boxM2 (M : World → Prop) {w : World} {A B : Array Value} {S T : TypeId}
    (h : ∀ W, (∀ d, row? (gr W d) w.heap.size = A) → (∀ d, own? (gr W d) w.heap.size = true) → (∀ d, row? (gr W d) (w.heap.size + 1) = B) → (∀ d, own? (gr W d) (w.heap.size + 1) = true) → w.heap.size + 2 ≤ W.heap.size → (∀ d, Below w.heap.size w (gr W d)) → M (gr W W)) : M ((w.alloc (.cells A S)).alloc (.cells B T)) := by
  have k := h ((w.alloc (.cells A S)).alloc (.cells B T)) (gr_row (by simp [row_alloc, rowOf]) (by simp; omega)) (gr_own (by simp [own_alloc, ownOf])) (gr_row (by simp [row_alloc, rowOf]) (by simp)) (gr_own (by simp [own_alloc, ownOf])) (by simp)
    (below_gr (((Below.refl _ _).alloc (Nat.le_refl _) _).alloc (by simp) _) (by simp; omega))
  rwa [← gr_self] at k
theorem cut_box2 {P : Program} {c : Code} {Q : Exit → Act → World → Prop} {a : Act} {w : World} {A B : Array Value} {S T : TypeId}
    (h : ∀ W, (∀ d, row? (gr W d) w.heap.size = A) → (∀ d, own? (gr W d) w.heap.size = true) → (∀ d, row? (gr W d) (w.heap.size + 1) = B) → (∀ d, own? (gr W d) (w.heap.size + 1) = true) → w.heap.size + 2 ≤ W.heap.size → (∀ d, Below w.heap.size w (gr W d)) → c.wp P Q a (gr W W)) : c.wp P Q a ((w.alloc (.cells A S)).alloc (.cells B T)) := boxM2 (fun w => c.wp P Q a w) h
theorem cutc_box2 {P : Program} {f : FuncId} {args : Array Value} {R : Ending → World → Prop} {w : World} {A B : Array Value} {S T : TypeId}
    (h : ∀ W, (∀ d, row? (gr W d) w.heap.size = A) → (∀ d, own? (gr W d) w.heap.size = true) → (∀ d, row? (gr W d) (w.heap.size + 1) = B) → (∀ d, own? (gr W d) (w.heap.size + 1) = true) → w.heap.size + 2 ≤ W.heap.size → (∀ d, Below w.heap.size w (gr W d)) → Calls P f args (gr W W) R) : Calls P f args ((w.alloc (.cells A S)).alloc (.cells B T)) R := boxM2 (fun w => Calls P f args w R) h
theorem cutl_box2 {P : Program} {ops : Array Oper} {Q : Exit → Act → World → Prop} {l : List Oper} {a : Act} {w : World} {A B : Array Value} {S T : TypeId}
    (h : ∀ W, (∀ d, row? (gr W d) w.heap.size = A) → (∀ d, own? (gr W d) w.heap.size = true) → (∀ d, row? (gr W d) (w.heap.size + 1) = B) → (∀ d, own? (gr W d) (w.heap.size + 1) = true) → w.heap.size + 2 ≤ W.heap.size → (∀ d, Below w.heap.size w (gr W d)) → wpList P ops Q l a (gr W W)) : wpList P ops Q l a ((w.alloc (.cells A S)).alloc (.cells B T)) := boxM2 (fun w => wpList P ops Q l a w) h
theorem boxM3 (M : World → Prop) {w : World} {A B D : Array Value} {S T U : TypeId}
    (h : ∀ W, (∀ d, row? (gr W d) w.heap.size = A) → (∀ d, own? (gr W d) w.heap.size = true) → (∀ d, row? (gr W d) (w.heap.size + 1) = B) → (∀ d, own? (gr W d) (w.heap.size + 1) = true) → (∀ d, row? (gr W d) (w.heap.size + 2) = D) → (∀ d, own? (gr W d) (w.heap.size + 2) = true) → w.heap.size + 3 ≤ W.heap.size → (∀ d, Below w.heap.size w (gr W d)) → M (gr W W)) : M (((w.alloc (.cells A S)).alloc (.cells B T)).alloc (.cells D U)) := by
  have k := h (((w.alloc (.cells A S)).alloc (.cells B T)).alloc (.cells D U)) (gr_row (by simp [row_alloc, rowOf]; intro h; omega) (by simp; omega)) (gr_own (by simp [own_alloc, ownOf])) (gr_row (by simp [row_alloc, rowOf]) (by simp)) (gr_own (by simp [own_alloc, ownOf])) (gr_row (by simp [row_alloc, rowOf]) (by simp)) (gr_own (by simp [own_alloc, ownOf])) (by simp)
    (below_gr ((((Below.refl _ _).alloc (Nat.le_refl _) _).alloc (by simp) _).alloc (by simp; omega) _) (by simp; omega))
  rwa [← gr_self] at k
theorem cut_box3 {P : Program} {c : Code} {Q : Exit → Act → World → Prop} {a : Act} {w : World} {A B D : Array Value} {S T U : TypeId}
    (h : ∀ W, (∀ d, row? (gr W d) w.heap.size = A) → (∀ d, own? (gr W d) w.heap.size = true) → (∀ d, row? (gr W d) (w.heap.size + 1) = B) → (∀ d, own? (gr W d) (w.heap.size + 1) = true) → (∀ d, row? (gr W d) (w.heap.size + 2) = D) → (∀ d, own? (gr W d) (w.heap.size + 2) = true) → w.heap.size + 3 ≤ W.heap.size → (∀ d, Below w.heap.size w (gr W d)) → c.wp P Q a (gr W W)) : c.wp P Q a (((w.alloc (.cells A S)).alloc (.cells B T)).alloc (.cells D U)) := boxM3 (fun w => c.wp P Q a w) h
theorem cutc_box3 {P : Program} {f : FuncId} {args : Array Value} {R : Ending → World → Prop} {w : World} {A B D : Array Value} {S T U : TypeId}
    (h : ∀ W, (∀ d, row? (gr W d) w.heap.size = A) → (∀ d, own? (gr W d) w.heap.size = true) → (∀ d, row? (gr W d) (w.heap.size + 1) = B) → (∀ d, own? (gr W d) (w.heap.size + 1) = true) → (∀ d, row? (gr W d) (w.heap.size + 2) = D) → (∀ d, own? (gr W d) (w.heap.size + 2) = true) → w.heap.size + 3 ≤ W.heap.size → (∀ d, Below w.heap.size w (gr W d)) → Calls P f args (gr W W) R) : Calls P f args (((w.alloc (.cells A S)).alloc (.cells B T)).alloc (.cells D U)) R := boxM3 (fun w => Calls P f args w R) h
theorem cutl_box3 {P : Program} {ops : Array Oper} {Q : Exit → Act → World → Prop} {l : List Oper} {a : Act} {w : World} {A B D : Array Value} {S T U : TypeId}
    (h : ∀ W, (∀ d, row? (gr W d) w.heap.size = A) → (∀ d, own? (gr W d) w.heap.size = true) → (∀ d, row? (gr W d) (w.heap.size + 1) = B) → (∀ d, own? (gr W d) (w.heap.size + 1) = true) → (∀ d, row? (gr W d) (w.heap.size + 2) = D) → (∀ d, own? (gr W d) (w.heap.size + 2) = true) → w.heap.size + 3 ≤ W.heap.size → (∀ d, Below w.heap.size w (gr W d)) → wpList P ops Q l a (gr W W)) : wpList P ops Q l a (((w.alloc (.cells A S)).alloc (.cells B T)).alloc (.cells D U)) := boxM3 (fun w => wpList P ops Q l a w) h

/-! ### A block of one's own behind calls: the world is another one from there on -/
theorem newblk (W0 m : World) (A B : Array Value) (S : TypeId) (hA : A ≠ #[]) :
    ∃ W1, ((gr W0 m).alloc (.cells A S)).setRow (gr W0 m).heap.size B = gr W1 W1 ∧ (∀ d, row? (gr W1 d) (gr W0 m).heap.size = B) ∧ (∀ d, own? (gr W1 d) (gr W0 m).heap.size = true) ∧
      (∀ d, ∃ d', gr W1 d = gr W0 d') ∧ W0.heap.size ≤ (gr W0 m).heap.size := by
  have hb : Below W0.heap.size W0 (((gr W0 m).alloc (.cells A S)).setRow (gr W0 m).heap.size B) :=
    ((gr_below W0 m).alloc (gr_below W0 m).size _).trans ⟨rfl, rfl, rfl, by simp [World.setRow], fun k hk => setRow_other _ _ k _ (by have := (gr_below W0 m).size; omega)⟩
  have hr : row? ((gr W0 m).alloc (.cells A S)) (gr W0 m).heap.size = A := by simp [row_alloc, rowOf]
  refine ⟨_, gr_self _, gr_row ?_ (by simp), gr_own ?_, fun d => gr_ex (hb.trans ((gr_below _ d).mono (by have := (gr_below W0 m).size; simp; omega))), (gr_below W0 m).size⟩
  · rw [row_setRow _ _ _ _ (by rw [hr]; exact hA), if_pos rfl]
  · rw [own_setRow, own_alloc, if_pos rfl]; rfl
theorem upr {W0 W1 : World} (u : ∀ d, ∃ d', gr W1 d = gr W0 d') {b : Nat} {cs : Array Value} (h : ∀ d, row? (gr W0 d) b = cs) : ∀ d, row? (gr W1 d) b = cs := fun d => by
  obtain ⟨d', e⟩ := u d
  rw [e]; exact h d'
theorem upo {W0 W1 : World} (u : ∀ d, ∃ d', gr W1 d = gr W0 d') {b : Nat} (h : ∀ d, own? (gr W0 d) b = true) : ∀ d, own? (gr W1 d) b = true := fun d => by
  obtain ⟨d', e⟩ := u d
  rw [e]; exact h d'
theorem upb {W0 W1 : World} (u : ∀ d, ∃ d', gr W1 d = gr W0 d') {B : Nat} {w : World} (h : ∀ d, Below B w (gr W0 d)) : ∀ d, Below B w (gr W1 d) := fun d => by
  obtain ⟨d', e⟩ := u d
  rw [e]; exact h d'
theorem Fn.at_eq {P : Program} {f : FuncId} {args : Array Value} {v u : Value} (h : Fn P f args v) (e : v = u) : Fn P f args u := e ▸ h
end Go.Proofs.Ytoblgdjjpbnemaa
