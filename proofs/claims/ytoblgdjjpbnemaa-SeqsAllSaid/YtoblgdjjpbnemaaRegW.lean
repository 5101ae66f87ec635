/-
  A region that draws its order, with stores into a block of one's own: operations named one by one, what is there shown anew behind each store; a store of a part of a block. No condition.
-/
import Derived.Test.YtoblgdjjpbnemaaRegS
import Derived.Laws.Tables
namespace Go.Proofs.Ytoblgdjjpbnemaa
open Go.RowKit

def wrL : List Value → Nat → Array Value → Array Value
  | [], _, c => c
  | v :: vs, j, c => wrL vs (j + 1) (c.setIfInBounds j v)
theorem wrL_size : ∀ (vs : List Value) (j : Nat) (c : Array Value), (wrL vs j c).size = c.size
  | [], _, _ => rfl
  | v :: vs, j, c => by rw [wrL, wrL_size vs]; simp
theorem run_storeCells_part {P : Program} (g off : Nat) (t : TypeId) : ∀ (vs : List Value) (i : Nat) (cur : Array Value) (w : World), w.heap[g]? = some (.cells cur t (0, 0)) → off + i + vs.length ≤ cur.size → (∀ v ∈ vs, v.oneCell' = true) →
    (storeCells ⟨g, off, none⟩ vs i).run P w = .ok () (w.setRow g (wrL vs (off + i) cur))
  | [], i, cur, w, hg, hl, _ => by
    have hlt : g < w.heap.size := (Array.getElem?_eq_some_iff.1 hg).1
    have hv : w.heap[g] = .cells cur t (0, 0) := (Array.getElem?_eq_some_iff.1 hg).2
    simp only [storeCells, wrL]
    show Result.ok () w = _
    congr 1
    unfold World.setRow
    cases w with
    | mk heap tape drawn os output =>
      congr 1
      apply Array.ext
      · simp
      · intro k h1 h2
        simp only [Array.getElem_modify]
        split
        · rename_i hk; subst hk; simp at hv; simp [hv]
        · rfl
  | v :: rest, i, cur, w, hg, hl, h1 => by
    have hi : off + i < cur.size := by simp at hl; omega
    have hadd : (⟨g, off, none⟩ : Addr).add i = ⟨g, off + i, none⟩ := by unfold Addr.add; split <;> simp_all
    have hcell : w.cell? ⟨g, off + i, none⟩ = some cur[off + i] := by simp [World.cell?, hg, hi]
    have hfro : w.frozen? ⟨g, off + i, none⟩ = false := by simp [World.frozen?, hg]
    have hst : (store ((⟨g, off, none⟩ : Addr).add i) v).run P w = .ok () (w.setRow g (cur.setIfInBounds (off + i) v)) := by
      rw [hadd, run_store P w _ v _ (h1 v (by simp)), hcell]
      simp [hfro, setCell_eq_setRow w g (off + i) cur t (0, 0) v hg]
    have ih := run_storeCells_part (P := P) g off t rest (i + 1) (cur.setIfInBounds (off + i) v) (w.setRow g (cur.setIfInBounds (off + i) v)) (setRow_heap w g cur _ t _ hg) (by simp at hl ⊢; omega) (fun x hx => h1 x (by simp [hx]))
    simp only [storeCells, Sem.run_bind, hst, Result.andThen_ok, ih, setRow_setRow, wrL, Nat.add_assoc]
theorem run_stAt_part {P : Program} {t : TypeId} {n : Nat} (hs : ∀ w, (sizeOf t).run P w = .ok n w) (w : World) (b off : Nat) (cs : Array Value) (hv : ∀ v ∈ cs, v.oneCell' = true) (hn : cs.size = n) (h : off + n ≤ (row? w b).size) (ho : own? w b = true) :
    (stAt t (.pointer (some ⟨b, off, none⟩)) (.agg cs)).run P w = .ok () (w.setRow b (wrL cs.toList off (row? w b))) := by
  unfold own? at ho
  cases hb : w.heap[b]? with
  | none => simp [hb] at ho
  | some o =>
    rw [hb] at ho
    cases o with
    | cells c ty fr =>
      simp only [ownOf, beq_iff_eq] at ho
      subst ho
      have hr : row? w b = c := by unfold row?; rw [hb]; rfl
      rw [hr] at h ⊢
      have := run_storeCells_part (P := P) b off ty cs.toList 0 c w hb (by simp; omega) (fun v hv' => hv v (by simpa using hv'))
      unfold stAt Instr.storeAt Instr.sureAddr storeVar
      simp [Sem.run_bind, hs, Value.cells, hn, this]
    | _ => simp [ownOf] at ho

section
variable {P : Program} {ops : Array Oper} {Q : Exit → Act → World → Prop} {S : World → Prop}
/-- A chain, S shown behind each of it. -/
def wpRow (P : Program) (ops : Array Oper) (Q : Exit → Act → World → Prop) (S : World → Prop) : List Nat → Act → World → Prop
  | [], a, w => Q .normal a w
  | k :: ks, a, w => wpOp P ops Q k (fun a' w' => S w' ∧ wpRow P ops Q S ks a' w') a w
theorem wpRow_skip {k : Nat} {ks : List Nat} {o : Oper} {a : Act} {w w' : World} (ho : ops[k]? = some o) (hg : o.guard = none) (hd : o.dst = none) (h : (execOp a.eval o).run P w = .ok .skip w') (hS : S w')
    (hk : wpRow P ops Q S ks a w') : wpRow P ops Q S (k :: ks) a w := by
  unfold wpRow wpOp
  rw [ho]
  simp only [Region.wanted, hg, if_true]
  left
  unfold Oper.wp
  rw [h]
  simp only [Oper.upon, hd]
  exact ⟨hS, hk⟩
theorem wpRow_val {k : Nat} {ks : List Nat} {o : Oper} {a : Act} {w : World} {v : Value} (ho : ops[k]? = some o) (hg : o.guard = none) (h : (execOp a.eval o).run P w = .ok (.value v) w) (hS : S w)
    (hk : wpRow P ops Q S ks (a.put o.dst v) w) : wpRow P ops Q S (k :: ks) a w := by
  unfold wpRow wpOp
  rw [ho]
  simp only [Region.wanted, hg, if_true]
  left
  unfold Oper.wp
  rw [h]
  exact ⟨hS, hk⟩
theorem row_S {md : Region.Mode} : ∀ (ks : List Nat) (s : Array Bool) (a : Act) (w : World), rowL md ops ks s = true → wpRow P ops Q S ks a w → wpAnyQ P md ops Q S (fun _ => true) ks.length s a w := by
  intro ks
  induction ks with
  | nil =>
    intro s a w hB h
    exact ⟨by simpa [rowL] using hB, h⟩
  | cons k ks ih =>
    intro s a w hB h
    simp only [rowL, Bool.and_eq_true, decide_eq_true_eq] at hB
    obtain ⟨hr, hB⟩ := hB
    refine ⟨fun h1 => (by rw [hr] at h1; cases h1), fun i hi => ?_⟩
    rw [hr] at hi
    have hik : i = k := by simpa using hi
    subst hik
    exact wpOp_mono (fun a' w' h' => ⟨fun _ => h'.1, ih _ a' w' hB h'.2⟩) h
end
def selsB (ops : Array Oper) (ps is js : List Nat) : Bool :=
  let s := Array.replicate ops.size false
  Region.noSelect ops && decide (ops.size = ps.length + (is.length + js.length)) && pureL .any ops ps s && readL .any ops [] is (setL ps s) && rowL .any ops js (setL is (setL ps s))
theorem wp_region_sels {P : Program} {id : Nat} {Q : Exit → Act → World → Prop} {a : Act} {w0 : World} {l : List Oper} (W : World) (ps is js : List Nat) {lp li : List Oper} (hm : P.follows .mixedOrders = true) (hB : selsB l.toArray ps is js = true)
    (hQ : ∀ c a b w, a.defers = b.defers → Q (.panic c) a w → Q (.panic c) b w) (hw : Below W.heap.size W w0)
    (hp : selL l ps = lp) (hi : selL l is = li)
    (h : wpQuiet P l.toArray (fun _ => True) (fun a1 => wpQuiet P l.toArray (fun w' => ∃ d, w' = gr W d) (fun a' => ∀ w1, Below W.heap.size W w1 → (∀ b, row? w1 b = row? w0 b) → (∀ b, own? w1 b = own? w0 b) → w1.heap.size = w0.heap.size →
      wpRow P l.toArray Q (fun w' => ∃ d, w' = gr W d) js a' w1) li a1) lp a) :
    (Code.region id l.toArray true).wp P Q a w0 := by
  subst hp hi
  simp only [selsB, Bool.and_eq_true, decide_eq_true_eq] at hB
  obtain ⟨⟨⟨⟨hsel, hsz⟩, h1⟩, h2⟩, h3⟩ := hB
  have hw1 : Below W.heap.size W { w0 with drawn := w0.drawn + 1 } := hw.drew
  refine wp_region_any hm ?_
  generalize hrep : Array.replicate l.toArray.size false = R at *
  rw [hsz]
  refine take_pure rfl hsel hQ ps R a h1 (fun a1 ha1 => ?_) h
  refine wpAny_of_Q (S := fun w' => ∃ d, w' = gr W d) (q := fun i => !([] : List Nat).contains i) _ _ _ _ ?_
  refine take_read (S := fun w' => ∃ d, w' = gr W d) (js := []) rfl hsel hQ (gr_ex hw1) is _ a1 h2 (fun a' ha' => ?_) ha1
  exact row_S js _ a' _ h3 (ha' _ hw1 (fun _ => rfl) (fun _ => rfl) rfl)
/-- Behind it: the world is another one from there on. -/
theorem newW {W0 w : World} {b : Nat} {A : Array Value} (hb : Below W0.heap.size W0 w) (hr : row? w b = A) (ho : own? w b = true) (hA : A ≠ #[]) :
    ∃ W1, w = gr W1 W1 ∧ (∀ d, row? (gr W1 d) b = A) ∧ (∀ d, own? (gr W1 d) b = true) ∧ (∀ d, ∃ d', gr W1 d = gr W0 d') :=
  ⟨w, gr_self w, gr_row hr (row_lt (by rw [hr]; exact hA)), gr_own ho, fun d => gr_ex (hb.trans ((gr_below w d).mono hb.size))⟩
end Go.Proofs.Ytoblgdjjpbnemaa
