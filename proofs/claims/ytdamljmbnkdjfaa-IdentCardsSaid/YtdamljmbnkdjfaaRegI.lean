/-
  A region that draws its order, by an invariant: what holds of the frame and the world, by which operations have come up. No condition.
-/
import Derived.Test.YtdamljmbnkdjfaaRegP
namespace Go.Proofs.Ytdamljmbnkdjfaa
open Go.RowKit

theorem count_set : ∀ (l : List Bool) (i : Nat), l[i]? = some false → (l.set i true).count false + 1 = l.count false
  | [], i, h => by simp at h
  | b :: l, 0, h => by
    simp at h
    subst h
    simp
  | b :: l, i + 1, h => by
    have ih := count_set l i (by simpa using h)
    cases b <;> simp <;> omega
theorem ready_lt {md : Region.Mode} {ops : Array Oper} {s : Array Bool} {i : Nat} (h : i ∈ Region.ready md ops s) : s[i]? = some false := by
  have h1 := (mem_ready.1 h).1
  rcases Nat.lt_or_ge i s.size with h' | h'
  · simp [h'] at h1 ⊢
    exact h1
  · simp [Array.getElem?_eq_none h'] at h1
theorem wpAny_inv {P : Program} {ops : Array Oper} {md : Region.Mode} {Q : Exit → Act → World → Prop} (I : Array Bool → Act → World → Prop)
    (hstep : ∀ s a w i, I s a w → i ∈ Region.ready md ops s → wpOp P ops Q i (I (s.setIfInBounds i true)) a w)
    (hend : ∀ s a w, I s a w → Region.ready md ops s = [] → Q .normal a w) :
    ∀ (f : Nat) (s : Array Bool) (a : Act) (w : World), s.toList.count false = f → I s a w → wpAny P md ops Q f s a w := by
  intro f
  induction f with
  | zero =>
    intro s a w hc h
    have he : Region.ready md ops s = [] := by
      apply List.eq_nil_iff_forall_not_mem.2
      intro i hi
      have h1 := ready_lt hi
      have h2 : false ∈ s.toList := by
        rw [← Array.getElem?_toList] at h1
        exact List.mem_of_getElem? h1
      exact absurd (List.count_pos_iff.2 h2) (by omega)
    exact ⟨he, hend s a w h he⟩
  | succ f ih =>
    intro s a w hc h
    refine ⟨hend s a w h, fun i hi => wpOp_mono (fun a' w' h' => ih _ _ _ ?_ h') (hstep s a w i h hi)⟩
    have h1 := ready_lt hi
    rw [← Array.getElem?_toList] at h1
    have := count_set s.toList i h1
    rw [Array.toList_setIfInBounds]
    omega
theorem wp_region_inv {P : Program} {id : Nat} {Q : Exit → Act → World → Prop} {a : Act} {w : World} {l : List Oper} (I : Array Bool → Act → World → Prop) (hm : P.follows .mixedOrders = true)
    (h0 : I (Array.replicate l.toArray.size false) a { w with drawn := w.drawn + 1 })
    (hstep : ∀ s a w i, I s a w → i ∈ Region.ready .any l.toArray s → wpOp P l.toArray Q i (I (s.setIfInBounds i true)) a w)
    (hend : ∀ s a w, I s a w → Region.ready .any l.toArray s = [] → Q .normal a w) : (Code.region id l.toArray true).wp P Q a w :=
  wp_region_any hm (wpAny_inv I hstep hend _ _ _ _ (by simp) h0)
theorem wpOp_val {P : Program} {ops : Array Oper} {Q : Exit → Act → World → Prop} {K : Act → World → Prop} {i : Nat} {o : Oper} {a : Act} {w w' : World} {v : Value} (ho : ops[i]? = some o) (hg : o.guard = none)
    (h : (execOp a.eval o).run P w = .ok (.value v) w') (hk : K (a.put o.dst v) w') : wpOp P ops Q i K a w := by
  unfold wpOp
  rw [ho]
  simp only [Region.wanted, hg, if_true]
  left
  unfold Oper.wp
  rw [h]
  exact hk
theorem wpOp_skip {P : Program} {ops : Array Oper} {Q : Exit → Act → World → Prop} {K : Act → World → Prop} {i : Nat} {o : Oper} {a : Act} {w w' : World} (ho : ops[i]? = some o) (hg : o.guard = none)
    (h : (execOp a.eval o).run P w = .ok .skip w') (hk : K (a.put o.dst undef) w') : wpOp P ops Q i K a w := by
  unfold wpOp
  rw [ho]
  simp only [Region.wanted, hg, if_true]
  left
  unfold Oper.wp
  rw [h]
  exact hk
theorem wpOp_fn {P : Program} {ops : Array Oper} {Q : Exit → Act → World → Prop} {K : Act → World → Prop} {i : Nat} {o : Oper} {a : Act} {w : World} {f : FuncId} {args : Array Value} {v : Value} (ho : ops[i]? = some o) (hg : o.guard = none)
    (h : (execOp a.eval o).run P w = .ok (.enter f args) w) (hf : Fn P f args v) (hk : ∀ w', Below w.heap.size w w' → K (a.put o.dst v) w') : wpOp P ops Q i K a w := by
  unfold wpOp
  rw [ho]
  simp only [Region.wanted, hg, if_true]
  left
  unfold Oper.wp
  rw [h]
  exact (hf w).mono fun e w' ⟨he, hb⟩ => by subst he; exact hk w' hb
/-- Has it come up? -/
def has (s : Array Bool) (j : Nat) : Bool := s.getD j false
theorem has_set {s : Array Bool} {i : Nat} (h : i < s.size) (j : Nat) : has (s.setIfInBounds i true) j = (decide (i = j) || has s j) := by
  unfold has
  by_cases e : i = j
  · subst e
    simp [h]
  · simp [e]
theorem has_none (n j : Nat) : has (Array.replicate n false) j = false := getD_replicate_false n j
def depsB (md : Region.Mode) (ops : Array Oper) : Bool := (List.range ops.size).all fun i => ((ops[i]?).map fun o => o.after.all fun e => !Region.binds md e || decide (e.on < i)).getD true
theorem all_up {md : Region.Mode} {ops : Array Oper} {s : Array Bool} (hB : depsB md ops = true) (hs : s.size = ops.size) (hr : Region.ready md ops s = []) : ∀ i, i < ops.size → has s i = true := by
  intro i
  induction i using Nat.strongRecOn with
  | _ i ih =>
    intro hi
    cases h : has s i with
    | true => rfl
    | false =>
      have hm : i ∈ Region.ready md ops s := by
        refine mem_ready.2 ⟨getD_in (by omega) h, ops[i], Array.getElem?_eq_getElem hi, fun e he hb => ?_⟩
        have h1 := List.all_eq_true.1 hB i (List.mem_range.2 hi)
        rw [Array.getElem?_eq_getElem hi] at h1
        simp only [Option.map_some, Option.getD_some] at h1
        have h2 := Array.all_eq_true_iff_forall_mem.1 h1 e he
        simp only [hb, Bool.not_true, Bool.false_or, decide_eq_true_eq] at h2
        exact ih e.on h2 (by omega)
      rw [hr] at hm
      cases hm
/-- A block of the call's own from B on, as it is laid. -/
def OwnN (n B : Nat) (w : World) (v : Value) (cs : Array Value → Prop) : Prop := ∃ b, v = .pointer (some ⟨b, 0, none⟩) ∧ B ≤ b ∧ b < w.heap.size ∧ own? w b = true ∧ (row? w b).size = n ∧ cs (row? w b)
theorem OwnN.up {n B : Nat} {w w' : World} {v : Value} {p : Array Value → Prop} (h : OwnN n B w v p) (hb : Below w.heap.size w w') : OwnN n B w' v p := by
  obtain ⟨b, h1, h2, h3, h4, h5, h6⟩ := h
  exact ⟨b, h1, h2, Nat.lt_of_lt_of_le h3 hb.size, by rw [Below_own hb h3]; exact h4, by rw [Below_row hb h3]; exact h5, by rw [Below_row hb h3]; exact h6⟩
theorem OwnN.weak {n B : Nat} {w : World} {v : Value} {p q : Array Value → Prop} (h : OwnN n B w v p) (k : ∀ c, p c → q c) : OwnN n B w v q := by
  obtain ⟨b, h1, h2, h3, h4, h5, h6⟩ := h
  exact ⟨b, h1, h2, h3, h4, h5, k _ h6⟩
theorem OwnN.new {n B : Nat} {w : World} {z : Array Value} {t : TypeId} (hB : B ≤ w.heap.size) (hz : z.size = n) {p : Array Value → Prop} (hp : p z) : OwnN n B (w.alloc (.cells z t)) (.pointer (some ⟨w.heap.size, 0, none⟩)) p :=
  ⟨_, rfl, hB, by simp, by simp [own_alloc, ownOf], by simp [row_alloc, rowOf, hz], by simpa [row_alloc, rowOf] using hp⟩
/-- A store of the whole block. -/
theorem OwnN.set {n B : Nat} {w : World} {b : Nat} {p q : Array Value → Prop} (h : OwnN n B w (.pointer (some ⟨b, 0, none⟩)) p) {cs : Array Value} (hn : cs.size = n) (h0 : 0 < n) (hq : q cs) : OwnN n B (w.setRow b cs) (.pointer (some ⟨b, 0, none⟩)) q := by
  obtain ⟨b', h1, h2, h3, h4, h5, h6⟩ := h
  cases h1
  have hne : row? w b ≠ #[] := by intro e; rw [e] at h5; simp at h5; omega
  exact ⟨b, rfl, h2, by simp; exact h3, by rw [own_setRow]; exact h4, by rw [row_setRow _ _ _ _ hne, if_pos rfl]; exact hn, by rw [row_setRow _ _ _ _ hne, if_pos rfl]; exact hq⟩
/-- .. of another one. -/
theorem OwnN.other {n B : Nat} {w : World} {v : Value} {p : Array Value → Prop} (h : OwnN n B w v p) {b : Nat} (hv : v ≠ .pointer (some ⟨b, 0, none⟩)) (cs : Array Value) (hb : row? w b ≠ #[]) : OwnN n B (w.setRow b cs) v p := by
  obtain ⟨b', rfl, h2, h3, h4, h5, h6⟩ := h
  have hne : b' ≠ b := fun e => hv (by rw [e])
  exact ⟨b', rfl, h2, by simp; exact h3, by rw [own_setRow]; exact h4, by rw [row_setRow _ _ _ _ hb, if_neg hne]; exact h5, by rw [row_setRow _ _ _ _ hb, if_neg hne]; exact h6⟩
end Go.Proofs.Ytdamljmbnkdjfaa
