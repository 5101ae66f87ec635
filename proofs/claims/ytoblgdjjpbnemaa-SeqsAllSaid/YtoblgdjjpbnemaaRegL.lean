/-
  A region that draws its order, told in segments, as RegZ; a len counts among what reads. No condition.
-/
import Derived.Test.YtoblgdjjpbnemaaRegZ
namespace Go.Proofs.Ytoblgdjjpbnemaa
open Go.RowKit

def lenOp (o : Oper) : Bool := valOp o || (match o.op with | .call c => (match c.callee with | .builtin .len => true | _ => false) | _ => false)
theorem len_value {P : Program} {ρ : Operand → Value} {o : Oper} (ho : lenOp o = true) {w w' : World} {r : Next} (h : (execOp ρ o).run P w = .ok r w') : ∃ u, r = .value u := by
  unfold lenOp at ho
  simp only [Bool.or_eq_true] at ho
  rcases ho with ho | ho
  · exact val_value ho h
  · unfold execOp at h
    split at ho
    · rename_i c heq
      rw [heq] at h
      split at ho
      · rename_i hc
        simp only [resolve, hc, Sem.run_bind, Sem.run_pure, Result.andThen_ok, invoke, builtin] at h
        exact value_of (by rw [Sem.run_bind]; exact h)
      · cases ho
    · cases ho
theorem len_yields {P : Program} {ops : Array Oper} {C : World → Prop} {o : Oper} {a : Act} {v : Value} (ho : lenOp o = true) (h : YieldsIn P ops C o v a) : YieldsIf P ops C o v a := by
  rcases h with ⟨hw, h⟩ | h
  · refine .inl ⟨hw, fun w hC => ?_⟩
    have h1 := h w hC
    unfold Oper.quietAt at h1
    cases hr : (execOp a.eval o).run P w with
    | ok r w' =>
      obtain ⟨u, rfl⟩ := len_value ho hr
      rw [hr] at h1
      obtain ⟨rfl, rfl⟩ := h1
      rfl
    | halt x w' => rw [hr] at h1; exact h1.elim
  · exact .inr h

section
variable {P : Program} {ops : Array Oper} {Q : Exit → Act → World → Prop} {S : World → Prop} {md : Region.Mode}
def readM (md : Region.Mode) (ops : Array Oper) (js : List Nat) : List Nat → Array Bool → Bool
  | [], _ => true
  | k :: ks, s => (Region.ready md ops s).contains k && Region.free md ops s k && (((ops[k]?).map lenOp).getD false) && ((List.range ops.size).all fun j => !js.contains j || Region.waitsFor md ops j k) && readM md ops js ks (s.setIfInBounds k true)
theorem take_readM {l : List Oper} {js : List Nat} (hl : ops = l.toArray) (hsel : Region.noSelect ops = true) (hQ : ∀ c a b w, a.defers = b.defers → Q (.panic c) a w → Q (.panic c) b w) {K : Act → Prop} {g : Nat} {w : World} (hS : S w) :
    ∀ (ks : List Nat) (s : Array Bool) (a : Act), readM md ops js ks s = true → (∀ a', K a' → wpAnyQ P md ops Q S (fun i => !js.contains i) g (setL ks s) a' w) →
      wpQuiet P ops S K (selL l ks) a → wpAnyQ P md ops Q S (fun i => !js.contains i) (ks.length + g) s a w := by
  intro ks
  induction ks with
  | nil =>
    intro s a _ hK h
    rw [List.length_nil, Nat.zero_add]
    exact hK a h
  | cons k ks ih =>
    intro s a hB hK h
    simp only [readM, Bool.and_eq_true] at hB
    obtain ⟨⟨⟨⟨hr, hf⟩, hv⟩, hwt⟩, hB⟩ := hB
    cases h0 : ops[k]? with
    | none => rw [h0] at hv; cases hv
    | some o =>
      rw [h0] at hv
      have h0' : l[k]? = some o := by rw [hl] at h0; simpa using h0
      have hr : k ∈ Region.ready md ops s := by simpa using hr
      have e : selL l (k :: ks) = o :: selL l ks := by simp [selL, h0']
      rw [e] at h
      obtain ⟨v, hy, hK'⟩ := yieldsIn_of_qOp (K := wpQuiet P ops S K (selL l ks)) h0 (by unfold qOp; simp only [h0]; exact h)
      rw [List.length_cons, Nat.add_right_comm]
      refine wpAnyQ_first h0 (Region.noSelect_spec hsel) (fun c a' w' hq => hQ c _ _ w' (by cases o.dst <;> rfl) hq) (fun j hj hq => ?_) _ s a w (Region.free_spec h0 hf) hr (len_yields hv hy) hS (ih _ _ hB hK hK')
      have := List.all_eq_true.1 hwt j (List.mem_range.2 hj)
      simp only [Bool.or_eq_true] at this
      rcases this with h | h
      · rw [hq] at h; cases h
      · exact h
def segM (ops : Array Oper) : List (List Nat × Nat) → Array Bool → Bool
  | [], s => (Region.ready .any ops s).isEmpty
  | x :: segs, s => readM .any ops [] x.1 s && decide (Region.ready .any ops (setL x.1 s) = [x.2]) && segM ops segs ((setL x.1 s).setIfInBounds x.2 true)
theorem seg_QM {l : List Oper} (hl : ops = l.toArray) (hsel : Region.noSelect ops = true) (hQ : ∀ c a b w, a.defers = b.defers → Q (.panic c) a w → Q (.panic c) b w) :
    ∀ (segs : List (List Nat × Nat)) (s : Array Bool) (a : Act) (w : World), segM ops segs s = true → S w → wpSeg P ops l Q S segs a w → wpAnyQ P .any ops Q S (fun i => !([] : List Nat).contains i) (segLen segs) s a w := by
  intro segs
  induction segs with
  | nil =>
    intro s a w hB _ h
    exact ⟨by simpa [segM] using hB, h⟩
  | cons x segs ih =>
    intro s a w hB hS h
    simp only [segM, Bool.and_eq_true, decide_eq_true_eq] at hB
    obtain ⟨⟨h1, hr⟩, h3⟩ := hB
    refine take_readM (S := S) (js := []) hl hsel hQ hS x.1 s a h1 (fun a' h => ?_) h
    obtain ⟨_, o, h0, _⟩ := mem_ready.1 (show x.2 ∈ Region.ready .any ops (setL x.1 s) by rw [hr]; simp)
    have h0' : l[x.2]? = some o := by rw [hl] at h0; simpa using h0
    have e : selL l [x.2] = [o] := by simp [selL, h0']
    rw [e] at h
    refine ⟨fun h9 => (by rw [hr] at h9; cases h9), fun i hi => ?_⟩
    rw [hr] at hi
    obtain rfl : i = x.2 := by simpa using hi
    unfold wpOp
    simp only [h0]
    unfold wpList at h
    have hk : ∀ a'' w'', wpList P ops (Exit.then (fun a'' w'' => S w'' ∧ wpSeg P ops l Q S segs a'' w'') Q) [] a'' w'' → (((fun i => !([] : List Nat).contains i) x.2) = true → S w'') ∧ wpAnyQ P .any ops Q S (fun i => !([] : List Nat).contains i) (segLen segs) ((setL x.1 s).setIfInBounds x.2 true) a'' w'' := fun a'' w'' h9 => by
      have h9' : S w'' ∧ wpSeg P ops l Q S segs a'' w'' := h9
      exact ⟨fun _ => h9'.1, ih _ a'' w'' h3 h9'.1 h9'.2⟩
    by_cases hw : Region.wanted o (yielded ops a'.tmps) = true
    · rw [if_pos hw] at h ⊢
      rcases h with h | ⟨h5, h6⟩
      · exact .inl (Oper.wp_mono (fun a'' w'' h' => hk a'' w'' h') (wp_then h))
      · exact .inr ⟨h5, h6⟩
    · rw [if_neg hw] at h ⊢
      exact hk _ _ h
end
def segsM (ops : Array Oper) (segs : List (List Nat × Nat)) : Bool := Region.noSelect ops && decide (ops.size = segLen segs) && segM ops segs (Array.replicate ops.size false)
/-- The region: G tells of the worlds in which what is read stays. -/
theorem wp_region_segM {P : Program} {id : Nat} {Q : Exit → Act → World → Prop} {a : Act} {w0 : World} {l : List Oper} (G : World → World) (segs : List (List Nat × Nat)) (hm : P.follows .mixedOrders = true) (hB : segsM l.toArray segs = true)
    (hQ : ∀ c a b w, a.defers = b.defers → Q (.panic c) a w → Q (.panic c) b w) (hw : ∃ d, w0.drew = G d)
    (h : wpSeg P l.toArray l Q (fun w' => ∃ d, w' = G d) segs a w0.drew) : (Code.region id l.toArray true).wp P Q a w0 := by
  simp only [segsM, Bool.and_eq_true, decide_eq_true_eq] at hB
  obtain ⟨⟨hsel, hsz⟩, h1⟩ := hB
  refine wp_region_any hm ?_
  generalize hrep : Array.replicate l.toArray.size false = R at *
  rw [hsz]
  exact wpAny_of_Q (S := fun w' => ∃ d, w' = G d) (q := fun i => !([] : List Nat).contains i) _ _ _ _ (seg_QM rfl hsel hQ segs R a _ h1 hw h)
end Go.Proofs.Ytoblgdjjpbnemaa
