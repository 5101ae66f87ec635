/-
  A region that draws its order, told in segments: operations that read what stays, then one operation of the chain, behind which that is shown anew; so often as one likes. No condition.
-/
import Derived.Test.YtoblgdjjpbnemaaRegX
import Derived.Test.YtoblgdjjpbnemaaRegW
namespace Go.Proofs.Ytoblgdjjpbnemaa
open Go.RowKit

section
variable {P : Program} {ops : Array Oper} {Q : Exit → Act → World → Prop} {S : World → Prop}
/-- The segments, one by one: what each reads, and the operation behind it. -/
def wpSeg (P : Program) (ops : Array Oper) (l : List Oper) (Q : Exit → Act → World → Prop) (S : World → Prop) : List (List Nat × Nat) → Act → World → Prop
  | [], a, w => Q .normal a w
  | x :: segs, a, w => wpQuiet P ops S (fun a' => wpList P ops (Exit.then (fun a'' w'' => S w'' ∧ wpSeg P ops l Q S segs a'' w'') Q) (selL l [x.2]) a' w) (selL l x.1) a
def segB (ops : Array Oper) : List (List Nat × Nat) → Array Bool → Bool
  | [], s => (Region.ready .any ops s).isEmpty
  | x :: segs, s => readL .any ops [] x.1 s && decide (Region.ready .any ops (setL x.1 s) = [x.2]) && segB ops segs ((setL x.1 s).setIfInBounds x.2 true)
def segLen : List (List Nat × Nat) → Nat
  | [] => 0
  | x :: segs => x.1.length + (segLen segs + 1)
theorem seg_Q {l : List Oper} (hl : ops = l.toArray) (hsel : Region.noSelect ops = true) (hQ : ∀ c a b w, a.defers = b.defers → Q (.panic c) a w → Q (.panic c) b w) :
    ∀ (segs : List (List Nat × Nat)) (s : Array Bool) (a : Act) (w : World), segB ops segs s = true → S w → wpSeg P ops l Q S segs a w → wpAnyQ P .any ops Q S (fun i => !([] : List Nat).contains i) (segLen segs) s a w := by
  intro segs
  induction segs with
  | nil =>
    intro s a w hB _ h
    exact ⟨by simpa [segB] using hB, h⟩
  | cons x segs ih =>
    intro s a w hB hS h
    simp only [segB, Bool.and_eq_true, decide_eq_true_eq] at hB
    obtain ⟨⟨h1, hr⟩, h3⟩ := hB
    refine take_read (S := S) (js := []) hl hsel hQ hS x.1 s a h1 (fun a' h => ?_) h
    obtain ⟨_, o, h0, _⟩ := mem_ready.1 (show x.2 ∈ Region.ready .any ops (setL x.1 s) by rw [hr]; simp)
    have h0' : l[x.2]? = some o := by rw [hl] at h0; simpa using h0
    have e : selL l [x.2] = [o] := by simp [selL, h0']
    rw [e] at h
    refine ⟨fun h9 => (by rw [hr] at h9; cases h9), fun i hi => ?_⟩
    rw [hr] at hi
    obtain rfl : i = x.2 := by simpa using hi
    unfold wpOp
    simp only [h0]
    unfold wpList at h
    have hk : ∀ a'' w'', wpList P ops (Exit.then (fun a'' w'' => S w'' ∧ wpSeg P ops l Q S segs a'' w'') Q) [] a'' w'' → (((fun i => !([] : List Nat).contains i) x.2) = true → S w'') ∧ wpAnyQ P .any ops Q S (fun i => !([] : List Nat).contains i) (segLen segs) ((setL x.1 s).setIfInBounds x.2 true) a'' w'' := fun a'' w'' h9 => by
      have h9' : S w'' ∧ wpSeg P ops l Q S segs a'' w'' := h9
      exact ⟨fun _ => h9'.1, ih _ a'' w'' h3 h9'.1 h9'.2⟩
    by_cases hw : Region.wanted o (yielded ops a'.tmps) = true
    · rw [if_pos hw] at h ⊢
      rcases h with h | ⟨h5, h6⟩
      · exact .inl (Oper.wp_mono (fun a'' w'' h' => hk a'' w'' h') (wp_then h))
      · exact .inr ⟨h5, h6⟩
    · rw [if_neg hw] at h ⊢
      exact hk _ _ h
end
def segsB (ops : Array Oper) (segs : List (List Nat × Nat)) : Bool := Region.noSelect ops && decide (ops.size = segLen segs) && segB ops segs (Array.replicate ops.size false)
/-- The region: G tells of the worlds in which what is read stays. -/
theorem wp_region_seg {P : Program} {id : Nat} {Q : Exit → Act → World → Prop} {a : Act} {w0 : World} {l : List Oper} (G : World → World) (segs : List (List Nat × Nat)) (hm : P.follows .mixedOrders = true) (hB : segsB l.toArray segs = true)
    (hQ : ∀ c a b w, a.defers = b.defers → Q (.panic c) a w → Q (.panic c) b w) (hw : ∃ d, w0.drew = G d)
    (h : wpSeg P l.toArray l Q (fun w' => ∃ d, w' = G d) segs a w0.drew) : (Code.region id l.toArray true).wp P Q a w0 := by
  simp only [segsB, Bool.and_eq_true, decide_eq_true_eq] at hB
  obtain ⟨⟨hsel, hsz⟩, h1⟩ := hB
  refine wp_region_any hm ?_
  generalize hrep : Array.replicate l.toArray.size false = R at *
  rw [hsz]
  exact wpAny_of_Q (S := fun w' => ∃ d, w' = G d) (q := fun i => !([] : List Nat).contains i) _ _ _ _ (seg_Q rfl hsel hQ segs R a _ h1 hw h)
/-- The worlds in which this stays. -/
noncomputable def grK (K : World → Prop) (w d : World) : World := by
  classical exact if K d then d else w
theorem grK_of {K : World → Prop} {w d : World} (h : K d) : d = grK K w d := by
  unfold grK
  rw [if_pos h]
theorem grK_is {K : World → Prop} {w : World} (hw : K w) (d : World) : K (grK K w d) := by
  unfold grK
  split
  · assumption
  · exact hw
end Go.Proofs.Ytoblgdjjpbnemaa
