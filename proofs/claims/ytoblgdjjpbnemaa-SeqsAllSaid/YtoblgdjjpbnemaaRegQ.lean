/-
  A region that draws its order: operations that compute, then a chain that may call what writes, then operations that only read in the world that the chain left. No condition.
-/
import Derived.Test.YtoblgdjjpbnemaaRegS
namespace Go.Proofs.Ytoblgdjjpbnemaa
open Go.RowKit

section
variable {P : Program} {ops : Array Oper} {md : Region.Mode} {Q : Exit → Act → World → Prop}
def rowM (md : Region.Mode) (ops : Array Oper) : List Nat → Array Bool → Bool
  | [], _ => true
  | k :: ks, s => decide (Region.ready md ops s = [k]) && rowM md ops ks (s.setIfInBounds k true)
theorem wp_then {o : Oper} {a : Act} {w : World} {K K2 : Act → World → Prop} (h : o.wp P a w K (Exit.then K2 Q)) : o.wp P a w K Q := by
  unfold Oper.wp at *
  generalize (execOp a.eval o).run P w = r at *
  cases r with
  | ok n w' =>
    cases n <;> first | exact h | (simp only [Oper.upon] at h ⊢; exact h.mono fun e w'' he => by cases e <;> exact he)
  | halt x w' => cases x <;> exact h
theorem row_any {l : List Oper} {g : Nat} {K : Act → World → Prop} (hl : ops = l.toArray) : ∀ (js : List Nat) (s : Array Bool) (a : Act) (w : World), rowM md ops js s = true →
    (∀ a' w', K a' w' → wpAny P md ops Q g (setL js s) a' w') → wpList P ops (Exit.then K Q) (selL l js) a w → wpAny P md ops Q (js.length + g) s a w := by
  intro js
  induction js with
  | nil =>
    intro s a w _ hK h
    rw [List.length_nil, Nat.zero_add]
    exact hK a w h
  | cons k ks ih =>
    intro s a w hB hK h
    simp only [rowM, Bool.and_eq_true, decide_eq_true_eq] at hB
    obtain ⟨hr, hB⟩ := hB
    obtain ⟨_, o, h0, _⟩ := mem_ready.1 (show k ∈ Region.ready md ops s by rw [hr]; simp)
    have h0' : l[k]? = some o := by rw [hl] at h0; simpa using h0
    have e : selL l (k :: ks) = o :: selL l ks := by simp [selL, h0']
    rw [e] at h
    rw [List.length_cons, Nat.add_right_comm]
    refine ⟨fun h1 => (by rw [hr] at h1; cases h1), fun i hi => ?_⟩
    rw [hr] at hi
    obtain rfl : i = k := by simpa using hi
    unfold wpOp
    simp only [h0]
    unfold wpList at h
    by_cases hw : Region.wanted o (yielded ops a.tmps) = true
    · rw [if_pos hw] at h ⊢
      rcases h with h | ⟨h1, h2⟩
      · exact .inl (Oper.wp_mono (fun a' w' h' => ih _ a' w' hB hK h') (wp_then h))
      · exact .inr ⟨h1, h2⟩
    · rw [if_neg hw] at h ⊢
      exact ih _ _ _ hB hK h
end
def midB (ops : Array Oper) (ps js : List Nat) (n : Nat) : Bool :=
  let s := Array.replicate ops.size false
  Region.noSelect ops && decide (ops.size = ps.length + (js.length + (ops.size - n))) && pureL .any ops ps s && rowM .any ops js (setL ps s) && Region.lexFrom .any ops (ops.size - n) n (setL js (setL ps s))
/-- What is left behind the chain: the rest reads, in the extensions of the world that the chain left. -/
def MidQ (P : Program) (l lr : List Oper) (Q : Exit → Act → World → Prop) (a' : Act) (w' : World) : Prop :=
  ∃ W2 d, w' = gr W2 d ∧ wpQuiet P l.toArray (fun w'' => ∃ d, w'' = gr W2 d) (fun a'' => ∀ w'', (∃ d, w'' = gr W2 d) → Q .normal a'' w'') lr a'
theorem wp_region_mid {P : Program} {id : Nat} {Q : Exit → Act → World → Prop} {a : Act} {w0 : World} {l : List Oper} (W : World) (ps js : List Nat) (n : Nat) {lp lj lr : List Oper} (hm : P.follows .mixedOrders = true) (hB : midB l.toArray ps js n = true)
    (hQ : ∀ c a b w, a.defers = b.defers → Q (.panic c) a w → Q (.panic c) b w) (hw : ∃ d, w0 = gr W d)
    (hp : selL l ps = lp) (hj : selL l js = lj) (hr : l.drop n = lr)
    (h : wpQuiet P l.toArray (fun _ => True) (fun a1 => ∀ w', (∃ d, w' = gr W d) → wpList P l.toArray (Exit.then (MidQ P l lr Q) Q) lj a1 w') lp a) :
    (Code.region id l.toArray true).wp P Q a w0 := by
  subst hp hj hr
  obtain ⟨d, rfl⟩ := hw
  obtain ⟨d', hd'⟩ := gr_drew W d
  simp only [midB, Bool.and_eq_true, decide_eq_true_eq] at hB
  obtain ⟨⟨⟨⟨hsel, hsz⟩, h1⟩, h2⟩, h3⟩ := hB
  have hlr : (l.drop n).length = l.toArray.size - n := by simp
  refine wp_region_any hm ?_
  generalize hrep : Array.replicate l.toArray.size false = R at *
  rw [hsz]
  refine take_pure rfl hsel hQ ps R a h1 (fun a1 ha1 => ?_) h
  refine row_any rfl js _ a1 _ h2 (fun a' w' hK => ?_) (ha1 _ ⟨d', hd'⟩)
  obtain ⟨W2, d2, hw2, hq⟩ := hK
  refine wpAny_of_quiet (Q := fun a' => ∀ w', (∃ d, w' = gr W2 d) → Q .normal a' w') (C := fun w' => ∃ d, w' = gr W2 d) (fun _ w' hw' h => h w' hw') _ _ _ _ ⟨d2, hw2⟩ ?_
  have := Go.wpAnyQ_lex (C := fun w' => ∃ d, w' = gr W2 d) (md := .any) hsel (l.drop n) n (setL js (setL ps R)) a' (fun j => by simp) (by rw [hlr]; exact h3) hq
  rwa [hlr] at this
end Go.Proofs.Ytoblgdjjpbnemaa
