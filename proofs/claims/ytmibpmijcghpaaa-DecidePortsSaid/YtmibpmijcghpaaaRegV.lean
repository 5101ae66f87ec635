/-
  A region that draws its order: operations that compute, then two that wait for nothing, in either order, then a chain; what is called may write. No condition.
-/
import Derived.Test.YtmibpmijcghpaaaRegQ
namespace Go.Proofs.Ytmibpmijcghpaaa
open Go.RowKit

section
variable {P : Program} {ops : Array Oper} {md : Region.Mode} {Q : Exit → Act → World → Prop}
theorem step_any {l : List Oper} {K : Act → World → Prop} (hl : ops = l.toArray) (k : Nat) (ks : List Nat) (s : Array Bool) (a : Act) (w : World) (hr : k ∈ Region.ready md ops s) (hB : rowM md ops ks (s.setIfInBounds k true) = true)
    (hK : ∀ a' w', K a' w' → wpAny P md ops Q 0 (setL ks (s.setIfInBounds k true)) a' w') (h : wpList P ops (Exit.then K Q) (selL l (k :: ks)) a w) :
    wpOp P ops Q k (fun a' w' => wpAny P md ops Q ks.length (s.setIfInBounds k true) a' w') a w := by
  obtain ⟨_, o, h0, _⟩ := mem_ready.1 hr
  have h0' : l[k]? = some o := by rw [hl] at h0; simpa using h0
  have e : selL l (k :: ks) = o :: selL l ks := by simp [selL, h0']
  rw [e] at h
  unfold wpOp
  simp only [h0]
  unfold wpList at h
  have hrow := fun a' w' (h' : wpList P ops (Exit.then K Q) (selL l ks) a' w') => row_any (P := P) (md := md) (Q := Q) (g := 0) hl ks _ a' w' hB hK h'
  by_cases hw : Region.wanted o (yielded ops a.tmps) = true
  · rw [if_pos hw] at h ⊢
    rcases h with h | ⟨h1, h2⟩
    · exact .inl (Oper.wp_mono (fun a' w' h' => hrow a' w' h') (wp_then h))
    · exact .inr ⟨h1, h2⟩
  · rw [if_neg hw] at h ⊢
    exact hrow _ _ h
end
def forkB (ops : Array Oper) (ps : List Nat) (i j : Nat) (js : List Nat) : Bool :=
  let s := setL ps (Array.replicate ops.size false)
  Region.noSelect ops && decide (ops.size = ps.length + (js.length + 1 + 1)) && pureL .any ops ps (Array.replicate ops.size false) && decide (Region.ready .any ops s = [i, j]) && rowM .any ops (j :: js) (s.setIfInBounds i true) && rowM .any ops (i :: js) (s.setIfInBounds j true) && decide (Region.ready .any ops (setL (j :: js) (s.setIfInBounds i true)) = []) && decide (Region.ready .any ops (setL (i :: js) (s.setIfInBounds j true)) = [])
theorem wp_region_fork {P : Program} {id : Nat} {Q : Exit → Act → World → Prop} {a : Act} {w0 : World} {l : List Oper} (W : World) (ps : List Nat) (i j : Nat) (js : List Nat) {lp l1 l2 : List Oper} (hm : P.follows .mixedOrders = true) (hB : forkB l.toArray ps i j js = true)
    (hQ : ∀ c a b w, a.defers = b.defers → Q (.panic c) a w → Q (.panic c) b w) (hw : ∃ d, w0 = gr W d)
    (hp : selL l ps = lp) (h1 : selL l (i :: j :: js) = l1) (h2 : selL l (j :: i :: js) = l2)
    (h : wpQuiet P l.toArray (fun _ => True) (fun a1 => ∀ w', (∃ d, w' = gr W d) → wpList P l.toArray (Exit.then (fun a' w' => Q .normal a' w') Q) l1 a1 w' ∧ wpList P l.toArray (Exit.then (fun a' w' => Q .normal a' w') Q) l2 a1 w') lp a) :
    (Code.region id l.toArray true).wp P Q a w0 := by
  subst hp h1 h2
  obtain ⟨d, rfl⟩ := hw
  obtain ⟨d', hd'⟩ := gr_drew W d
  simp only [forkB, Bool.and_eq_true, decide_eq_true_eq] at hB
  obtain ⟨⟨⟨⟨⟨⟨⟨hsel, hsz⟩, hp⟩, hr⟩, hb1⟩, hb2⟩, he1⟩, he2⟩ := hB
  refine wp_region_any hm ?_
  generalize hrep : Array.replicate l.toArray.size false = R at *
  rw [hsz]
  refine take_pure rfl hsel hQ ps R a hp (fun a1 ha1 => ?_) h
  obtain ⟨g1, g2⟩ := ha1 _ ⟨d', hd'⟩
  refine ⟨fun h0 => (by rw [hr] at h0; cases h0), fun k hk => ?_⟩
  have hk' := hk
  rw [hr] at hk'
  simp only [List.mem_cons, List.not_mem_nil, or_false] at hk'
  rcases hk' with rfl | rfl
  · exact step_any rfl k (j :: js) _ _ _ hk hb1 (fun a' w' hq => ⟨he1, hq⟩) g1
  · exact step_any rfl k (i :: js) _ _ _ hk hb2 (fun a' w' hq => ⟨he2, hq⟩) g2
end Go.Proofs.Ytmibpmijcghpaaa
