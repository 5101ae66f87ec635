/-
  A region that draws its order: operations named one by one: those that yield whatever the world, those that read what is there, then a chain in a row. No condition.
-/
import Derived.Test.YtoblgdjjpbnemaaRegT
namespace Go.Proofs.Ytoblgdjjpbnemaa
open Go.RowKit

section
variable {P : Program} {ops : Array Oper} {Q : Exit → Act → World → Prop} {md : Region.Mode} {S : World → Prop}
/-- Whatever order is picked, S holding behind each that q tells of. -/
def wpAnyQ (P : Program) (md : Region.Mode) (ops : Array Oper) (Q : Exit → Act → World → Prop) (S : World → Prop) (q : Nat → Bool) : Nat → Array Bool → Act → World → Prop
  | 0, s, a, w => Region.ready md ops s = [] ∧ Q .normal a w
  | f + 1, s, a, w => (Region.ready md ops s = [] → Q .normal a w) ∧ ∀ i ∈ Region.ready md ops s, wpOp P ops Q i (fun a' w' => (q i = true → S w') ∧ wpAnyQ P md ops Q S q f (s.setIfInBounds i true) a' w') a w
theorem wpAny_of_Q {q : Nat → Bool} : ∀ (f : Nat) (s : Array Bool) (a : Act) (w : World), wpAnyQ P md ops Q S q f s a w → wpAny P md ops Q f s a w
  | 0, _, _, _, h => h
  | f + 1, _, _, _, h => ⟨h.1, fun i hi => wpOp_mono (fun a' w' h' => wpAny_of_Q f _ a' w' h'.2) (h.2 i hi)⟩
theorem wpAnyQ_first {q : Nat → Bool} {i : Nat} {oi : Oper} {v : Value} (hi : ops[i]? = some oi) (hsel : ∀ (j : Nat) (o : Oper) cs b, ops[j]? = some o → o.op ≠ .select cs b)
    (hQ : ∀ c a w, Q (.panic c) (a.put oi.dst v) w → Q (.panic c) a w) (hwt : ∀ j, j < ops.size → q j = false → Region.waitsFor md ops j i = true) :
    ∀ (fuel : Nat) (listed : Array Bool) (a : Act) (w : World),
      (∀ j oj, ops[j]? = some oj → j ≠ i → listed.getD j true = false → (∀ e ∈ oj.after, Region.binds md e = true → e.on ≠ i) → oi.apart ops oj = true) →
      i ∈ Region.ready md ops listed → YieldsIf P ops S oi v a → S w →
      wpAnyQ P md ops Q S q fuel (listed.setIfInBounds i true) (a.put oi.dst v) w → wpAnyQ P md ops Q S q (fuel + 1) listed a w := by
  intro fuel
  induction fuel with
  | zero =>
    intro listed a w _ hr hy hS H
    refine ⟨fun h => (by rw [h] at hr; cases hr), fun j hj => ?_⟩
    by_cases hji : j = i
    · subst hji; exact hy.wpOp hi hS ⟨fun _ => hS, H⟩
    · have := ready_mono hj hji
      rw [H.1] at this
      cases this
  | succ fuel ih =>
    intro listed a w hfree hr hy hS H
    refine ⟨fun h => (by rw [h] at hr; cases hr), fun j hj => ?_⟩
    by_cases hji : j = i
    · subst hji; exact hy.wpOp hi hS ⟨fun _ => hS, H⟩
    · have h1 := H.2 j (ready_mono hj hji)
      obtain ⟨hjun, oj, hoj, hall⟩ := mem_ready.1 hj
      have hnot : ∀ e ∈ oj.after, Region.binds md e = true → e.on ≠ i := fun e he hb heq => by
        have h1 := hall e he hb
        have h0 := (mem_ready.1 hr).1
        rw [heq, getD_both h0] at h1
        cases h1
      have hjq : q j = true := by
        cases h : q j with
        | true => rfl
        | false =>
          obtain ⟨r, hrj, e, he, hb, hon⟩ := Region.waitsFor_spec (hwt j (Array.getElem?_eq_some_iff.1 hoj).1 h)
          obtain rfl : r = oj := Option.some.inj (hrj.symm.trans hoj)
          exact absurd hon (hnot e he hb)
      have h2 := wpOp_putIf hoj (hfree j oj hoj hji hjun hnot) (fun cs b => hsel i oi cs b hi) (fun cs b => hsel j oj cs b hoj) hQ hy h1
      have hfree' : ∀ k ok, ops[k]? = some ok → k ≠ i → (listed.setIfInBounds j true).getD k true = false →
          (∀ e ∈ ok.after, Region.binds md e = true → e.on ≠ i) → oi.apart ops ok = true := fun k ok hk hki hun hno => by
        refine hfree k ok hk hki ?_ hno
        by_cases hjk : j = k
        · subst hjk; exact hjun
        · rw [getD_set_ne true hjk] at hun; exact hun
      refine wpOp_mono (fun a' w' h3 => ⟨h3.2.1, ih (listed.setIfInBounds j true) a' w' hfree' (ready_mono hr (Ne.symm hji)) h3.1 (h3.2.1 hjq) ?_⟩) h2
      rw [Array.setIfInBounds_comm _ _ hji]
      exact h3.2.2
def setL : List Nat → Array Bool → Array Bool
  | [], s => s
  | k :: ks, s => setL ks (s.setIfInBounds k true)
def pureL (md : Region.Mode) (ops : Array Oper) : List Nat → Array Bool → Bool
  | [], _ => true
  | k :: ks, s => (Region.ready md ops s).contains k && Region.free md ops s k && (((ops[k]?).map plainOp).getD false) && pureL md ops ks (s.setIfInBounds k true)
def readL (md : Region.Mode) (ops : Array Oper) (js : List Nat) : List Nat → Array Bool → Bool
  | [], _ => true
  | k :: ks, s => (Region.ready md ops s).contains k && Region.free md ops s k && (((ops[k]?).map valOp).getD false) && ((List.range ops.size).all fun j => !js.contains j || Region.waitsFor md ops j k) && readL md ops js ks (s.setIfInBounds k true)
def rowL (md : Region.Mode) (ops : Array Oper) : List Nat → Array Bool → Bool
  | [], s => (Region.ready md ops s).isEmpty
  | k :: ks, s => decide (Region.ready md ops s = [k]) && rowL md ops ks (s.setIfInBounds k true)
def selL (l : List Oper) (ks : List Nat) : List Oper := ks.filterMap fun k => l[k]?
theorem take_pure {l : List Oper} (hl : ops = l.toArray) (hsel : Region.noSelect ops = true) (hQ : ∀ c a b w, a.defers = b.defers → Q (.panic c) a w → Q (.panic c) b w) {K : Act → Prop} {g : Nat} {w : World} :
    ∀ (ks : List Nat) (s : Array Bool) (a : Act), pureL md ops ks s = true → (∀ a', K a' → wpAny P md ops Q g (setL ks s) a' w) →
      wpQuiet P ops (fun _ => True) K (selL l ks) a → wpAny P md ops Q (ks.length + g) s a w := by
  intro ks
  induction ks with
  | nil =>
    intro s a _ hK h
    rw [List.length_nil, Nat.zero_add]
    exact hK a h
  | cons k ks ih =>
    intro s a hB hK h
    simp only [pureL, Bool.and_eq_true] at hB
    obtain ⟨⟨⟨hr, hf⟩, hv⟩, hB⟩ := hB
    cases h0 : ops[k]? with
    | none => rw [h0] at hv; cases hv
    | some o =>
      rw [h0] at hv
      have h0' : l[k]? = some o := by rw [hl] at h0; simpa using h0
      have hr : k ∈ Region.ready md ops s := by simpa using hr
      have e : selL l (k :: ks) = o :: selL l ks := by simp [selL, h0']
      rw [e] at h
      obtain ⟨v, hy, hK'⟩ := yieldsIn_of_qOp (K := wpQuiet P ops (fun _ => True) K (selL l ks)) h0 (by unfold qOp; simp only [h0]; exact h)
      rw [List.length_cons, Nat.add_right_comm]
      exact wpAny_first h0 (Region.noSelect_spec hsel) (fun c a' w' hq => hQ c _ _ w' (by cases o.dst <;> rfl) hq) _ s a w (Region.free_spec h0 hf) hr (plain_yields hv hy) (ih _ _ hB hK hK')
theorem take_read {l : List Oper} {js : List Nat} (hl : ops = l.toArray) (hsel : Region.noSelect ops = true) (hQ : ∀ c a b w, a.defers = b.defers → Q (.panic c) a w → Q (.panic c) b w) {K : Act → Prop} {g : Nat} {w : World} (hS : S w) :
    ∀ (ks : List Nat) (s : Array Bool) (a : Act), readL md ops js ks s = true → (∀ a', K a' → wpAnyQ P md ops Q S (fun i => !js.contains i) g (setL ks s) a' w) →
      wpQuiet P ops S K (selL l ks) a → wpAnyQ P md ops Q S (fun i => !js.contains i) (ks.length + g) s a w := by
  intro ks
  induction ks with
  | nil =>
    intro s a _ hK h
    rw [List.length_nil, Nat.zero_add]
    exact hK a h
  | cons k ks ih =>
    intro s a hB hK h
    simp only [readL, Bool.and_eq_true] at hB
    obtain ⟨⟨⟨⟨hr, hf⟩, hv⟩, hwt⟩, hB⟩ := hB
    cases h0 : ops[k]? with
    | none => rw [h0] at hv; cases hv
    | some o =>
      rw [h0] at hv
      have h0' : l[k]? = some o := by rw [hl] at h0; simpa using h0
      have hr : k ∈ Region.ready md ops s := by simpa using hr
      have e : selL l (k :: ks) = o :: selL l ks := by simp [selL, h0']
      rw [e] at h
      obtain ⟨v, hy, hK'⟩ := yieldsIn_of_qOp (K := wpQuiet P ops S K (selL l ks)) h0 (by unfold qOp; simp only [h0]; exact h)
      rw [List.length_cons, Nat.add_right_comm]
      refine wpAnyQ_first h0 (Region.noSelect_spec hsel) (fun c a' w' hq => hQ c _ _ w' (by cases o.dst <;> rfl) hq) (fun j hj hq => ?_) _ s a w (Region.free_spec h0 hf) hr (val_yields hv hy) hS (ih _ _ hB hK hK')
      have := List.all_eq_true.1 hwt j (List.mem_range.2 hj)
      simp only [Bool.or_eq_true] at this
      rcases this with h | h
      · rw [hq] at h; cases h
      · exact h
theorem row_Q {l : List Oper} {q : Nat → Bool} (hl : ops = l.toArray) : ∀ (ks : List Nat) (s : Array Bool) (a : Act) (w : World), (∀ k ∈ ks, q k = false ∧ k < ops.size) → rowL md ops ks s = true → wpList P ops Q (selL l ks) a w → wpAnyQ P md ops Q S q ks.length s a w := by
  intro ks
  induction ks with
  | nil =>
    intro s a w _ hB h
    exact ⟨by simpa [rowL] using hB, h⟩
  | cons k ks ih =>
    intro s a w hk hB h
    simp only [rowL, Bool.and_eq_true, decide_eq_true_eq] at hB
    obtain ⟨hr, hB⟩ := hB
    obtain ⟨hq, hlt⟩ := hk k (by simp)
    have h0 : ops[k]? = some ops[k] := Array.getElem?_eq_getElem hlt
    have h0' : l[k]? = some ops[k] := by
      subst hl
      simp
    have e : selL l (k :: ks) = ops[k] :: selL l ks := by simp [selL, h0']
    rw [e] at h
    refine ⟨fun h1 => (by rw [hr] at h1; cases h1), fun i hi => ?_⟩
    rw [hr] at hi
    have hik : i = k := by simpa using hi
    subst hik
    have hw : wpOp P ops Q i (wpList P ops Q (selL l ks)) a w := by unfold wpOp; simp only [h0]; exact h
    refine wpOp_mono (fun a' w' h' => ⟨fun h => ?_, ih _ a' w' (fun k hk' => hk k (by simp [hk'])) hB h'⟩) hw
    rw [hq] at h
    cases h
end
def selB (ops : Array Oper) (ps is js : List Nat) : Bool :=
  let s := Array.replicate ops.size false
  Region.noSelect ops && decide (ops.size = ps.length + (is.length + js.length)) && pureL .any ops ps s && readL .any ops js is (setL ps s) && rowL .any ops js (setL is (setL ps s)) && (js.all fun k => decide (k < ops.size))
theorem wp_region_sel {P : Program} {id : Nat} {Q : Exit → Act → World → Prop} {a : Act} {w0 : World} {l : List Oper} (W : World) (ps is js : List Nat) {lp li lj : List Oper} (hm : P.follows .mixedOrders = true) (hB : selB l.toArray ps is js = true)
    (hQ : ∀ c a b w, a.defers = b.defers → Q (.panic c) a w → Q (.panic c) b w) (hw : ∃ d, w0 = gr W d)
    (hp : selL l ps = lp) (hi : selL l is = li) (hj : selL l js = lj)
    (h : wpQuiet P l.toArray (fun _ => True) (fun a1 => wpQuiet P l.toArray (fun w' => ∃ d, w' = gr W d) (fun a' => ∀ w', (∃ d, w' = gr W d) → wpList P l.toArray Q lj a' w') li a1) lp a) :
    (Code.region id l.toArray true).wp P Q a w0 := by
  subst hp hi hj
  obtain ⟨d, rfl⟩ := hw
  obtain ⟨d', hd'⟩ := gr_drew W d
  simp only [selB, Bool.and_eq_true, decide_eq_true_eq] at hB
  obtain ⟨⟨⟨⟨⟨hsel, hsz⟩, h1⟩, h2⟩, h3⟩, h4⟩ := hB
  refine wp_region_any hm ?_
  generalize hrep : Array.replicate l.toArray.size false = R at *
  rw [hsz]
  refine take_pure rfl hsel hQ ps R a h1 (fun a1 ha1 => ?_) h
  refine wpAny_of_Q (S := fun w' => ∃ d, w' = gr W d) (q := fun i => !js.contains i) _ _ _ _ ?_
  refine take_read rfl hsel hQ ⟨d', hd'⟩ is _ a1 h2 (fun a' ha' => ?_) ha1
  refine row_Q rfl js _ a' _ (fun k hk => ⟨by simp [hk], ?_⟩) h3 (ha' _ ⟨d', hd'⟩)
  exact of_decide_eq_true (List.all_eq_true.1 h4 k hk)
end Go.Proofs.Ytoblgdjjpbnemaa
