/-
  A region that draws its order: values read from what is there, two new blocks (in whichever order), then a chain that waits for all of them. No condition.
-/
import Derived.Test.YtoblgdjjpbnemaaRegP
import Derived.OrdersHeld
import Derived.Laws.CopyOwn
namespace Go.Proofs.Ytoblgdjjpbnemaa
open Go.RowKit

def valOp (o : Oper) : Bool := plainOp o || (match o.op with | .load .. => true | _ => false)
theorem val_value {P : Program} {ρ : Operand → Value} {o : Oper} (ho : valOp o = true) {w w' : World} {r : Next} (h : (execOp ρ o).run P w = .ok r w') : ∃ u, r = .value u := by
  unfold valOp at ho
  simp only [Bool.or_eq_true] at ho
  rcases ho with ho | ho
  · exact plain_value ho h
  · unfold execOp at h
    split at ho
    · rename_i heq
      rw [heq] at h
      exact value_of h
    · cases ho
theorem val_yields {P : Program} {ops : Array Oper} {C : World → Prop} {o : Oper} {a : Act} {v : Value} (ho : valOp o = true) (h : YieldsIn P ops C o v a) : YieldsIf P ops C o v a := by
  rcases h with ⟨hw, h⟩ | h
  · refine .inl ⟨hw, fun w hC => ?_⟩
    have h1 := h w hC
    unfold Oper.quietAt at h1
    cases hr : (execOp a.eval o).run P w with
    | ok r w' =>
      obtain ⟨u, rfl⟩ := val_value ho hr
      rw [hr] at h1
      obtain ⟨rfl, rfl⟩ := h1
      rfl
    | halt x w' => rw [hr] at h1; exact h1.elim
  · exact .inr h

section
variable {P : Program} {ops : Array Oper} {Q : Exit → Act → World → Prop} {md : Region.Mode} {S : World → Prop}
/-- Whatever order is picked, S holding behind each of the first n. -/
def wpAnyP (P : Program) (md : Region.Mode) (ops : Array Oper) (Q : Exit → Act → World → Prop) (S : World → Prop) (n : Nat) : Nat → Array Bool → Act → World → Prop
  | 0, s, a, w => Region.ready md ops s = [] ∧ Q .normal a w
  | f + 1, s, a, w => (Region.ready md ops s = [] → Q .normal a w) ∧ ∀ i ∈ Region.ready md ops s, wpOp P ops Q i (fun a' w' => (i < n → S w') ∧ wpAnyP P md ops Q S n f (s.setIfInBounds i true) a' w') a w
theorem wpAny_of_P {n : Nat} : ∀ (f : Nat) (s : Array Bool) (a : Act) (w : World), wpAnyP P md ops Q S n f s a w → wpAny P md ops Q f s a w
  | 0, _, _, _, h => h
  | f + 1, _, _, _, h => ⟨h.1, fun i hi => wpOp_mono (fun a' w' h' => wpAny_of_P f _ a' w' h'.2) (h.2 i hi)⟩
theorem wpAnyP_of {n : Nat} : ∀ (f : Nat) (s : Array Bool) (a : Act) (w : World), (∀ i, i < n → s.getD i true = true) → wpAny P md ops Q f s a w → wpAnyP P md ops Q S n f s a w := by
  intro f
  induction f with
  | zero => intro _ _ _ _ h; exact h
  | succ f ih =>
    intro s a w hs h
    refine ⟨h.1, fun i hi => ?_⟩
    have h1 := (mem_ready.1 hi).1
    have hin : ¬ i < n := by intro h; rw [hs i h] at h1; cases h1
    refine wpOp_mono (fun a' w' h' => ⟨fun h => absurd h hin, ih _ a' w' (fun k hk => ?_) h'⟩) (h.2 i hi)
    rw [getD_set_ne true (by omega)]
    exact hs k hk
theorem wpAnyP_first {n i : Nat} {oi : Oper} {v : Value} (hi : ops[i]? = some oi) (hsel : ∀ (j : Nat) (o : Oper) cs b, ops[j]? = some o → o.op ≠ .select cs b)
    (hQ : ∀ c a w, Q (.panic c) (a.put oi.dst v) w → Q (.panic c) a w) (hin : i < n) (hwt : ∀ j, n ≤ j → j < ops.size → Region.waitsFor md ops j i = true) :
    ∀ (fuel : Nat) (listed : Array Bool) (a : Act) (w : World),
      (∀ j oj, ops[j]? = some oj → j ≠ i → listed.getD j true = false → (∀ e ∈ oj.after, Region.binds md e = true → e.on ≠ i) → oi.apart ops oj = true) →
      i ∈ Region.ready md ops listed → YieldsIf P ops S oi v a → S w →
      wpAnyP P md ops Q S n fuel (listed.setIfInBounds i true) (a.put oi.dst v) w → wpAnyP P md ops Q S n (fuel + 1) listed a w := by
  intro fuel
  induction fuel with
  | zero =>
    intro listed a w _ hr hy hS H
    refine ⟨fun h => (by rw [h] at hr; cases hr), fun j hj => ?_⟩
    by_cases hji : j = i
    · subst hji; exact hy.wpOp hi hS ⟨fun _ => hS, H⟩
    · have := ready_mono hj hji
      rw [H.1] at this
      cases this
  | succ fuel ih =>
    intro listed a w hfree hr hy hS H
    refine ⟨fun h => (by rw [h] at hr; cases hr), fun j hj => ?_⟩
    by_cases hji : j = i
    · subst hji; exact hy.wpOp hi hS ⟨fun _ => hS, H⟩
    · have h1 := H.2 j (ready_mono hj hji)
      obtain ⟨hjun, oj, hoj, hall⟩ := mem_ready.1 hj
      have hnot : ∀ e ∈ oj.after, Region.binds md e = true → e.on ≠ i := fun e he hb heq => by
        have h1 := hall e he hb
        have h0 := (mem_ready.1 hr).1
        rw [heq, getD_both h0] at h1
        cases h1
      have hjn : j < n := by
        rcases Nat.lt_or_ge j n with h | h
        · exact h
        · obtain ⟨q, hq, e, he, hb, hon⟩ := Region.waitsFor_spec (hwt j h (Array.getElem?_eq_some_iff.1 hoj).1)
          obtain rfl : q = oj := Option.some.inj (hq.symm.trans hoj)
          exact absurd hon (hnot e he hb)
      have h2 := wpOp_putIf hoj (hfree j oj hoj hji hjun hnot) (fun cs b => hsel i oi cs b hi) (fun cs b => hsel j oj cs b hoj) hQ hy h1
      have hfree' : ∀ k ok, ops[k]? = some ok → k ≠ i → (listed.setIfInBounds j true).getD k true = false →
          (∀ e ∈ ok.after, Region.binds md e = true → e.on ≠ i) → oi.apart ops ok = true := fun k ok hk hki hun hno => by
        refine hfree k ok hk hki ?_ hno
        by_cases hjk : j = k
        · subst hjk; exact hjun
        · rw [getD_set_ne true hjk] at hun; exact hun
      refine wpOp_mono (fun a' w' h3 => ⟨h3.2.1, ih (listed.setIfInBounds j true) a' w' hfree' (ready_mono hr (Ne.symm hji)) h3.1 (h3.2.1 hjn) ?_⟩) h2
      rw [Array.setIfInBounds_comm _ _ hji]
      exact h3.2.2
def takeB (md : Region.Mode) (ops : Array Oper) (n : Nat) : Nat → Nat → Array Bool → Bool
  | 0, _, _ => true
  | f + 1, k, s => (Region.ready md ops s).contains k && Region.free md ops s k && (((ops[k]?).map valOp).getD false) && decide (k < n) && ((List.range ops.size).all fun j => decide (j < n) || Region.waitsFor md ops j k) && takeB md ops n f (k + 1) (s.setIfInBounds k true)
theorem take_P (hsel : Region.noSelect ops = true) (hQ : ∀ c a b w, a.defers = b.defers → Q (.panic c) a w → Q (.panic c) b w) {K : Act → Prop} {g n : Nat} {w : World} (hS : S w) :
    ∀ (l : List Oper) (k : Nat) (s : Array Bool) (a : Act), (∀ j, j < l.length → l[j]? = ops[k + j]?) → takeB md ops n l.length k s = true →
      (∀ a', K a' → wpAnyP P md ops Q S n g (preS l.length k s) a' w) →
      wpQuiet P ops S K l a → wpAnyP P md ops Q S n (l.length + g) s a w := by
  intro l
  induction l with
  | nil =>
    intro k s a _ _ hK h
    rw [List.length_nil, Nat.zero_add]
    exact hK a h
  | cons o l ih =>
    intro k s a hl hB hK h
    have h0 : ops[k]? = some o := by
      have := hl 0 (Nat.zero_lt_succ _)
      simpa using this.symm
    simp only [List.length_cons, takeB, Bool.and_eq_true, h0, Option.map_some, Option.getD_some, decide_eq_true_eq] at hB
    obtain ⟨⟨⟨⟨⟨hr, hf⟩, hv⟩, hkn⟩, hwt⟩, hB⟩ := hB
    have hr : k ∈ Region.ready md ops s := by simpa using hr
    obtain ⟨v, hy, hK'⟩ := yieldsIn_of_qOp (K := wpQuiet P ops S K l) h0 (by unfold qOp; simp only [h0]; exact h)
    rw [List.length_cons, Nat.add_right_comm]
    refine wpAnyP_first h0 (Region.noSelect_spec hsel) (fun c a' w' hq => hQ c _ _ w' (by cases o.dst <;> rfl) hq) hkn (fun j hj hjs => ?_) _ s a w (Region.free_spec h0 hf) hr (val_yields hv hy) hS ?_
    · have := List.all_eq_true.1 hwt j (List.mem_range.2 hjs)
      simp only [Bool.or_eq_true, decide_eq_true_eq] at this
      rcases this with h | h
      · omega
      · exact h
    refine ih (k + 1) _ _ (fun j hj => ?_) hB hK hK'
    have h1 := hl (j + 1) (by simp only [List.length_cons]; omega)
    rw [List.getElem?_cons_succ] at h1
    rw [h1]
    congr 1
    omega
end

def twoB (ops : Array Oper) (n : Nat) : Bool :=
  let s := preS n 0 (Array.replicate ops.size false)
  let t := (s.setIfInBounds n true).setIfInBounds (n + 1) true
  Region.noSelect ops && decide (ops.size = n + 4) && takeB .any ops (n + 3) n 0 (Array.replicate ops.size false) &&
    decide (Region.ready .any ops s = [n, n + 1]) && decide (Region.ready .any ops (s.setIfInBounds n true) = [n + 1]) && decide (Region.ready .any ops (s.setIfInBounds (n + 1) true) = [n]) &&
    decide (Region.ready .any ops t = [n + 2]) && decide (Region.ready .any ops (t.setIfInBounds (n + 2) true) = [n + 3]) && decide (Region.ready .any ops ((t.setIfInBounds (n + 2) true).setIfInBounds (n + 3) true) = [])

/-- What is known of two blocks of one's own. -/
structure Two (W0 W : World) (b c : Nat) (A B : Array Value) : Prop where
  ne : b ≠ c
  lb : W0.heap.size ≤ b
  lc : W0.heap.size ≤ c
  rb : ∀ d, row? (gr W d) b = A
  ob : ∀ d, own? (gr W d) b = true
  rc : ∀ d, row? (gr W d) c = B
  oc : ∀ d, own? (gr W d) c = true
  up : ∀ d, ∃ d', gr W d = gr W0 d'
theorem two_alloc (W0 d : World) {A B : Array Value} {S T : TypeId} :
    ∃ W, ((gr W0 d).alloc (.cells A S)).alloc (.cells B T) = gr W W ∧ Two W0 W (gr W0 d).heap.size ((gr W0 d).alloc (.cells A S)).heap.size A B := by
  have hs := (gr_below W0 d).size
  have hb : Below W0.heap.size W0 (((gr W0 d).alloc (.cells A S)).alloc (.cells B T)) := (((gr_below W0 d).alloc hs _).alloc (by simp; omega) _)
  refine ⟨_, gr_self _, by simp, hs, by simp; omega, gr_row ?_ (by simp; omega), gr_own ?_, gr_row ?_ (by simp), gr_own ?_, fun e => gr_ex (hb.trans ((gr_below _ e).mono (by simp; omega)))⟩
  · simp [row_alloc, rowOf]
  · simp [own_alloc, ownOf]
  · simp [row_alloc, rowOf]
  · simp [own_alloc, ownOf]
theorem Two.swap {W0 W : World} {b c : Nat} {A B : Array Value} (h : Two W0 W b c A B) : Two W0 W c b B A := ⟨h.ne.symm, h.lc, h.lb, h.rc, h.oc, h.rb, h.ob, h.up⟩
/-- Behind stores of the whole of both. -/
theorem Two.stored {W0 W : World} {b c : Nat} {A B : Array Value} (h : Two W0 W b c A B) (A' B' : Array Value) (hA : A ≠ #[]) (hB : B ≠ #[]) :
    ∃ W1, ((gr W W).setRow b A').setRow c B' = gr W1 W1 ∧ Two W0 W1 b c A' B' := by
  obtain ⟨ne, lb, lc, rb, ob, rc, oc, up⟩ := h
  have r1 : row? (gr W W) b ≠ #[] := by rw [rb]; exact hA
  have r2 : row? ((gr W W).setRow b A') c ≠ #[] := by rw [row_setRow _ _ _ _ r1, if_neg ne.symm, rc]; exact hB
  have lt1 : b < (gr W W).heap.size := row_lt r1
  have lt2 : c < (gr W W).heap.size := row_lt (by rw [rc]; exact hB)
  have hb0 : Below W0.heap.size W0 (gr W W) := by
    obtain ⟨d, e⟩ := up W
    rw [e]
    exact gr_below W0 d
  have hb : Below W0.heap.size W0 (((gr W W).setRow b A').setRow c B') := below_setRow (below_setRow hb0 lb _) lc _
  refine ⟨_, gr_self _, ne, lb, lc, gr_row ?_ (by simp; exact lt1), gr_own ?_, gr_row ?_ (by simp; exact lt2), gr_own ?_, fun e => gr_ex (hb.trans ((gr_below _ e).mono (by simpa using hb0.size)))⟩
  · rw [row_setRow _ _ _ _ r2, if_neg ne, row_setRow _ _ _ _ r1, if_pos rfl]
  · rw [own_setRow, own_setRow, ob]
  · rw [row_setRow _ _ _ _ r2, if_pos rfl]
  · rw [own_setRow, own_setRow, oc]
theorem wp_region_two {P : Program} {id : Nat} {Q : Exit → Act → World → Prop} {a : Act} {w0 : World} {l : List Oper} (W : World) (n : Nat) (hm : P.follows .mixedOrders = true) (hB : twoB l.toArray n = true)
    (hQ : ∀ c a b w, a.defers = b.defers → Q (.panic c) a w → Q (.panic c) b w) (hw : ∃ d, w0 = gr W d)
    {oa ob oc od : Oper} {da db : Nat} {A B : Array Value} {SA SB : TypeId} (hoa : l[n]? = some oa) (hob : l[n + 1]? = some ob) (hoc : l[n + 2]? = some oc) (hod : l[n + 3]? = some od)
    (hda : oa.dst = some da) (hdb : ob.dst = some db) (hne : da ≠ db) (hga : oa.guard = none) (hgb : ob.guard = none) (hgc : oc.guard = none) (hgd : od.guard = none) (hdc : oc.dst = none) (hdd : od.dst = none)
    (hxa : ∀ ρ w, (execOp ρ oa).run P w = .ok (.value (.pointer (some ⟨w.heap.size, 0, none⟩))) (w.alloc (.cells A SA)))
    (hxb : ∀ ρ w, (execOp ρ ob).run P w = .ok (.value (.pointer (some ⟨w.heap.size, 0, none⟩))) (w.alloc (.cells B SB)))
    (hA0 : A ≠ #[]) (hB0 : B ≠ #[])
    (h : wpQuiet P l.toArray (fun w' => ∃ d, w' = gr W d) (fun a' => ∃ A' B', ∀ W1 b c, Two W W1 b c A B →
      (execOp (((a'.put (some da) (.pointer (some ⟨b, 0, none⟩))).put (some db) (.pointer (some ⟨c, 0, none⟩))).eval) oc).run P (gr W1 W1) = .ok .skip ((gr W1 W1).setRow b A') ∧
      (execOp (((a'.put (some da) (.pointer (some ⟨b, 0, none⟩))).put (some db) (.pointer (some ⟨c, 0, none⟩))).eval) od).run P ((gr W1 W1).setRow b A') = .ok .skip (((gr W1 W1).setRow b A').setRow c B') ∧
      ∀ W2, Two W W2 b c A' B' → Q .normal ((a'.put (some da) (.pointer (some ⟨b, 0, none⟩))).put (some db) (.pointer (some ⟨c, 0, none⟩))) (gr W2 W2)) (l.take n) a) :
    (Code.region id l.toArray true).wp P Q a w0 := by
  obtain ⟨d, rfl⟩ := hw
  obtain ⟨d', hd'⟩ := gr_drew W d
  simp only [twoB, Bool.and_eq_true, decide_eq_true_eq] at hB
  obtain ⟨⟨⟨⟨⟨⟨⟨⟨hsel, hn⟩, htk⟩, hr1⟩, hr2⟩, hr3⟩, hr4⟩, hr5⟩, hr6⟩ := hB
  have hln : (l.take n).length = n := by simp; simp at hn; omega
  refine wp_region_any hm (wpAny_of_P (S := fun w' => ∃ d, w' = gr W d) (n := n + 3) _ _ _ _ ?_)
  have hsz : l.toArray.size = (l.take n).length + 4 := by rw [hln]; omega
  generalize hrep : Array.replicate l.toArray.size false = R at *
  rw [hsz]
  refine take_P hsel hQ ⟨d', hd'⟩ (l.take n) 0 R a (fun j hj => ?_) (by rw [hln]; exact htk) (fun a' ha' => ?_) h
  · rw [hln] at hj
    simp [hj]
  rw [hln]
  obtain ⟨A', B', ha'⟩ := ha'
  have hoa' : l.toArray[n]? = some oa := by simpa using hoa
  have hob' : l.toArray[n + 1]? = some ob := by simpa using hob
  have hoc' : l.toArray[n + 2]? = some oc := by simpa using hoc
  have hod' : l.toArray[n + 3]? = some od := by simpa using hod
  have st1 : ∀ (k : Nat) (o : Oper) (v : Value) (K : Act → World → Prop) (a : Act) (w w' : World), l.toArray[k]? = some o → o.guard = none → (execOp a.eval o).run P w = .ok (.value v) w' → K (a.put o.dst v) w' → wpOp P l.toArray Q k K a w := by
    intro k o v K a w w' ho hg hx hK
    unfold wpOp
    rw [ho]
    simp only [Region.wanted, hg, if_true]
    left
    unfold Oper.wp
    rw [hx]
    exact hK
  have st2 : ∀ (k : Nat) (o : Oper) (K : Act → World → Prop) (a : Act) (w w' : World), l.toArray[k]? = some o → o.guard = none → o.dst = none → (execOp a.eval o).run P w = .ok .skip w' → K a w' → wpOp P l.toArray Q k K a w := by
    intro k o K a w w' ho hg hd hx hK
    unfold wpOp
    rw [ho]
    simp only [Region.wanted, hg, if_true]
    left
    unfold Oper.wp
    rw [hx]
    simp only [Oper.upon, hd]
    exact hK
  have hlast : ∀ s, s = ((preS n 0 R).setIfInBounds n true).setIfInBounds (n + 1) true → ∀ W1 b c, Two W W1 b c A B → wpAnyP P .any l.toArray Q (fun w' => ∃ d, w' = gr W d) (n + 3) 2 s ((a'.put (some da) (.pointer (some ⟨b, 0, none⟩))).put (some db) (.pointer (some ⟨c, 0, none⟩))) (gr W1 W1) := by
    intro s hs W1 b c ht
    subst hs
    obtain ⟨e1, e2, e3⟩ := ha' W1 b c ht
    obtain ⟨W2, he, ht2⟩ := ht.stored A' B' hA0 hB0
    refine ⟨fun h0 => (by rw [hr4] at h0; cases h0), fun i hi => ?_⟩
    rw [hr4] at hi
    simp only [List.mem_cons, List.not_mem_nil, or_false] at hi
    subst hi
    refine st2 _ _ _ _ _ _ hoc' hgc hdc e1 ⟨fun _ => ?_, fun h0 => (by rw [hr5] at h0; cases h0), fun i hi => ?_⟩
    · obtain ⟨d, e⟩ := ht.up W1
      rw [e]
      exact gr_ex (below_setRow (gr_below W d) ht.lb _)
    rw [hr5] at hi
    simp only [List.mem_cons, List.not_mem_nil, or_false] at hi
    subst hi
    refine st2 _ _ _ _ _ _ hod' hgd hdd e2 ⟨fun h => absurd h (by omega), hr6, ?_⟩
    rw [he]
    exact e3 W2 ht2
  have hd : (gr W d).drew = { gr W d with drawn := (gr W d).drawn + 1 } := rfl
  rw [← hd, hd']
  have ext : ∀ w : World, (∃ d, w = gr W d) → ∀ o, ∃ d, w.alloc o = gr W d := by
    rintro w ⟨d, rfl⟩ o
    exact gr_alloc W d o
  refine ⟨fun h0 => (by rw [hr1] at h0; cases h0), fun i hi => ?_⟩
  rw [hr1] at hi
  simp only [List.mem_cons, List.not_mem_nil, or_false] at hi
  rcases hi with rfl | rfl
  · refine st1 _ _ _ _ _ _ _ hoa' hga (hxa _ _) ⟨fun _ => gr_alloc W _ _, ⟨fun h0 => (by rw [hr2] at h0; cases h0), fun i hi => ?_⟩⟩
    rw [hr2] at hi
    simp only [List.mem_cons, List.not_mem_nil, or_false] at hi
    subst hi
    refine st1 _ _ _ _ _ _ _ hob' hgb (hxb _ _) ⟨fun _ => ext _ (gr_alloc W _ _) _, ?_⟩
    obtain ⟨W1, e, ht⟩ := two_alloc W d' (A := A) (B := B) (S := SA) (T := SB)
    rw [e, hda, hdb]
    exact hlast _ rfl _ _ _ ht
  · refine st1 _ _ _ _ _ _ _ hob' hgb (hxb _ _) ⟨fun _ => gr_alloc W _ _, ⟨fun h0 => (by rw [hr3] at h0; cases h0), fun i hi => ?_⟩⟩
    rw [hr3] at hi
    simp only [List.mem_cons, List.not_mem_nil, or_false] at hi
    subst hi
    refine st1 _ _ _ _ _ _ _ hoa' hga (hxa _ _) ⟨fun _ => ext _ (gr_alloc W _ _) _, ?_⟩
    obtain ⟨W1, e, ht⟩ := two_alloc W d' (A := B) (B := A) (S := SB) (T := SA)
    rw [e, hda, hdb, ← Act.put_comm _ _ _ (by intro x hx; cases hx; intro h; exact hne (Option.some.inj h).symm)]
    exact hlast _ (Array.setIfInBounds_comm _ _ (by omega)) _ _ _ ht.swap
end Go.Proofs.Ytoblgdjjpbnemaa
