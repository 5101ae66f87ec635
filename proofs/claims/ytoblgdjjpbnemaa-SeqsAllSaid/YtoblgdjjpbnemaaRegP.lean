/-
  A region that draws its order, in three parts: operations that yield whatever the world (they may come up at any time), operations that are quiet in the extensions of a world, and a chain behind both. No condition.
-/
import Derived.Test.YtoblgdjjpbnemaaBase
namespace Go.Proofs.Ytoblgdjjpbnemaa
open Go.RowKit

/-- Operations that compute, no call among them. -/
def plainOp (o : Oper) : Bool := match o.op with
  | .move _ | .assign _ | .pick .. | .build .. | .binOp .. | .unOp .. | .convert .. | .sliceToArrayPointer .. | .slice .. | .fieldAddr .. | .field .. | .indexAddr .. | .index .. | .extract .. => true
  | _ => false
theorem value_of {P : Program} {s : Sem Value} {w w' : World} {r : Next} (h : ((do let x ← s; pure (.value x) : Sem Next)).run P w = .ok r w') : ∃ u, r = .value u := by
  rw [Sem.run_bind] at h
  cases hs : s.run P w with
  | ok x w1 =>
    rw [hs] at h
    simp only [Result.andThen_ok, Sem.run_pure] at h
    cases h
    exact ⟨x, rfl⟩
  | halt x w1 =>
    rw [hs] at h
    simp [Result.andThen] at h
theorem plain_value {P : Program} {ρ : Operand → Value} {o : Oper} (ho : plainOp o = true) {w w' : World} {r : Next} (h : (execOp ρ o).run P w = .ok r w') : ∃ u, r = .value u := by
  unfold execOp at h
  unfold plainOp at ho
  split at ho <;> first | (simp at ho; done) | skip
  all_goals
    rename_i heq
    rw [heq] at h
    first
      | exact value_of h
      | (simp only [Sem.run_pure] at h; cases h; exact ⟨_, rfl⟩)
      | (simp only [Sem.run_bind] at h; generalize Sem.run P (asBool _) w = rr at h; cases rr <;> simp [Result.andThen] at h; exact ⟨_, h.1.symm⟩)
theorem plain_yields {P : Program} {ops : Array Oper} {o : Oper} {a : Act} {v : Value} (ho : plainOp o = true) (h : YieldsIn P ops (fun _ => True) o v a) : Yields P ops o v a := by
  rcases h with ⟨hw, h⟩ | h
  · refine .inl ⟨hw, fun w => ?_⟩
    have h1 := h w trivial
    unfold Oper.quietAt at h1
    cases hr : (execOp a.eval o).run P w with
    | ok r w' =>
      obtain ⟨u, rfl⟩ := plain_value ho hr
      rw [hr] at h1
      obtain ⟨rfl, rfl⟩ := h1
      rfl
    | halt x w' => rw [hr] at h1; exact h1.elim
  · exact .inr h

section
variable {P : Program} {ops : Array Oper} {md : Region.Mode} {C : World → Prop}
/-- As the library's sinkB, the first p aside. -/
def sinkP (md : Region.Mode) (ops : Array Oper) (p n : Nat) : Bool :=
  (List.range n).all fun i => decide (i < p) || (List.range (n + 1)).any fun j => decide (i < j) && Region.waitsFor md ops j i
theorem tail_waitsP {p n : Nat} {s : Array Bool} (hs : sinkP md ops p n = true) (hc : Region.chainB md ops n = true) (hn : n < ops.size) (inv : HeadInv md ops n s) (hp : ∀ i, i < p → s.getD i true = true) :
    ∀ (d i : Nat), n - i = d → i < n → s.getD i true = false → ∀ t, n ≤ t → t ∉ Region.ready md ops s := by
  intro d
  induction d using Nat.strongRecOn with
  | _ d ih =>
    intro i hd hin hu t ht hr
    obtain ⟨_, q, hq, hall⟩ := mem_ready.1 hr
    have htl : t < ops.size := (Array.getElem?_eq_some_iff.1 hq).1
    rcases Nat.lt_or_ge n t with hlt | hge
    · have h1 := List.all_eq_true.1 hc t (List.mem_range.2 htl)
      simp only [Bool.or_eq_true, decide_eq_true_eq] at h1
      rcases h1 with h1 | h1
      · omega
      · obtain ⟨q', hq', e, he, hb, hon⟩ := Region.waitsFor_spec h1
        obtain rfl : q' = q := Option.some.inj (hq'.symm.trans hq)
        have h2 := hall e he hb
        rw [hon, getD_both (inv.tail (t - 1) (by omega) (by omega))] at h2
        cases h2
    · obtain rfl : t = n := by omega
      have h1 := List.all_eq_true.1 hs i (List.mem_range.2 hin)
      simp only [Bool.or_eq_true, decide_eq_true_eq] at h1
      rcases h1 with h1 | h1
      · rw [hp i h1] at hu; cases hu
      · obtain ⟨j, hj, hj2⟩ := List.any_eq_true.1 h1
        simp only [Bool.and_eq_true, decide_eq_true_eq] at hj2
        obtain ⟨r, hrj, e, he, hb, hon⟩ := Region.waitsFor_spec hj2.2
        have hjt : j ≤ t := by have := List.mem_range.1 hj; omega
        rcases Nat.lt_or_ge j t with hjl | hjg
        · cases hl : s.getD j false with
          | true =>
            have h2 := inv.closed j r hrj hl e he hb
            rw [hon, getD_both hu] at h2
            cases h2
          | false => exact ih (t - j) (by omega) j rfl hjl (getD_in (by rw [inv.size]; omega) hl) t (Nat.le_refl _) hr
        · obtain rfl : j = t := by omega
          obtain rfl : r = q := Option.some.inj (hrj.symm.trans hq)
          have h2 := hall e he hb
          rw [hon, getD_both hu] at h2
          cases h2

theorem Heads.firstP {p n i : Nat} {o : Oper} {v : Value} {L : Array Bool → Act → Prop} (ho : ops[i]? = some o)
    (hsel : ∀ (j : Nat) (q : Oper) cs b, ops[j]? = some q → q.op ≠ .select cs b)
    (hs : sinkP md ops p n = true) (hc : Region.chainB md ops n = true) (hn : n < ops.size) (hin : i < n)
    (hL : ∀ s a, L s a → ∀ j ∈ Region.ready md ops s, n ≤ j) :
    ∀ (f : Nat) (s : Array Bool) (a : Act), HeadInv md ops n s → (∀ i, i < p → s.getD i true = true) →
      (∀ j q, ops[j]? = some q → j ≠ i → s.getD j true = false → (∀ e ∈ q.after, Region.binds md e = true → e.on ≠ i) → o.apart ops q = true) →
      i ∈ Region.ready md ops s → YieldsIn P ops C o v a →
      Heads P md ops C n L f (s.setIfInBounds i true) (a.put o.dst v) → Heads P md ops C n L (f + 1) s a := by
  intro f
  induction f with
  | zero =>
    intro s a inv hp _ hr hy H
    have hu := (mem_ready.1 hr).1
    refine ⟨List.ne_nil_of_mem hr, fun j hj => ?_⟩
    have hjn : j < n := Nat.lt_of_not_le fun h => tail_waitsP hs hc hn inv hp _ i rfl hin hu j h hj
    by_cases e : j = i
    · subst e
      exact ⟨hjn, hy.qOp ho H⟩
    · exact absurd (hL _ _ H j (ready_mono hj e)) (by omega)
  | succ f ih =>
    intro s a inv hp free hr hy H
    have hu := (mem_ready.1 hr).1
    refine ⟨List.ne_nil_of_mem hr, fun j hj => ?_⟩
    have hjn : j < n := Nat.lt_of_not_le fun h => tail_waitsP hs hc hn inv hp _ i rfl hin hu j h hj
    refine ⟨hjn, ?_⟩
    by_cases e : j = i
    · subst e
      exact hy.qOp ho H
    · obtain ⟨hju, q, hq, hall⟩ := mem_ready.1 hj
      have hno : ∀ d ∈ q.after, Region.binds md d = true → d.on ≠ i := by
        intro d hd hb he
        have h1 := hall d hd hb
        rw [he, getD_both hu] at h1
        cases h1
      have hq' := qOp_put hq (free j q hq e hju hno) (fun cs b => hsel i o cs b ho) (fun cs b => hsel j q cs b hq) hy (H.2 j (ready_mono hj e)).2
      refine qOp_mono (fun a' h' => ?_) hq'
      refine ih (s.setIfInBounds j true) a' (inv.set hj hjn) ?_ ?_ (ready_mono hr (Ne.symm e)) h'.1 ?_
      · intro x hx
        by_cases ejx : j = x
        · rw [← ejx] at hx
          rw [hp j hx] at hju
          cases hju
        · rw [getD_set_ne true ejx]
          exact hp x hx
      · intro k r hk hki hku hkn
        refine free k r hk hki ?_ hkn
        by_cases ejk : j = k
        · rw [← ejk]; exact hju
        · rw [getD_set_ne true ejk] at hku; exact hku
      · rw [Array.setIfInBounds_comm _ _ e]
        exact h'.2

theorem Heads.lexP {p n g : Nat} {Lq : Act → Prop} (hsel : Region.noSelect ops = true) (hs : sinkP md ops p n = true) (hc : Region.chainB md ops n = true) (hn : n < ops.size) :
    ∀ (l : List Oper) (k : Nat) (s : Array Bool) (a : Act), p ≤ k → (∀ j, j < l.length → l[j]? = ops[k + j]?) → k + l.length = n → HeadInv md ops n s → (∀ i, i < p → s.getD i true = true) →
      Region.lexHead md ops g l.length k s = true → wpQuiet P ops C Lq l a →
      Heads P md ops C n (fun s' a' => Region.seqB md ops g n s' = true ∧ Lq a') l.length s a := by
  intro l
  induction l with
  | nil =>
    intro k s a _ _ hk _ _ hB h
    simp only [List.length_nil, Nat.add_zero] at hk
    subst hk
    exact ⟨hB, h⟩
  | cons o l ih =>
    intro k s a hpk hl hk inv hp hB h
    have h0 : ops[k]? = some o := by
      have := hl 0 (Nat.zero_lt_succ _)
      simpa using this.symm
    simp only [List.length_cons, Region.lexHead, Bool.and_eq_true] at hB
    have hkn : k < n := by simp only [List.length_cons] at hk; omega
    have hr : k ∈ Region.ready md ops s := by simpa using hB.1.1
    obtain ⟨v, hy, hK⟩ := yieldsIn_of_qOp (K := wpQuiet P ops C Lq l) h0 (by unfold qOp; simp only [h0]; exact h)
    refine Heads.firstP h0 (Region.noSelect_spec hsel) hs hc hn hkn (fun s' a' hL => seqB_ready hL.1) _ s a inv hp (Region.free_spec h0 hB.1.2) hr hy ?_
    refine ih (k + 1) _ _ (by omega) (fun j hj => ?_) (by simp only [List.length_cons] at hk; omega) (inv.set hr hkn) (fun i hi => ?_) hB.2 hK
    · have h1 := hl (j + 1) (by simp only [List.length_cons]; omega)
      rw [List.getElem?_cons_succ] at h1
      rw [h1]
      congr 1
      omega
    · rw [getD_set_ne true (by omega)]
      exact hp i hi

/-- What comes up whatever the world is taken first. -/
def preB (md : Region.Mode) (ops : Array Oper) : Nat → Nat → Array Bool → Bool
  | 0, _, _ => true
  | f + 1, k, s => (Region.ready md ops s).contains k && Region.free md ops s k && (((ops[k]?).map plainOp).getD false) && preB md ops f (k + 1) (s.setIfInBounds k true)
def preS : Nat → Nat → Array Bool → Array Bool
  | 0, _, s => s
  | f + 1, k, s => preS f (k + 1) (s.setIfInBounds k true)
theorem preS_size : ∀ (f k : Nat) (s : Array Bool), (preS f k s).size = s.size
  | 0, _, _ => rfl
  | f + 1, k, s => by rw [preS, preS_size f (k + 1)]; simp
theorem pre_take {Q : Exit → Act → World → Prop} (hsel : Region.noSelect ops = true) (hQ : ∀ c a b w, a.defers = b.defers → Q (.panic c) a w → Q (.panic c) b w) {K : Act → Prop} {g : Nat} {w : World} :
    ∀ (l : List Oper) (k : Nat) (s : Array Bool) (a : Act), (∀ j, j < l.length → l[j]? = ops[k + j]?) → preB md ops l.length k s = true →
      (∀ a', K a' → wpAny P md ops Q g (preS l.length k s) a' w) →
      wpQuiet P ops (fun _ => True) K l a → wpAny P md ops Q (l.length + g) s a w := by
  intro l
  induction l with
  | nil =>
    intro k s a _ _ hK h
    rw [List.length_nil, Nat.zero_add]
    exact hK a h
  | cons o l ih =>
    intro k s a hl hB hK h
    have h0 : ops[k]? = some o := by
      have := hl 0 (Nat.zero_lt_succ _)
      simpa using this.symm
    simp only [List.length_cons, preB, Bool.and_eq_true, h0, Option.map_some, Option.getD_some] at hB
    have hr : k ∈ Region.ready md ops s := by simpa using hB.1.1.1
    obtain ⟨v, hy, hK'⟩ := yieldsIn_of_qOp (K := wpQuiet P ops (fun _ => True) K l) h0 (by unfold qOp; simp only [h0]; exact h)
    rw [List.length_cons, Nat.add_right_comm]
    refine wpAny_first h0 (Region.noSelect_spec hsel) (fun c a' w' hq => hQ c _ _ w' (by cases o.dst <;> rfl) hq) _ s a w (Region.free_spec h0 hB.1.1.2) hr (plain_yields hB.1.2 hy) ?_
    refine ih (k + 1) _ _ (fun j hj => ?_) hB.2 hK hK'
    have h1 := hl (j + 1) (by simp only [List.length_cons]; omega)
    rw [List.getElem?_cons_succ] at h1
    rw [h1]
    congr 1
    omega
def regB (md : Region.Mode) (ops : Array Oper) (p n : Nat) : Bool :=
  let s := preS p 0 (Array.replicate ops.size false)
  Region.noSelect ops && decide (p ≤ n) && decide (n < ops.size) && sinkP md ops p n && Region.chainB md ops n && preB md ops p 0 (Array.replicate ops.size false) && Region.lexHead md ops (ops.size - n) (n - p) p s &&
    ((List.range p).all fun i => s.getD i true) && ((List.range ops.size).all fun t => decide (t < p) || !s.getD t true) &&
    ((List.range p).all fun j => ((ops[j]?).map fun o => o.after.all fun e => !Region.binds md e || s.getD e.on false).getD true)
theorem wp_region_gr3 {id : Nat} {Q : Exit → Act → World → Prop} {a : Act} {w0 : World} {l : List Oper} (W : World) (p n : Nat) (hm : P.follows .mixedOrders = true) (hB : regB .any l.toArray p n = true)
    (hQ : ∀ c a b w, a.defers = b.defers → Q (.panic c) a w → Q (.panic c) b w) (hw : ∃ d, w0 = gr W d)
    (h : wpQuiet P l.toArray (fun _ => True) (fun a1 => wpQuiet P l.toArray (fun w' => ∃ d, w' = gr W d) (fun a' => ∀ w', (∃ d, w' = gr W d) → wpList P l.toArray Q (l.drop n) a' w') ((l.take n).drop p) a1) (l.take p) a) :
    (Code.region id l.toArray true).wp P Q a w0 := by
  obtain ⟨d, rfl⟩ := hw
  obtain ⟨d', hd'⟩ := gr_drew W d
  simp only [regB, Bool.and_eq_true, decide_eq_true_eq] at hB
  obtain ⟨⟨⟨⟨⟨⟨⟨⟨⟨hsel, hpn⟩, hn⟩, hs⟩, hc⟩, hpre⟩, hlex⟩, hp1⟩, hp2⟩, hp3⟩ := hB
  have hn' : n < l.length := by simpa using hn
  have hlp : (l.take p).length = p := by simp; omega
  have hlm : ((l.take n).drop p).length = n - p := by simp; omega
  have hlt : (l.drop n).length = l.toArray.size - n := by simp
  refine wp_region_any hm ?_
  have hsz : l.toArray.size = (l.take p).length + (l.toArray.size - p) := by rw [hlp]; simp; omega
  have hSz : (Array.replicate l.toArray.size false).size = l.toArray.size := by simp
  generalize Array.replicate l.toArray.size false = S at *
  rw [hsz]
  refine pre_take (md := .any) hsel hQ (l.take p) 0 _ a (fun j hj => ?_) (by rw [hlp]; exact hpre) (fun a1 h1 => ?_) h
  · rw [hlp] at hj
    simp [hj]
  rw [hlp]
  have inv : HeadInv .any l.toArray n (preS p 0 S) := by
    refine ⟨by rw [preS_size, hSz], fun j q hq hl e he hb => ?_, fun t ht ht' => ?_⟩
    · have hjp : j < p := by
        have hjs := (Array.getElem?_eq_some_iff.1 hq).1
        rcases Nat.lt_or_ge j p with h' | h'
        · exact h'
        · have := List.all_eq_true.1 hp2 j (List.mem_range.2 hjs)
          simp only [Bool.or_eq_true, decide_eq_true_eq, Bool.not_eq_true'] at this
          rcases this with h2 | h2
          · exact h2
          · rw [getD_both h2] at hl; cases hl
      have := List.all_eq_true.1 hp3 j (List.mem_range.2 hjp)
      rw [hq] at this
      simp only [Option.map_some, Option.getD_some] at this
      have := Array.all_eq_true_iff_forall_mem.1 this e he
      simpa [hb] using this
    · have := List.all_eq_true.1 hp2 t (List.mem_range.2 ht')
      simp only [Bool.or_eq_true, decide_eq_true_eq, Bool.not_eq_true'] at this
      rcases this with h2 | h2
      · omega
      · exact h2
  have H := Heads.lexP (C := fun w' => ∃ d, w' = gr W d) (md := .any) (p := p) (g := l.toArray.size - n) hsel hs hc hn ((l.take n).drop p) p _ a1 (Nat.le_refl _) (fun j hj => ?_) (by rw [hlm]; omega) inv
    (fun i hi => List.all_eq_true.1 hp1 i (List.mem_range.2 hi)) (by rw [hlm]; exact hlex) h1
  · have K := H.any (Q := Q) (g := l.toArray.size - n) (fun s a' w' hw' hL => by
      have := wpAny_of_seq (md := .any) (Q' := Q) (l.drop n) n s a' w' (fun j => by simp [List.getElem?_drop]) (by rw [hlt]; exact hL.1) (hL.2 w' hw')
      rwa [hlt] at this) _ _ _ _ ⟨d', hd'⟩
    rw [hlm, show n - p + (l.toArray.size - n) = l.toArray.size - p by omega] at K
    exact K
  · rw [hlm] at hj
    rw [List.getElem?_drop, List.getElem?_take]
    rw [if_pos (by omega)]
    simp
end
end Go.Proofs.Ytoblgdjjpbnemaa
