/-
  A region that draws its order: operations that yield what is known, and stores of whole rows of one's own, told one by one; the frame stays unnamed. No condition.
-/
import Derived.Test.YtbdpnmocbpplbaaQuX
import Derived.Test.YtbdpnmocbpplbaaChg
namespace Go.Proofs.Ytbdpnmocbpplbaa
open Go.RowKit

def Frm (a : Act) (rd : List (Nat × Nat × Value)) (act : Act) : Prop := ∀ k, (∀ x ∈ rd, x.2.1 ≠ k) → act.tmps.getD k undef = a.tmps.getD k undef
def Dep (rd : List (Nat × Nat × Value)) (o : Oper) (act : Act) : Prop := ∀ x ∈ rd, (∃ e ∈ o.after, e.on = x.1 ∧ Region.binds .any e = true) → act.tmps.getD x.2.1 undef = x.2.2
def Blk (wr : List (Nat × Nat × Array Value)) (b : Nat) : Prop := ∃ x ∈ wr, x.2.1 = b
theorem Frm.at {a : Act} {rd : List (Nat × Nat × Value)} {act : Act} (h : Frm a rd act) (k : Nat) (hk : ∀ x ∈ rd, x.2.1 ≠ k) {v : Value} (hv : a.tmps.getD k undef = v) : act.tmps[k]?.getD undef = v := by
  rw [← hv, ← h k hk, Array.getD_eq_getD_getElem?]
theorem Dep.at {rd : List (Nat × Nat × Value)} {o : Oper} {act : Act} (h : Dep rd o act) (x : Nat × Nat × Value) (hx : x ∈ rd) (he : ∃ e ∈ o.after, e.on = x.1 ∧ Region.binds .any e = true) : act.tmps[x.2.1]?.getD undef = x.2.2 := by
  rw [← h x hx he, Array.getD_eq_getD_getElem?]
structure InvY (a : Act) (w0 : World) (n : Nat) (rd : List (Nat × Nat × Value)) (wr : List (Nat × Nat × Array Value)) (s : Array Bool) (act : Act) (w : World) : Prop where
  def_ : act.defers = a.defers
  tsz : act.tmps.size = a.tmps.size
  sz : s.size = n
  chg : Chg (Blk wr) w0 w
  frm : Frm a rd act
  rds : ∀ x ∈ rd, s.getD x.1 false = true → act.tmps.getD x.2.1 undef = x.2.2
  wrs : ∀ x ∈ wr, own? w x.2.1 = true ∧ (row? w x.2.1).size = x.2.2.size ∧ (s.getD x.1 false = true → row? w x.2.1 = x.2.2)
theorem getD_put (t : Array Value) (d k : Nat) (v : Value) (hd : d < t.size) : (t.setIfInBounds d v).getD k undef = if d = k then v else t.getD k undef := by
  by_cases e : d = k
  · subst e
    simp [Array.getD, hd]
  · rw [if_neg e, Array.getD_eq_getD_getElem?, Array.getD_eq_getD_getElem?, Array.getElem?_setIfInBounds, if_neg e]
theorem wp_region_ls {P : Program} {id : Nat} {l : List Oper} {Q : Exit → Act → World → Prop} {a : Act} {w0 : World} (hm : P.follows .mixedOrders = true)
    (hc : ((List.range l.toArray.size).all fun i => match l.toArray[i]? with | some o => o.after.all fun e => !Region.binds .any e || decide (e.on < i) | none => true) = true)
    (rd : List (Nat × Nat × Value)) (wr : List (Nat × Nat × Array Value))
    (hcover : ∀ i, i < l.toArray.size → (∃ x ∈ rd, x.1 = i) ∨ ∃ x ∈ wr, x.1 = i)
    (hil : ∀ x ∈ rd, x.1 < l.toArray.size) (hiw : ∀ x ∈ wr, x.1 < l.toArray.size)
    (hrr : ∀ x ∈ rd, ∀ y ∈ rd, (x.1 = y.1 → x = y) ∧ (x.1 ≠ y.1 → x.2.1 ≠ y.2.1))
    (hrw : ∀ x ∈ rd, ∀ y ∈ wr, x.1 ≠ y.1)
    (hww : ∀ x ∈ wr, ∀ y ∈ wr, (x.1 = y.1 → x = y) ∧ (x.1 ≠ y.1 → x.2.1 ≠ y.2.1))
    (hd : ∀ x ∈ rd, x.2.1 < a.tmps.size)
    (h0 : ∀ x ∈ wr, own? w0 x.2.1 = true ∧ (row? w0 x.2.1).size = x.2.2.size ∧ x.2.2.size ≠ 0)
    (hread : ∀ x ∈ rd, ∀ o, l.toArray[x.1]? = some o → o.guard = none ∧ o.dst = some x.2.1 ∧ ∀ act w', Frm a rd act → Dep rd o act → Chg (Blk wr) w0 w' → (execOp act.eval o).run P w' = .ok (.value x.2.2) w')
    (hwrite : ∀ x ∈ wr, ∀ o, l.toArray[x.1]? = some o → o.guard = none ∧ o.dst = none ∧ ∀ act w', Frm a rd act → Dep rd o act → Chg (Blk wr) w0 w' → own? w' x.2.1 = true → (row? w' x.2.1).size = x.2.2.size → (execOp act.eval o).run P w' = .ok .skip (w'.setRow x.2.1 x.2.2))
    (hend : ∀ act w', act.defers = a.defers → Frm a rd act → (∀ x ∈ rd, act.tmps.getD x.2.1 undef = x.2.2) → Chg (Blk wr) w0 w' → (∀ x ∈ wr, row? w' x.2.1 = x.2.2 ∧ own? w' x.2.1 = true) → Q .normal act w') :
    (Code.region id l.toArray true).wp P Q a w0 := by
  refine wp_region_inv hm (InvY a w0 l.toArray.size rd wr) ?_ ?_ ?_
  · refine ⟨rfl, rfl, by simp, (Chg.refl _ _).drew, fun k _ => rfl, fun x _ h => ?_, fun x hx => ⟨(h0 x hx).1, (h0 x hx).2.1, fun h => ?_⟩⟩
    all_goals (exfalso; simp [Array.getD] at h)
  · intro s act w i hi hI
    obtain ⟨h1, o, ho, hpre⟩ := mem_ready.1 hi
    have hlt : i < l.toArray.size := (Array.getElem?_eq_some_iff.1 ho).1
    have hdep : Dep rd o act := fun x hx ⟨e, he, e1, e2⟩ => hI.rds x hx (by rw [← e1]; exact hpre e he e2)
    rcases hcover i hlt with ⟨x, hx, rfl⟩ | ⟨x, hx, rfl⟩
    · obtain ⟨g1, g2, g3⟩ := hread x hx o ho
      refine wpOp_new ho g1 (g3 act w hI.frm hdep hI.chg) ?_
      rw [g2]
      have hdx : x.2.1 < act.tmps.size := by rw [hI.tsz]; exact hd x hx
      refine ⟨hI.def_, by show (act.tmps.setIfInBounds x.2.1 x.2.2).size = _; simp [hI.tsz], by simp [hI.sz], hI.chg, fun k hk => ?_, fun y hy hs => ?_, fun y hy => ⟨(hI.wrs y hy).1, (hI.wrs y hy).2.1, fun hs => ?_⟩⟩
      · show (act.tmps.setIfInBounds x.2.1 x.2.2).getD k undef = _
        rw [getD_put _ _ _ _ hdx, if_neg (hk x hx)]
        exact hI.frm k hk
      · show (act.tmps.setIfInBounds x.2.1 x.2.2).getD y.2.1 undef = _
        by_cases e : x.1 = y.1
        · rw [(hrr x hx y hy).1 e, getD_put _ _ _ _ (by rw [← (hrr x hx y hy).1 e]; exact hdx), if_pos rfl]
        · rw [getD_put _ _ _ _ hdx, if_neg ((hrr x hx y hy).2 e)]
          exact hI.rds y hy (by rwa [getD_set_ne false e] at hs)
      · rw [getD_set_ne false (hrw x hx y hy)] at hs
        exact (hI.wrs y hy).2.2 hs
    · obtain ⟨g1, g2, g3⟩ := hwrite x hx o ho
      obtain ⟨w1, w2, w3⟩ := hI.wrs x hx
      have hne : row? w x.2.1 ≠ #[] := fun e => by
        rw [e] at w2
        exact (h0 x hx).2.2 (by rw [← w2]; rfl)
      refine wpOp_skip ho g1 g2 (g3 act w hI.frm hdep hI.chg w1 w2) ?_
      refine ⟨hI.def_, hI.tsz, by simp [hI.sz], hI.chg.setRow (.inr ⟨x, hx, rfl⟩) _, hI.frm, fun y hy hs => hI.rds y hy (by rwa [getD_set_ne false (Ne.symm (hrw y hy x hx))] at hs), fun y hy => ?_⟩
      obtain ⟨v1, v2, v3⟩ := hI.wrs y hy
      rw [own_setRow, row_setRow _ _ _ _ hne]
      by_cases e : x.1 = y.1
      · have e2 := (hww x hx y hy).1 e
        subst e2
        rw [if_pos rfl]
        exact ⟨v1, rfl, fun _ => rfl⟩
      · rw [if_neg (Ne.symm ((hww x hx y hy).2 e))]
        exact ⟨v1, v2, fun hs => v3 (by rwa [getD_set_ne false e] at hs)⟩
  · intro s act w hr hI
    have hall := all_done hI.sz hc hr
    refine hend act w hI.def_ hI.frm (fun x hx => hI.rds x hx (hall _ (hil x hx))) hI.chg (fun x hx => ⟨(hI.wrs x hx).2.2 (hall _ (hiw x hx)), (hI.wrs x hx).1⟩)
end Go.Proofs.Ytbdpnmocbpplbaa
