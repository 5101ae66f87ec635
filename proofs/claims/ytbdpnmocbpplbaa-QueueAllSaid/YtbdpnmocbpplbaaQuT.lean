/-
  What a call comes to keeps the room and the bytes; a queue of one's own as one state, and the calls on it. No condition.
-/
import Derived.Test.YtbdpnmocbpplbaaRdJ
namespace Go.Proofs.Ytbdpnmocbpplbaa
open Go.RowKit Go.Conc

def okX (x : Itm) : Prop := x.bs.length ≤ 140737488351232 ∧ okI x
structure Good (most : Nat) (xs : List Itm) : Prop where
  len : xs.length ≤ most
  ok : ∀ x ∈ xs, okX x
theorem getD_mem {xs : List Itm} {k : Nat} (h : k < xs.length) : xs.getD k zeroI ∈ xs := by
  rw [List.getD_eq_getElem?_getD, List.getElem?_eq_getElem h]
  exact List.getElem_mem h
theorem Good.hl {most : Nat} {xs : List Itm} (h : Good most xs) : ∀ k, k < xs.length → (xs.getD k zeroI).bs.length ≤ 140737488351232 := fun k hk => (h.ok _ (getD_mem hk)).1
theorem Good.hok {most : Nat} {xs : List Itm} (h : Good most xs) : ∀ k, k < xs.length → okI (xs.getD k zeroI) := fun k hk => (h.ok _ (getD_mem hk)).2
theorem okX_zero : okX zeroI := ⟨by simp [zeroI], fun j hj => absurd hj (by simp [zeroI])⟩
theorem keptN_sub (keep : Nat → Bool) (xs : List Itm) : ∀ n, n ≤ xs.length → ∀ x ∈ keptN keep xs n, x ∈ xs
  | 0, _, x, hx => by simp [keptN] at hx
  | n + 1, h, x, hx => by
    unfold keptN at hx
    rcases List.mem_append.1 hx with h1 | h1
    · exact keptN_sub keep xs n (by omega) x h1
    · split at h1
      · rw [List.mem_singleton.1 h1]
        exact getD_mem (by omega)
      · simp at h1
theorem okX_turn {x : Itm} (h : okX x) (n : Int) : okX (turnI x n) := by
  refine ⟨by simpa [turnI] using h.1, fun j hj => ?_⟩
  have hj' : j < x.bs.length := by simpa [turnI] using hj
  have h1 := h.2 j hj'
  show 0 ≤ (x.bs.set n.toNat (255 - x.bs.getD n.toNat 0)).getD j 0 ∧ (x.bs.set n.toNat (255 - x.bs.getD n.toNat 0)).getD j 0 < 256
  by_cases e : n.toNat = j
  · subst e
    rw [List.getD_eq_getElem?_getD, List.getElem?_set_self hj', Option.getD_some]
    omega
  · rw [List.getD_eq_getElem?_getD, List.getElem?_set_ne e, ← List.getD_eq_getElem?_getD]
    exact h1
theorem Good.turn {most : Nat} {xs : List Itm} (h : Good most xs) (k p : Int) : Good most (turnL k p xs) := by
  refine ⟨by rw [turnL_len]; exact h.len, fun x hx => ?_⟩
  unfold turnL at hx
  split at hx
  · rename_i hd
    rcases List.mem_or_eq_of_mem_set hx with h1 | h1
    · exact h.ok x h1
    · unfold doneT at hd
      simp only [Bool.and_eq_true, decide_eq_true_eq] at hd
      rw [h1]
      exact okX_turn (h.ok _ (getD_mem (by omega))) p
  · exact h.ok x hx
theorem Good.twice {most : Nat} {xs : List Itm} (h : Good most xs) (k : Int) : Good most (twiceL most k xs) := by
  unfold twiceL
  split
  · rename_i hd
    unfold twiceB at hd
    simp only [Bool.and_eq_true, decide_eq_true_eq] at hd
    refine ⟨by simp; omega, fun x hx => ?_⟩
    rcases List.mem_append.1 hx with h1 | h1
    · exact h.ok x h1
    · rw [List.mem_singleton.1 h1]
      exact h.ok _ (getD_mem (by omega))
  · exact h
theorem Good.kept {most : Nat} {xs : List Itm} (h : Good most xs) (keep : Nat → Bool) : Good most (keptN keep xs xs.length) := ⟨Nat.le_trans (keptN_len _ _ _) h.len, fun x hx => h.ok x (keptN_sub keep xs _ (Nat.le_refl _) x hx)⟩
theorem Good.tail {most : Nat} {x : Itm} {xs : List Itm} (h : Good most (x :: xs)) : Good most xs := ⟨by have := h.len; simp at this; omega, fun y hy => h.ok y (List.mem_cons_of_mem _ hy)⟩
theorem Good.nil (most : Nat) : Good most [] := ⟨Nat.zero_le _, fun x hx => absurd hx (by simp)⟩
theorem Good.does {most : Nat} {xs : List Itm} (h : Good most xs) (o : OpI) (ho : okX o.x) : Good most (doR most o xs).ys := by
  unfold doR
  split
  · split
    · refine ⟨by simp; omega, fun x hx => ?_⟩
      rcases List.mem_append.1 hx with h1 | h1
      · exact h.ok x h1
      · rw [List.mem_singleton.1 h1]
        exact ho
    · exact h
  · split
    · match xs, h with
      | [], h => exact h
      | x :: r, h => exact h.tail
    · split
      · exact h.kept _
      · split
        · exact h
        · split
          · exact h.twice _
          · split
            · exact h.turn _ _
            · split
              · exact .nil _
              · exact h
/-- A block of one's own that no item lies in. -/
def MineB (w : World) (us : List Value) (b : Nat) : Prop := own? w b = true ∧ ¬ Bl us b
structure MyI (w : World) (us : List Value) (v : Value) (x : Itm) : Prop where
  itm : ItmIn w v x
  blk : ∀ b, blkOf v = some b → MineB w us b
/-- A call on a queue went by. -/
structure Stp (ch : Nat) (vs : List Value) (w : World) (us : List Value) (w' : World) : Prop where
  chg : Chg (fun b' => b' = ch ∨ Bl vs b') w w'
  blk : ∀ b', Bl us b' → w.heap.size ≤ b' ∨ Bl vs b'
theorem Stp.below {ch : Nat} {vs : List Value} {w w' : World} (h : Below w.heap.size w w') : Stp ch vs w vs w' := ⟨.of_below h, fun _ => .inr⟩
theorem Stp.mine {b ch most : Nat} {vs us : List Value} {xs : List Itm} {w w' : World} (h : Stp ch vs w us w') (hq : QS w b ch most vs xs) {g : Nat} (hg : MineB w vs g) : MineB w' us g ∧ row? w' g = row? w g := by
  have hl := own_lt hg.1
  have hn : ¬ (g = ch ∨ Bl vs g) := fun e => by
    rcases e with e | e
    · have h1 := hg.1
      rw [e, hq.que.ownc] at h1
      cases h1
    · exact hg.2 e
  refine ⟨⟨by rw [h.chg.own hl hn]; exact hg.1, fun e => ?_⟩, h.chg.row hl hn⟩
  rcases h.blk g e with h1 | h1
  · omega
  · exact hg.2 h1
theorem Stp.itm {b ch most : Nat} {vs us : List Value} {xs : List Itm} {w w' : World} (h : Stp ch vs w us w') (hq : QS w b ch most vs xs) {v : Value} {x : Itm} (hg : MyI w vs v x) : MyI w' us v x :=
  ⟨hg.itm.kept h.chg (fun b' hb e => by
    rcases e with e | e
    · rw [e]; exact hq.que.rowc
    · exact absurd e (hg.blk b' hb).2), fun b' hb => (h.mine hq (hg.blk b' hb)).1⟩
/-- A queue that was made behind w0. -/
structure QG (w0 : World) (wr : World) (b ch n : Nat) (vs : List Value) (ys : List Itm) : Prop where
  qs : QS wr b ch n vs ys
  good : Good n ys
  fr : ∀ b', Bl vs b' → w0.heap.size ≤ b'
  bel : Below w0.heap.size w0 wr
  lch : w0.heap.size ≤ ch
  le : n ≤ 64
theorem QG.step {w0 wr w' : World} {b ch n : Nat} {vs us : List Value} {ys zs : List Itm} (h : QG w0 wr b ch n vs ys) (hq : QS w' b ch n us zs) (hs : Stp ch vs wr us w') (hg : Good n zs) : QG w0 w' b ch n us zs :=
  ⟨hq, hg, fun b' hb => (hs.blk b' hb).elim (fun h1 => Nat.le_trans h.bel.size h1) (h.fr b'), h.bel.trans (hs.chg.below h.bel.size (fun k hk e => by
    have h1 := h.lch
    rcases e with e | e
    · omega
    · have := h.fr k e
      omega)), h.lch, h.le⟩
theorem QG.below {w0 wr w' : World} {b ch n : Nat} {vs : List Value} {ys : List Itm} (h : QG w0 wr b ch n vs ys) (hb : Below wr.heap.size wr w') : QG w0 w' b ch n vs ys := h.step (h.qs.below hb) (.below hb) h.good
/-- A new block lies in no item. -/
theorem QG.fresh {w0 wr w' : World} {b ch n : Nat} {vs : List Value} {ys : List Itm} (h : QG w0 wr b ch n vs ys) (ho : own? w' wr.heap.size = true) : MineB w' vs wr.heap.size := ⟨ho, fun e => by have := h.qs.lt e; omega⟩
theorem QG.new {w0 w' : World} {b ch n : Nat} (h : Que w' b ch n []) (hb : Below w0.heap.size w0 w') (hc : w0.heap.size ≤ ch) (hn : n ≤ 64) : QG w0 w' b ch n [] [] := ⟨.nil h, .nil n, fun b' ⟨v, hv, _⟩ => absurd hv (by simp), hb, hc, hn⟩
theorem does_g {w0 w : World} {b ch n : Nat} {vs : List Value} {ys : List Itm} (h : QG w0 w b ch n vs ys) (o : OpI) (a : Option Addr) (c : Nat) (hx : RowsIn b1 0 1 w a o.x.bs) (ho : okX o.x) :
    Calls Try.prog 21 #[.pointer (some ⟨b, 0, none⟩), .agg (oa o a c)] w fun e w' => ∃ a' c' us, e = .returned (.agg (aa (eR (doR n o ys)) (doR n o ys).x.k a' (doR n o ys).x.bs.length c' (doR n o ys).n)) ∧ RowsIn b1 0 1 w' a' (doR n o ys).x.bs ∧ QG w0 w' b ch n us (doR n o ys).ys ∧ Stp ch vs w us w' :=
  (does_c o a c w h.qs hx (by have := h.le; omega) h.good.len h.good.hl h.good.hok ho.1).mono fun e w' ⟨a', c', us, he, hr, hq, hf, hc⟩ => ⟨a', c', us, he, hr, h.step hq ⟨hc, hf⟩ (h.good.does o ho), ⟨hc, hf⟩⟩
def lookI (p : Int) (xs : List Itm) : Itm := if 0 ≤ p ∧ p < xs.length then xs.getD p.toNat zeroI else zeroI
theorem lookI_ok {n : Nat} {xs : List Itm} (h : Good n xs) (p : Int) : okX (lookI p xs) := by
  unfold lookI
  split
  · exact h.ok _ (getD_mem (by omega))
  · exact okX_zero
theorem MyI.zero (w : World) (us : List Value) : MyI w us (.agg (ic 0 none 0 0)) zeroI := ⟨⟨none, 0, rfl, .inl rfl⟩, fun b hb => by simp at hb⟩
theorem look_g {w0 w : World} {b ch n : Nat} {vs : List Value} {ys : List Itm} (h : QG w0 w b ch n vs ys) (p : Int) :
    Calls Try.prog 17 #[.pointer (some ⟨b, 0, none⟩), .int .i64 p] w fun e w' => ∃ a' c' us, e = .returned (.tuple #[.agg (ic (lookI p ys).k a' (lookI p ys).bs.length c'), .bool (decide (0 ≤ p ∧ p < ys.length))]) ∧ QG w0 w' b ch n us ys ∧ Stp ch vs w us w' ∧ MyI w' us (.agg (ic (lookI p ys).k a' (lookI p ys).bs.length c')) (lookI p ys) :=
  (look_c p w h.qs (by have := h.le; omega) h.good.len h.good.hl).mono fun e w' ⟨v, us, he, hq, hf, hit, hmiss, hc⟩ => by
    have hs : Stp ch vs w us w' := ⟨hc, fun b' hb => .inl (hf b' hb).1⟩
    by_cases hp : 0 ≤ p ∧ p < ys.length
    · have hn := hit hp
      have e1 : lookI p ys = ys.getD p.toNat zeroI := if_pos hp
      have hm : MyI w' us v (lookI p ys) := ⟨by rw [e1]; exact hn.itm, fun g hg => ⟨(hn.blk hg).2, fun e => (hf g e).2 hg⟩⟩
      obtain ⟨a', c', rfl, _⟩ := hm.itm
      exact ⟨a', c', us, he, h.step hq hs h.good, hs, hm⟩
    · have e1 : lookI p ys = zeroI := if_neg hp
      rw [e1]
      rw [hmiss hp] at he
      exact ⟨none, 0, us, he, h.step hq hs h.good, hs, .zero _ _⟩
theorem turn_g {w0 w : World} {b ch n : Nat} {vs : List Value} {ys : List Itm} (h : QG w0 w b ch n vs ys) (p at_ : Int) :
    Calls Try.prog 19 #[.pointer (some ⟨b, 0, none⟩), .int .i64 p, .int .i64 at_] w fun e w' => e = .returned (.bool (doneT p at_ ys ys.length)) ∧ ∃ us, QG w0 w' b ch n us (turnL p at_ ys) ∧ Stp ch vs w us w' :=
  (turn_c p at_ w h.qs (by have := h.le; omega) h.good.len h.good.hl h.good.hok).mono fun e w' ⟨he, us, hq, hf, hc⟩ => by
    have hs : Stp ch vs w us w' := ⟨hc, fun b' hb => .inl (hf b' hb)⟩
    exact ⟨he, us, h.step hq hs (h.good.turn p at_), hs⟩
theorem twice_g {w0 w : World} {b ch n : Nat} {vs : List Value} {ys : List Itm} (h : QG w0 w b ch n vs ys) (p : Int) :
    Calls Try.prog 18 #[.pointer (some ⟨b, 0, none⟩), .int .i64 p] w fun e w' => e = .returned (.bool (twiceB n p ys)) ∧ ∃ us, QG w0 w' b ch n us (twiceL n p ys) ∧ Stp ch vs w us w' :=
  (twice_c p w h.qs (by have := h.le; omega) h.good.len h.good.hl).mono fun e w' ⟨he, us, hq, hf, hc⟩ => by
    have hs : Stp ch vs w us w' := ⟨hc, fun b' hb => .inl (hf b' hb)⟩
    exact ⟨he, us, h.step hq hs (h.good.twice p), hs⟩
theorem put_g {w0 w : World} {b ch n : Nat} {vs : List Value} {ys : List Itm} (h : QG w0 w b ch n vs ys) (v : Value) (x : Itm) (hx : ItmIn w v x) (ho : okX x) (hr : ys.length < n) :
    Calls Try.prog 11 #[.pointer (some ⟨b, 0, none⟩), v] w fun e w' => e = .returned (.int .i64 0) ∧ ∃ us, QG w0 w' b ch n us (ys ++ [x]) ∧ Stp ch vs w us w' :=
  (put_q v x ho.1 w h.qs hx (by rw [h.qs.its.1]; exact hr)).mono fun e w' ⟨he, v', hq, hn, hc⟩ => by
    have hs : Stp ch vs w (vs ++ [v']) w' := ⟨hc.mono (fun _ _ h => .inl h), fun b' hb => (Bl.snoc.1 hb).elim .inr (fun h => .inl (hn.blk h).1)⟩
    refine ⟨he, _, h.step hq hs ⟨by simp; omega, fun y hy => ?_⟩, hs⟩
    · rcases List.mem_append.1 hy with h1 | h1
      · exact h.good.ok y h1
      · rw [List.mem_singleton.1 h1]; exact ho
theorem take_g {w0 w : World} {b ch n : Nat} {vs : List Value} {y : Itm} {ys : List Itm} (h : QG w0 w b ch n vs (y :: ys)) :
    Calls Try.prog 12 #[.pointer (some ⟨b, 0, none⟩)] w fun e w' => ∃ a' c' us, e = .returned (.tuple #[.agg (ic y.k a' y.bs.length c'), .int .i64 0]) ∧ QG w0 w' b ch n us ys ∧ Stp ch vs w us w' ∧ MyI w' us (.agg (ic y.k a' y.bs.length c')) y := by
  match vs, h.qs.its.1 with
  | v :: vs, _ =>
    refine (take_q w h.qs).mono fun e w' ⟨he, hq, hi, hb, hc⟩ => ?_
    have hs : Stp ch (v :: vs) w vs w' := ⟨hc.mono (fun _ _ h => .inl h), fun b' hb => .inr (Bl.cons.2 (.inr hb))⟩
    have hm : MyI w' vs v y := ⟨hi, hb⟩
    obtain ⟨a', c', rfl, _⟩ := hm.itm
    exact ⟨a', c', vs, he, h.step hq hs h.good.tail, hs, hm⟩
theorem take_gn {w0 w : World} {b ch n : Nat} {vs : List Value} (h : QG w0 w b ch n vs []) :
    Calls Try.prog 12 #[.pointer (some ⟨b, 0, none⟩)] w fun e w' => e = .returned (.tuple #[.agg (ic 0 none 0 0), .int .i64 181]) ∧ QG w0 w' b ch n vs [] ∧ Stp ch vs w vs w' := by
  match vs, h.qs.its.1 with
  | [], _ => exact (take_none w h.qs.que).mono fun e w' ⟨he, hb⟩ => ⟨he, h.below hb, .below hb⟩
theorem len_g {w0 w : World} {b ch n : Nat} {vs : List Value} {ys : List Itm} (h : QG w0 w b ch n vs ys) : Calls Try.prog 14 #[.pointer (some ⟨b, 0, none⟩)] w fun e w' => e = .returned (.int .i64 ys.length) ∧ w' = w :=
  (len_c h.qs.que).mono fun e w' ⟨h1, h2⟩ => ⟨by rw [h1, h.qs.its.1], h2⟩
theorem alive_g {w0 w : World} {b ch n : Nat} {vs : List Value} {ys : List Itm} (h : QG w0 w b ch n vs ys) : Calls Try.prog 10 #[] w fun e w' => e = .returned (.bool true) ∧ QG w0 w' b ch n vs ys ∧ Stp ch vs w vs w' :=
  (alive18_c w).mono fun e w' ⟨h1, h2⟩ => ⟨h1, h.below h2, .below h2⟩
end Go.Proofs.Ytbdpnmocbpplbaa
