/-
  The book of the program and the document's book: plain laws. No program, no condition.
-/
import Derived.Test.YtoblgdjjpbnemaaSqV
import Derived.Test.YtoblgdjjpbnemaaSqM
namespace Go.Proofs.Ytoblgdjjpbnemaa
open Go.RowKit

def lastL (e : SE) (k : Int) : List LaR := if e.s.last k.toNat = 0 then [] else [⟨e.p, k, e.s.last k.toNat - 1⟩]
def halfL (p : Prt) (h : Hf) : List HaR := if h.is = true then [⟨p, h.sq, h.x⟩] else []
def ofP (p : Prt) (x : HaR) : Bool := decide (x.p = p)
structure Sim (pb : PB) (r : RB) : Prop where
  nx : ∀ k, pb.nx k = r.sent k % 65536
  pos : ∀ k, 0 ≤ r.sent k
  sn : r.sn = pb.l.map (·.p)
  ls : ∀ e ∈ pb.l, ∀ k, kindB k = true → r.ls.filter (hitL e.p k) = lastL e k
  lsp : ∀ x ∈ r.ls, x.p ∈ r.sn
  q : ∀ x ∈ r.ls, 0 ≤ x.q ∧ x.q ≤ 65535
  hs : ∀ e ∈ pb.l, r.hs.filter (ofP e.p) = halfL e.p e.s.h
  hsp : ∀ x ∈ r.hs, x.p ∈ r.sn
theorem Sim.zero : Sim zeroPB zeroRB := ⟨fun _ => rfl, fun _ => Int.le_refl 0, rfl, fun e he => absurd he (by simp [zeroPB]), fun x hx => absurd hx (by simp [zeroRB]), fun x hx => absurd hx (by simp [zeroRB]), fun e he => absurd he (by simp [zeroPB]), fun x hx => absurd hx (by simp [zeroRB])⟩
section
variable {pb : PB} {r : RB} {p : Prt}
theorem Sim.known (h : Sim pb r) : knownR r p = (getE pb.l p).isSome := by
  unfold knownR
  rw [h.sn]
  cases hg : getE pb.l p with
  | none =>
    refine decide_eq_false (fun hm => ?_)
    obtain ⟨x, hx, e⟩ := List.mem_map.1 hm
    exact getE_none' hg x hx e
  | some e => exact decide_eq_true (List.mem_map.2 ⟨e, (getE_some hg).1, (getE_some hg).2⟩)
theorem Sim.not_mem (h : Sim pb r) (hg : getE pb.l p = none) : p ∉ r.sn := fun hm => by
  rw [h.sn] at hm
  obtain ⟨x, hx, e⟩ := List.mem_map.1 hm
  exact getE_none' hg x hx e
theorem Sim.ls_none (h : Sim pb r) (hg : getE pb.l p = none) (k : Int) : r.ls.filter (hitL p k) = [] := by
  rw [List.filter_eq_nil_iff]
  intro x hx hh
  unfold hitL at hh
  have := (Bool.and_eq_true_iff.1 hh).1
  have e : x.p = p := of_decide_eq_true this
  exact h.not_mem hg (e ▸ h.lsp x hx)
theorem Sim.hs_none (h : Sim pb r) (hg : getE pb.l p = none) : r.hs.filter (ofP p) = [] := by
  rw [List.filter_eq_nil_iff]
  intro x hx hh
  have e : x.p = p := of_decide_eq_true hh
  exact h.not_mem hg (e ▸ h.hsp x hx)
theorem bad_filter (l : List LaR) (p : Prt) (k q : Int) : badL l p k q = (l.filter (hitL p k)).any fun x => !behB q x.q := by
  unfold badL
  rw [List.any_filter]
theorem filter_scan (l : List LaR) (p : Prt) (k : Int) (p' : Prt) (k' : Int) (h : ¬ (p' = p ∧ k' = k)) : (scanL l p k).filter (hitL p' k') = l.filter (hitL p' k') := by
  unfold scanL
  rw [List.filter_filter]
  apply List.filter_congr
  intro x _
  cases h1 : hitL p' k' x with
  | false => rfl
  | true =>
    have h2 : hitL p k x = false := by
      unfold hitL at *
      have := Bool.and_eq_true_iff.1 h1
      have e1 : x.p = p' := of_decide_eq_true this.1
      have e2 : x.k = k' := of_decide_eq_true this.2
      cases hp : decide (x.p = p) with
      | false => rfl
      | true =>
        cases hk : decide (x.k = k) with
        | false => rfl
        | true => exact absurd ⟨e1.symm.trans (of_decide_eq_true hp), e2.symm.trans (of_decide_eq_true hk)⟩ h
    rw [h2]
    rfl
theorem filter_scan_self (l : List LaR) (p : Prt) (k : Int) : (scanL l p k).filter (hitL p k) = [] := by
  unfold scanL
  rw [List.filter_filter, List.filter_eq_nil_iff]
  intro x _ h
  cases hh : hitL p k x <;> simp [hh] at h
theorem hit_new (p : Prt) (k q : Int) (p' : Prt) (k' : Int) : [(⟨p, k, q⟩ : LaR)].filter (hitL p' k') = if p' = p ∧ k' = k then [⟨p, k, q⟩] else [] := by
  unfold hitL
  by_cases h : p' = p ∧ k' = k
  · rw [if_pos h]
    simp [h.1, h.2]
  · rw [if_neg h]
    by_cases h1 : p = p'
    · have : ¬ k = k' := fun e => h ⟨h1.symm, e.symm⟩
      simp [this]
    · simp [h1]
/-- A sender's number is set. -/
theorem Sim.put (h : Sim pb r) (hnd : (pb.l.map (·.p)).Nodup) {e : SE} (hg : getE pb.l p = some e) {k q : Int} (hk : kindB k = true) (hq : rightB q = true) : Sim (putB pb.nx pb.l p e.s k.toNat q) ⟨r.sent, r.sn, scanL r.ls p k ++ [⟨p, k, q⟩], r.hs⟩ := by
  have hq' := of_decide_eq_true hq
  obtain ⟨he, hp⟩ := getE_some hg
  have hmem : p ∈ r.sn := by rw [h.sn]; exact List.mem_map.2 ⟨e, he, hp⟩
  refine ⟨h.nx, h.pos, by show r.sn = (setE _ _ _).map _; rw [setE_ps]; exact h.sn, fun y hy k' hk' => ?_, fun x hx => ?_, fun x hx => ?_, fun y hy => ?_, h.hsp⟩
  · obtain ⟨x, hx, _, hxp, h1⟩ := setE_mem hy
    show (scanL r.ls p k ++ [(⟨p, k, q⟩ : LaR)]).filter (hitL y.p k') = lastL y k'
    rw [List.filter_append, hit_new]
    rcases h1 with ⟨h1, h2⟩ | ⟨h1, h2⟩
    · have hxe := nd_eq hnd x hx e he (h1.trans hp.symm)
      have hyp : y.p = p := hxp.symm.trans h1
      rw [hyp]
      by_cases e2 : k' = k
      · subst e2
        rw [filter_scan_self, if_pos (And.intro rfl rfl)]
        unfold lastL
        rw [h2, hyp]
        simp only [upd, if_pos]
        rw [if_neg (by omega)]
        simp
      · rw [filter_scan _ _ _ _ _ (fun e3 => e2 e3.2), if_neg (fun e3 => e2 e3.2), List.append_nil]
        have h3 := h.ls e he k' hk'
        rw [hp] at h3
        rw [h3]
        unfold lastL
        have hne : ¬ k'.toNat = k.toNat := fun e3 => by
          obtain ⟨a, ha, _⟩ := kindB_nat hk
          obtain ⟨b, hb, _⟩ := kindB_nat hk'
          omega
        rw [h2, hyp, hp]
        simp only [upd, if_neg hne]
    · have hyx : y = x := h2
      have hyp : y.p ≠ p := by rw [hyx]; exact h1
      rw [filter_scan _ _ _ _ _ (fun e3 => hyp e3.1), if_neg (fun e3 => hyp e3.1), List.append_nil, hyx]
      exact h.ls x hx k' hk'
  · rcases List.mem_append.1 hx with h1 | h1
    · exact h.lsp x ((List.mem_filter.1 h1).1)
    · rw [List.mem_singleton.1 h1]
      exact hmem
  · rcases List.mem_append.1 hx with h1 | h1
    · exact h.q x ((List.mem_filter.1 h1).1)
    · rw [List.mem_singleton.1 h1]
      exact hq'
  · obtain ⟨x, hx, _, hxp, h1⟩ := setE_mem hy
    show r.hs.filter (ofP y.p) = halfL y.p y.s.h
    rw [← hxp, h.hs x hx]
    rcases h1 with ⟨h1, h2⟩ | ⟨h1, h2⟩
    · have hxe := nd_eq hnd x hx e he (h1.trans hp.symm)
      rw [h2, hxe]
    · rw [h2]
/-- A sender is new. -/
theorem Sim.add (h : Sim pb r) (hg : getE pb.l p = none) (g : Nat) : Sim ⟨pb.nx, pb.l ++ [⟨p, zeroS, g⟩]⟩ ⟨r.sent, r.sn ++ [p], r.ls, r.hs⟩ := by
  refine ⟨h.nx, h.pos, by rw [List.map_append, ← h.sn]; rfl, fun e he k hk => ?_, fun x hx => List.mem_append_left _ (h.lsp x hx), h.q, fun e he => ?_, fun x hx => List.mem_append_left _ (h.hsp x hx)⟩
  · rcases List.mem_append.1 he with h1 | h1
    · exact h.ls e h1 k hk
    · rw [List.mem_singleton.1 h1]
      exact h.ls_none hg k
  · rcases List.mem_append.1 he with h1 | h1
    · exact h.hs e h1
    · rw [List.mem_singleton.1 h1]
      exact h.hs_none hg
theorem filter_with (l : List HaR) (p p' : Prt) (h : p' ≠ p) : (withL l p).filter (ofP p') = l.filter (ofP p') := by
  unfold withL
  rw [List.filter_filter]
  apply List.filter_congr
  intro x _
  unfold ofP
  by_cases hx : x.p = p'
  · simp [hx, h]
  · simp [hx]
theorem filter_with_self (l : List HaR) (p : Prt) : (withL l p).filter (ofP p) = [] := by
  unfold withL
  rw [List.filter_filter, List.filter_eq_nil_iff]
  intro x _ h
  unfold ofP at h
  by_cases hx : x.p = p <;> simp [hx] at h
theorem filter_half (p p' : Prt) (f : Hf) : (halfL p f).filter (ofP p') = if p' = p then halfL p f else [] := by
  unfold halfL ofP
  cases hf : f.is with
  | false =>
    rw [if_neg Bool.false_ne_true]
    split <;> rfl
  | true =>
    rw [if_pos rfl]
    by_cases h : p' = p
    · simp [h]
    · simp [h, Ne.symm h]
/-- A sender's half is set. -/
theorem Sim.half (h : Sim pb r) (hnd : (pb.l.map (·.p)).Nodup) {e : SE} (hg : getE pb.l p = some e) (f : Hf) : Sim ⟨pb.nx, setE pb.l p ⟨e.s.last, f⟩⟩ ⟨r.sent, r.sn, r.ls, withL r.hs p ++ halfL p f⟩ := by
  obtain ⟨he, hp⟩ := getE_some hg
  have hmem : p ∈ r.sn := by rw [h.sn]; exact List.mem_map.2 ⟨e, he, hp⟩
  refine ⟨h.nx, h.pos, by show r.sn = (setE _ _ _).map _; rw [setE_ps]; exact h.sn, fun y hy k hk => ?_, h.lsp, h.q, fun y hy => ?_, fun x hx => ?_⟩
  · obtain ⟨x, hx, _, hxp, h1⟩ := setE_mem hy
    show r.ls.filter (hitL y.p k) = lastL y k
    rw [← hxp, h.ls x hx k hk]
    unfold lastL
    rcases h1 with ⟨h1, h2⟩ | ⟨h1, h2⟩
    · have hxe := nd_eq hnd x hx e he (h1.trans hp.symm)
      rw [h2, ← hxp, hxe]
    · rw [h2]
  · obtain ⟨x, hx, _, hxp, h1⟩ := setE_mem hy
    show (withL r.hs p ++ halfL p f).filter (ofP y.p) = halfL y.p y.s.h
    rw [List.filter_append, filter_half]
    rcases h1 with ⟨h1, h2⟩ | ⟨h1, h2⟩
    · have hyp : y.p = p := hxp.symm.trans h1
      rw [hyp, filter_with_self, if_pos rfl, h2]
      rfl
    · have hyp : y.p ≠ p := by rw [h2]; exact h1
      rw [filter_with _ _ _ hyp, if_neg hyp, List.append_nil, h2]
      exact h.hs x hx
  · rcases List.mem_append.1 hx with h1 | h1
    · exact h.hsp x ((List.mem_filter.1 h1).1)
    · unfold halfL at h1
      split at h1
      · rw [List.mem_singleton.1 h1]
        exact hmem
      · simp at h1
theorem Sim.drop (h : Sim pb r) : Sim ⟨pb.nx, dropE pb.l p⟩ ⟨r.sent, r.sn.filter (notP p), r.ls.filter (notL p), withL r.hs p⟩ := by
  have hm : ∀ x : Prt, x ∈ r.sn → x ≠ p → x ∈ r.sn.filter (notP p) := fun x hx hne => List.mem_filter.2 ⟨hx, by unfold notP; simp [hne]⟩
  refine ⟨h.nx, h.pos, ?_, fun e he k hk => ?_, fun x hx => ?_, fun x hx => h.q x ((List.mem_filter.1 hx).1), fun e he => ?_, fun x hx => ?_⟩
  · show r.sn.filter (notP p) = (dropE pb.l p).map (·.p)
    rw [h.sn]
    unfold dropE
    rw [List.filter_map]
    rfl
  · obtain ⟨h1, h2⟩ := dropE_mem he
    show (r.ls.filter (notL p)).filter (hitL e.p k) = lastL e k
    rw [← h.ls e h1 k hk, List.filter_filter]
    apply List.filter_congr
    intro x _
    unfold notL hitL
    by_cases hx : x.p = e.p
    · simp [hx, h2]
    · simp [hx]
  · obtain ⟨h1, h2⟩ := List.mem_filter.1 hx
    exact hm _ (h.lsp x h1) (by unfold notL at h2; simpa using h2)
  · obtain ⟨h1, h2⟩ := dropE_mem he
    show (withL r.hs p).filter (ofP e.p) = halfL e.p e.s.h
    rw [filter_with _ _ _ h2]
    exact h.hs e h1
  · obtain ⟨h1, h2⟩ := List.mem_filter.1 hx
    exact hm _ (h.hsp x h1) (by simpa using h2)
end
end Go.Proofs.Ytoblgdjjpbnemaa
