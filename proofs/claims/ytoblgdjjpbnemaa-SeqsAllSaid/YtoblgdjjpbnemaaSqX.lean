/-
  The two books answer the same: plain laws. No program, no condition but that the numbers are such.
-/
import Derived.Test.YtoblgdjjpbnemaaSqW
namespace Go.Proofs.Ytoblgdjjpbnemaa
open Go.RowKit

theorem ite_both {c : Bool} {a b : PB × Bool} {a' b' : RB × Bool} (h1 : c = true → a.2 = a'.2 ∧ Sim a.1 a'.1) (h2 : c = false → b.2 = b'.2 ∧ Sim b.1 b'.1) : (if c = true then a else b).2 = (if c = true then a' else b').2 ∧ Sim (if c = true then a else b).1 (if c = true then a' else b').1 := by
  cases c with
  | true => exact h1 rfl
  | false => exact h2 rfl
section
variable {pb : PB} {r : RB}
theorem sim_next (h : Sim pb r) (k : Int) : (nextB pb k).2 = (nextR r k).2 ∧ Sim (nextB pb k).1 (nextR r k).1 := by
  unfold nextB nextR
  cases hk : kindB k with
  | false => exact And.intro rfl h
  | true =>
    rw [if_pos rfl, if_pos rfl]
    refine And.intro (h.nx _) ⟨fun j => ?_, fun j => ?_, h.sn, h.ls, h.lsp, h.q, h.hs, h.hsp⟩
    · show upd pb.nx k.toNat (headN (pb.nx k.toNat)) j = upd r.sent k.toNat (r.sent k.toNat + 1) j % 65536
      unfold upd
      split
      · rw [h.nx, headN_mod _ (h.pos _)]
      · exact h.nx j
    · show 0 ≤ upd r.sent k.toNat (r.sent k.toNat + 1) j
      unfold upd
      split
      · have := h.pos k.toNat
        omega
      · exact h.pos j
theorem lastL_any {e : SE} {k q : Int} (h : 0 ≤ e.s.last k.toNat) : ((lastL e k).any fun x => !behB q x.q) = blockB e.s k.toNat q := by
  unfold lastL blockB
  by_cases h0 : e.s.last k.toNat = 0
  · rw [if_pos h0, h0]
    rfl
  · rw [if_neg h0]
    have : decide (0 ≤ e.s.last k.toNat - 1) = true := decide_eq_true (by omega)
    rw [this]
    simp
theorem sim_fresh (h : Sim pb r) (ok : pb.Ok) (hnd : (pb.l.map (·.p)).Nodup) (p : Prt) (k q : Int) (g : Nat) : (freshB pb p k q g).2 = (freshR r p k q).2 ∧ Sim (freshB pb p k q g).1 (freshR r p k q).1 := by
  have hlen : r.sn.length = pb.l.length := by rw [h.sn, List.length_map]
  unfold freshB freshR
  cases hkr : (kindB k && rightB q) with
  | false => exact And.intro rfl h
  | true =>
    rw [if_pos rfl, if_neg (show ¬ (true = false) by decide)]
    obtain ⟨hk, hq⟩ := Bool.and_eq_true_iff.1 hkr
    cases hg : getE pb.l p with
    | some e =>
      dsimp only
      have hkn : knownR r p = true := by rw [h.known, hg]; rfl
      obtain ⟨he, hp⟩ := getE_some hg
      have hbad : badL r.ls p k q = blockB e.s k.toNat q := by
        rw [bad_filter, ← hp, h.ls e he k hk]
        exact lastL_any (ok.last e he _).1
      rw [hbad, hkn]
      cases hb : blockB e.s k.toNat q with
      | true => exact And.intro rfl h
      | false =>
        rw [if_neg Bool.false_ne_true, if_neg Bool.false_ne_true, if_neg (show ¬ (true = false ∧ 16 ≤ r.sn.length) from fun e => absurd e.1 (by decide)), if_pos rfl]
        exact And.intro rfl (h.put hnd hg hk hq)
    | none =>
      dsimp only
      have hkn : knownR r p = false := by rw [h.known, hg]; rfl
      have hbad : badL r.ls p k q = false := by
        rw [bad_filter, h.ls_none hg k]
        rfl
      rw [hbad, hkn, if_neg Bool.false_ne_true, hlen]
      by_cases h16 : 16 ≤ pb.l.length
      · rw [if_pos h16, if_pos ⟨rfl, h16⟩]
        exact And.intro rfl h
      · rw [if_neg h16, if_neg (fun e => h16 e.2), if_neg Bool.false_ne_true]
        refine And.intro rfl ?_
        have h1 := h.add hg g
        have hnd1 : ((pb.l ++ [(⟨p, zeroS, g⟩ : SE)]).map (·.p)).Nodup := by
          rw [List.map_append]
          refine List.nodup_append.2 ⟨hnd, by simp, fun a ha b hb => ?_⟩
          simp at hb
          subst hb
          obtain ⟨x, hx, e⟩ := List.mem_map.1 ha
          exact fun e2 => getE_none' hg x hx (e.trans e2)
        have hg1 : getE (pb.l ++ [(⟨p, zeroS, g⟩ : SE)]) p = some ⟨p, zeroS, g⟩ := by
          unfold getE at *
          rw [List.find?_append, hg]
          simp
        exact h1.put (pb := ⟨pb.nx, pb.l ++ [⟨p, zeroS, g⟩]⟩) hnd1 hg1 hk hq
theorem sim_keep (h : Sim pb r) (hnd : (pb.l.map (·.p)).Nodup) (p : Prt) (q : Int) (x : X3) : (keepB pb p q x).2 = (keepR r p q x).2 ∧ Sim (keepB pb p q x).1 (keepR r p q x).1 := by
  unfold keepB keepR
  rw [h.known]
  cases hg : getE pb.l p with
  | none => exact And.intro rfl h
  | some e =>
    dsimp only
    cases hq : rightB q with
    | false => exact And.intro rfl h
    | true =>
      refine And.intro rfl ?_
      exact h.half hnd hg ⟨true, q, x⟩
theorem find_hit (l : List HaR) (p : Prt) (q : Int) : l.find? (hitH p q) = (l.filter (ofP p)).find? fun x => decide (x.q = q) := by
  rw [List.find?_filter]
  congr 1
  funext x
  unfold hitH ofP
  rw [Bool.eq_iff_iff]
  simp
theorem sim_take (h : Sim pb r) (hnd : (pb.l.map (·.p)).Nodup) (p : Prt) (q : Int) : (takeQ pb p q).2 = (takeR r p q).2 ∧ Sim (takeQ pb p q).1 (takeR r p q).1 := by
  unfold takeQ takeR
  rw [find_hit]
  cases hg : getE pb.l p with
  | none =>
    rw [h.hs_none hg]
    exact And.intro rfl h
  | some e =>
    obtain ⟨he, hp⟩ := getE_some hg
    have h1 := h.hs e he
    rw [hp] at h1
    rw [h1]
    dsimp only
    unfold hasB halfL
    cases hi : e.s.h.is with
    | false => exact And.intro rfl h
    | true =>
      rw [if_pos rfl]
      by_cases hq : e.s.h.sq = q
      · have hd : decide (e.s.h.sq = q) = true := decide_eq_true hq
        rw [hd, List.find?_cons_of_pos (by simpa using hq)]
        refine And.intro rfl ?_
        have h2 := h.half hnd hg zeroH
        have h3 : withL r.hs p ++ halfL p zeroH = withL r.hs p := by
          unfold halfL zeroH
          simp
        rw [h3] at h2
        exact h2
      · have hd : decide (e.s.h.sq = q) = false := decide_eq_false hq
        rw [hd, List.find?_cons_of_neg (by simpa using hq)]
        exact And.intro rfl h
theorem sim_forget (h : Sim pb r) (p : Prt) : (forgetB pb p).2 = (forgetR r p).2 ∧ Sim (forgetB pb p).1 (forgetR r p).1 := by
  unfold forgetR
  rw [h.known]
  cases hg : getE pb.l p with
  | none =>
    have h1 : (forgetB pb p).2 = false := by unfold forgetB; rw [hg]; rfl
    have h2 := (forget_false h1).2
    rw [h1, h2]
    exact And.intro rfl h
  | some e =>
    have h1 : (forgetB pb p).2 = true := by unfold forgetB; rw [hg]; rfl
    rw [h1]
    exact And.intro rfl h.drop
theorem sim_do (h : Sim pb r) (ok : pb.Ok) (hnd : (pb.l.map (·.p)).Nodup) (o : OpQ) (g : Nat) : (doB pb o g).2 = (doRR r o).2 ∧ Sim (doB pb o g).1 (doRR r o).1 := by
  unfold doB doRR
  by_cases k0 : o.kd = 0
  · rw [if_pos k0, if_pos k0]
    have := sim_next h o.ty
    exact And.intro (by rw [this.1]) this.2
  rw [if_neg k0, if_neg k0]
  by_cases k1 : o.kd = 1
  · rw [if_pos k1, if_pos k1]
    have := sim_fresh h ok hnd o.p o.ty o.q g
    exact And.intro (by rw [this.1]) this.2
  rw [if_neg k1, if_neg k1]
  by_cases k2 : o.kd = 2
  · rw [if_pos k2, if_pos k2]
    have := sim_keep h hnd o.p o.q o.x
    exact And.intro (by rw [this.1]) this.2
  rw [if_neg k2, if_neg k2]
  by_cases k3 : o.kd = 3
  · rw [if_pos k3, if_pos k3]
    have := sim_take h hnd o.p o.q
    exact And.intro (by rw [this.1]) this.2
  rw [if_neg k3, if_neg k3]
  by_cases k4 : o.kd = 4
  · rw [if_pos k4, if_pos k4]
    have := sim_forget h o.p
    exact And.intro (by rw [this.1]) this.2
  rw [if_neg k4, if_neg k4]
  exact And.intro rfl h
/-- How much the reference's book may hold behind j calls. -/
structure Szs (r : RB) (j : Nat) : Prop where
  sent : ∀ k, r.sent k ≤ j
  ls : r.ls.length ≤ j
  hs : r.hs.length ≤ j
theorem Szs.zero : Szs zeroRB 0 := ⟨fun _ => Int.le_refl 0, Nat.le_refl 0, Nat.le_refl 0⟩
theorem Szs.ok {j : Nat} (h : Szs r j) (hs : Sim pb r) (ok : pb.Ok) (hj : j ≤ 400) : r.Ok :=
  ⟨fun k => ⟨hs.pos k, by have := h.sent k; omega⟩, by have := ok.len; rw [hs.sn, List.length_map]; omega, by have := h.ls; omega, by have := h.hs; omega, hs.q⟩
theorem Szs.mono {j : Nat} (h : Szs r j) : Szs r (j + 1) := ⟨fun k => by have := h.sent k; omega, by have := h.ls; omega, by have := h.hs; omega⟩
theorem Szs.step {j : Nat} (h : Szs r j) (o : OpQ) : Szs (doRR r o).1 (j + 1) := by
  have hm := h.mono
  unfold doRR
  split
  · show Szs (nextR r o.ty).1 (j + 1)
    unfold nextR
    split
    · refine ⟨fun k => ?_, hm.ls, hm.hs⟩
      show upd r.sent o.ty.toNat (r.sent o.ty.toNat + 1) k ≤ _
      unfold upd
      split
      · have := h.sent o.ty.toNat
        omega
      · exact hm.sent k
    · exact hm
  split
  · show Szs (freshR r o.p o.ty o.q).1 (j + 1)
    unfold freshR
    split
    · exact hm
    split
    · exact hm
    split
    · exact hm
    · refine ⟨hm.sent, ?_, hm.hs⟩
      show (scanL r.ls o.p o.ty ++ [_]).length ≤ j + 1
      rw [List.length_append]
      have : (scanL r.ls o.p o.ty).length ≤ r.ls.length := List.length_filter_le _ _
      have := h.ls
      simp
      omega
  split
  · show Szs (keepR r o.p o.q o.x).1 (j + 1)
    unfold keepR
    split
    · refine ⟨hm.sent, hm.ls, ?_⟩
      show (withL r.hs o.p ++ [_]).length ≤ j + 1
      rw [List.length_append]
      have : (withL r.hs o.p).length ≤ r.hs.length := List.length_filter_le _ _
      have := h.hs
      simp
      omega
    · exact hm
  split
  · show Szs (takeR r o.p o.q).1 (j + 1)
    unfold takeR
    split
    · refine ⟨hm.sent, hm.ls, ?_⟩
      have : (withL r.hs o.p).length ≤ r.hs.length := List.length_filter_le _ _
      have := h.hs
      show (withL r.hs o.p).length ≤ j + 1
      omega
    · exact hm
  split
  · show Szs (forgetR r o.p).1 (j + 1)
    unfold forgetR
    split
    · refine ⟨hm.sent, ?_, ?_⟩
      · have : (r.ls.filter (notL o.p)).length ≤ r.ls.length := List.length_filter_le _ _
        have := h.ls
        show (r.ls.filter (notL o.p)).length ≤ j + 1
        omega
      · have : (withL r.hs o.p).length ≤ r.hs.length := List.length_filter_le _ _
        have := h.hs
        show (withL r.hs o.p).length ≤ j + 1
        omega
    · exact hm
  · exact hm
end
end Go.Proofs.Ytoblgdjjpbnemaa
