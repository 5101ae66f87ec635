/-
  What calls on a book come to: plain laws. No program, no condition.
-/
import Derived.Test.YtoblgdjjpbnemaaSqG
namespace Go.Proofs.Ytoblgdjjpbnemaa
open Go.RowKit

theorem getE_set_self {l : List SE} {p : Prt} {s : Sd} {e : SE} (h : getE l p = some e) : getE (setE l p s) p = some ⟨p, s, e.g⟩ := by
  induction l with
  | nil => simp [getE] at h
  | cons x l ih =>
    unfold getE at *
    unfold setE at *
    rw [List.find?_cons] at h
    rw [List.map_cons, List.find?_cons]
    by_cases hx : x.p = p
    · simp [hx] at h ⊢
      exact h ▸ rfl
    · have hd : decide (x.p = p) = false := decide_eq_false hx
      rw [hd] at h
      rw [if_neg hx, hd]
      exact ih h
theorem getE_set_other {l : List SE} {p q : Prt} {s : Sd} (h : q ≠ p) : getE (setE l p s) q = getE l q := by
  induction l with
  | nil => rfl
  | cons x l ih =>
    unfold getE at *
    unfold setE at *
    rw [List.map_cons, List.find?_cons, List.find?_cons, ih]
    by_cases hx : x.p = p
    · have : x.p ≠ q := fun e => h (e.symm.trans hx)
      rw [if_pos hx]
      simp [this]
    · rw [if_neg hx]
theorem getE_add {l : List SE} {p q : Prt} {s : Sd} {g : Nat} (h : getE l p = none) : getE (l ++ [⟨p, s, g⟩]) q = if q = p then some ⟨p, s, g⟩ else getE l q := by
  unfold getE at *
  rw [List.find?_append]
  by_cases hq : q = p
  · subst hq
    rw [h, if_pos rfl]
    simp
  · rw [if_neg hq]
    have : ¬ p = q := Ne.symm hq
    cases hx : List.find? (fun e => decide (e.p = q)) l with
    | none => simp [this]
    | some y => simp
theorem getE_drop_self (l : List SE) (p : Prt) : getE (dropE l p) p = none := by
  unfold getE
  rw [List.find?_eq_none]
  intro x hx
  simpa using (dropE_mem hx).2
theorem getE_drop_other {l : List SE} {p q : Prt} (h : q ≠ p) : getE (dropE l p) q = getE l q := by
  induction l with
  | nil => rfl
  | cons x l ih =>
    unfold getE at *
    unfold dropE at *
    rw [List.filter_cons]
    by_cases hx : x.p = p
    · have : x.p ≠ q := fun e => h (e.symm.trans hx)
      rw [if_neg (by simp [hx]), List.find?_cons, ih]
      simp [this]
    · rw [if_pos (by simp [hx]), List.find?_cons, List.find?_cons, ih]
/-- What goes by where a number is fresh: its sender is there, and the number is the last one. -/
theorem fresh_true {pb : PB} {p : Prt} {k q : Int} {g : Nat} (h : (freshB pb p k q g).2 = true) : kindB k = true ∧ rightB q = true ∧ ∃ e, getE (freshB pb p k q g).1.l p = some e ∧ e.s.last k.toNat = q + 1 := by
  unfold freshB at *
  by_cases hk : (kindB k && rightB q) = true
  · rw [if_pos hk] at h ⊢
    obtain ⟨h1, h2⟩ := Bool.and_eq_true_iff.1 hk
    refine ⟨h1, h2, ?_⟩
    cases hg : getE pb.l p with
    | none =>
      rw [hg] at h
      dsimp only at h ⊢
      by_cases hl : 16 ≤ pb.l.length
      · rw [if_pos hl] at h; cases h
      · rw [if_neg hl]
        refine ⟨_, getE_set_self (getE_add hg ▸ if_pos rfl), ?_⟩
        simp [upd]
    | some e =>
      rw [hg] at h
      dsimp only at h ⊢
      by_cases hl : blockB e.s k.toNat q = true
      · rw [if_pos hl] at h; cases h
      · rw [if_neg hl]
        refine ⟨_, getE_set_self hg, ?_⟩
        simp [upd]
  · rw [if_neg hk] at h
    cases h
theorem fresh_false {pb : PB} {p : Prt} {k q : Int} {g : Nat} (h : (freshB pb p k q g).2 = false) : (freshB pb p k q g).1 = pb ∧ ∀ g', freshB pb p k q g' = (pb, false) := by
  have hall : ∀ g', (freshB pb p k q g').2 = false → freshB pb p k q g' = (pb, false) := fun g' h' => by
    unfold freshB at *
    split
    · rename_i hk
      rw [if_pos hk] at h'
      cases hg : getE pb.l p with
      | none =>
        rw [hg] at h'
        dsimp only at h' ⊢
        split
        · rfl
        · rename_i hl
          rw [if_neg hl] at h'
          cases h'
      | some e =>
        rw [hg] at h'
        dsimp only at h' ⊢
        split
        · rfl
        · rename_i hl
          rw [if_neg hl] at h'
          cases h'
    · rfl
  have hsame : ∀ g', (freshB pb p k q g').2 = (freshB pb p k q g).2 := fun g' => by
    unfold freshB
    split
    · cases getE pb.l p with
      | none => dsimp only; split <;> rfl
      | some e => rfl
    · rfl
  exact ⟨by rw [hall g h], fun g' => hall g' ((hsame g').trans h)⟩
/-- A number, asked of a sender that is there. -/
theorem fresh_known {pb : PB} {p : Prt} {k q : Int} {e : SE} (hk : kindB k = true) (hq : rightB q = true) (hg : getE pb.l p = some e) (g : Nat) : freshB pb p k q g = if blockB e.s k.toNat q = true then (pb, false) else (putB pb.nx pb.l p e.s k.toNat q, true) := by
  unfold freshB
  rw [hk, hq, Bool.and_self, if_pos rfl, hg]
theorem fresh_again {pb : PB} {p : Prt} {k q : Int} {e : SE} (hk : kindB k = true) (hq : rightB q = true) (hg : getE pb.l p = some e) (hl : e.s.last k.toNat = q + 1) (g : Nat) : freshB pb p k q g = (pb, false) := by
  rw [fresh_known hk hq hg, if_pos]
  have := of_decide_eq_true hq
  unfold blockB behB
  rw [hl]
  rw [show q + 1 - 1 = q by omega, show q - q = 0 by omega]
  rw [decide_eq_true (show 0 ≤ q by omega), decide_eq_false (by omega)]
  rfl
/-- Behind a number n the number q is fresh, if it is behind it. -/
theorem fresh_behind {pb : PB} {p : Prt} {k n q : Int} {e : SE} (hk : kindB k = true) (hq : rightB q = true) (hg : getE pb.l p = some e) (hl : e.s.last k.toNat = n + 1) (hb : behB q n = true) (g : Nat) : freshB pb p k q g = (putB pb.nx pb.l p e.s k.toNat q, true) := by
  rw [fresh_known hk hq hg, if_neg]
  unfold blockB
  rw [hl, show n + 1 - 1 = n by omega, hb]
  simp
theorem fresh_back {pb : PB} {p : Prt} {k n q : Int} {e : SE} (hk : kindB k = true) (hq : rightB q = true) (hg : getE pb.l p = some e) (hl : e.s.last k.toNat = n + 1) (hn : 0 ≤ n) (hb : behB q n = false) (g : Nat) : freshB pb p k q g = (pb, false) := by
  rw [fresh_known hk hq hg, if_pos]
  unfold blockB
  rw [hl, show n + 1 - 1 = n by omega, hb, decide_eq_true hn]
  rfl
theorem put_get {nx : Nat → Int} {l : List SE} {p : Prt} {s : Sd} {k : Nat} {q : Int} {e : SE} (h : getE l p = some e) : ∃ e', getE (putB nx l p s k q).l p = some e' ∧ e'.s.last k = q + 1 :=
  ⟨_, getE_set_self h, by simp [upd]⟩
theorem keep_true {pb : PB} {p : Prt} {q : Int} {x : X3} (h : (keepB pb p q x).2 = true) : ∃ e, getE (keepB pb p q x).1.l p = some e ∧ e.s.h = ⟨true, q, x⟩ := by
  unfold keepB at *
  cases hg : getE pb.l p with
  | none => rw [hg] at h; cases h
  | some e =>
    rw [hg] at h
    dsimp only at h ⊢
    split
    · exact ⟨_, getE_set_self hg, rfl⟩
    · rename_i hq
      rw [if_neg hq] at h
      cases h
theorem take_other {pb : PB} {p : Prt} {q n : Int} {x : X3} {e : SE} (hg : getE pb.l p = some e) (hh : e.s.h = ⟨true, q, x⟩) (hn : n ≠ q) : takeQ pb p n = (pb, zeroX, false) := by
  unfold takeQ
  rw [hg]
  exact if_neg (by unfold hasB; rw [hh, decide_eq_false (Ne.symm hn)]; simp)
theorem take_it {pb : PB} {p : Prt} {q : Int} {x : X3} {e : SE} (hg : getE pb.l p = some e) (hh : e.s.h = ⟨true, q, x⟩) : takeQ pb p q = (⟨pb.nx, setE pb.l p ⟨e.s.last, zeroH⟩⟩, x, true) := by
  unfold takeQ
  rw [hg]
  dsimp only
  rw [hh, if_pos (by unfold hasB; simp)]
theorem take_none {pb : PB} {p : Prt} {n : Int} {e : SE} (hg : getE pb.l p = some e) (hh : e.s.h = zeroH) : takeQ pb p n = (pb, zeroX, false) := by
  unfold takeQ
  rw [hg]
  exact if_neg (by unfold hasB; rw [hh]; simp [zeroH])
theorem take_gone {pb : PB} {p : Prt} {n : Int} (hg : getE pb.l p = none) : takeQ pb p n = (pb, zeroX, false) := by
  unfold takeQ
  rw [hg]
theorem keep_gone {pb : PB} {p : Prt} {n : Int} {x : X3} (hg : getE pb.l p = none) : keepB pb p n x = (pb, false) := by
  unfold keepB
  rw [hg]
theorem forget_false {pb : PB} {p : Prt} (h : (forgetB pb p).2 = false) : getE pb.l p = none ∧ (forgetB pb p).1 = pb := by
  have hg : getE pb.l p = none := by
    unfold forgetB at h
    simpa using h
  exact ⟨hg, by unfold forgetB; rw [dropE_none (getE_none' hg)]⟩
/-- Who is dropped leaves room. -/
theorem drop_len {l : List SE} {p : Prt} {e : SE} (h : getE l p = some e) : (dropE l p).length < l.length := by
  have h1 := (getE_some h).1
  have h2 := (getE_some h).2
  unfold dropE
  refine List.length_filter_lt_length_iff_exists.2 ⟨e, h1, by simp [h2]⟩
theorem fresh_new {pb : PB} {p : Prt} {k q : Int} (hk : kindB k = true) (hq : rightB q = true) (hg : getE pb.l p = none) (hl : pb.l.length < 16) (g : Nat) : freshB pb p k q g = (putB pb.nx (pb.l ++ [⟨p, zeroS, g⟩]) p zeroS k.toNat q, true) := by
  unfold freshB
  rw [hk, hq, Bool.and_self, if_pos rfl, hg]
  exact if_neg (by omega)
end Go.Proofs.Ytoblgdjjpbnemaa
