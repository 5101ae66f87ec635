/-
  A text's bytes and a clock's digits: which texts are a clock's. Plain laws. No condition.
-/
import Derived.Test.YtdamljmbnkdjfaaIdE
namespace Go.Proofs.Ytdamljmbnkdjfaa
open Go.RowKit

theorem valD_hexd (d : Int) (h0 : 0 ≤ d) (h1 : d < 16) : valD (hexd d) = d := by
  unfold valD hexd
  by_cases h : d < 10
  · rw [if_pos h, if_pos (by omega)]; omega
  · rw [if_neg h, if_neg (by omega), if_pos (by omega)]; omega
theorem hexd_valD (a : Int) (h : 0 ≤ valD a) : hexd (valD a) = a := by
  unfold valD at h ⊢
  by_cases h1 : 48 ≤ a ∧ a ≤ 57
  · rw [if_pos h1, hexd, if_pos (by omega)]; omega
  · rw [if_neg h1] at h ⊢
    by_cases h2 : 97 ≤ a ∧ a ≤ 102
    · rw [if_pos h2, hexd, if_neg (by omega)]; omega
    · rw [if_neg h2] at h; omega
theorem hexd_eq (d a : Int) (h0 : 0 ≤ d) (h1 : d < 16) : hexd d = a ↔ valD a = d := by
  constructor
  · intro h; rw [← h, valD_hexd d h0 h1]
  · intro h; rw [← h, hexd_valD a (by omega)]
theorem hexd_rng (d : Int) (h0 : 0 ≤ d) (h1 : d < 16) : 0 ≤ hexd d ∧ hexd d < 256 := by unfold hexd; split <;> omega
/-- Which number's two digits these are. -/
theorem pair_eq (a b : Int) (j : Nat) (hj : j < 256) : (hexd ((j : Int) / 16) = a ∧ hexd ((j : Int) % 16) = b) ↔ (okP a b = true ∧ valP a b = j) := by
  rw [hexd_eq _ _ (by omega) (by omega), hexd_eq _ _ (by omega) (by omega), okP_iff, valP]
  have h1 := valD_rng a
  have h2 := valD_rng b
  omega
def midP (a b : Int) (j : Nat) : Int := if okP a b = true ∧ valP a b < j then valP a b else 0
theorem midP_zero (a b : Int) : midP a b 0 = 0 := by
  unfold midP
  split
  · rename_i h
    have h1 := (okP_iff a b).1 h.1
    have := h.2
    unfold valP at *
    omega
  · rfl
theorem midP_end (a b : Int) : midP a b 256 = byteP a b := by
  unfold midP byteP
  by_cases h : okP a b = true
  · have h1 := (okP_iff a b).1 h
    have h2 := valD_rng a
    have h3 := valD_rng b
    rw [if_pos ⟨h, by unfold valP; omega⟩, if_pos h]
  · rw [if_neg (fun e => h e.1), if_neg h]
theorem midP_hit (a b : Int) (j : Nat) (h : okP a b = true ∧ valP a b = j) : midP a b (j + 1) = j := by
  unfold midP
  rw [if_pos ⟨h.1, by omega⟩, h.2]
theorem midP_miss (a b : Int) (j : Nat) (h : ¬ (okP a b = true ∧ valP a b = j)) : midP a b (j + 1) = midP a b j := by
  unfold midP
  by_cases h1 : okP a b = true ∧ valP a b < j
  · rw [if_pos h1, if_pos ⟨h1.1, by omega⟩]
  · have h2 : ¬ (okP a b = true ∧ valP a b < ((j + 1 : Nat) : Int)) := fun e => h1 ⟨e.1, by
      have h3 : ¬ valP a b = j := fun h2 => h ⟨e.1, h2⟩
      have h4 := e.2
      omega⟩
    rw [if_neg h1, if_neg h2]
/-- What the reference's array holds, behind k whole rounds and j of the next one. -/
def midA (l : List Int) (k j : Nat) : Array Value := (part8 l k).setIfInBounds k (.int .u8 (midP (l.getD (2 * k) 0) (l.getD (2 * k + 1) 0) j))
theorem midA_zero (l : List Int) (k : Nat) (hk : k < 8) : midA l k 0 = part8 l k := by
  unfold midA part8
  rw [midP_zero]
  obtain ⟨m, hm⟩ : ∃ m, 8 - k = m + 1 := ⟨7 - k, by omega⟩
  rw [hm, List.replicate_succ]
  have h1 := byteL_length l k
  generalize byteL l k = xs at *
  subst h1
  unfold cl
  simp
theorem midA_end (l : List Int) (k : Nat) (hk : k < 8) : midA l k 256 = part8 l (k + 1) := by
  unfold midA
  rw [midP_end]
  exact part8_set l k hk
theorem midA_size (l : List Int) (k j : Nat) (hk : k ≤ 8) : (midA l k j).size = 8 := by
  unfold midA
  rw [Array.size_setIfInBounds, part8_size l k hk]
theorem midA_hit (l : List Int) (k j : Nat) (h : okP (l.getD (2 * k) 0) (l.getD (2 * k + 1) 0) = true ∧ valP (l.getD (2 * k) 0) (l.getD (2 * k + 1) 0) = j) :
    (midA l k j).setIfInBounds k (.int .u8 j) = midA l k (j + 1) := by
  unfold midA
  rw [midP_hit _ _ _ h]
  simp
theorem midA_miss (l : List Int) (k j : Nat) (h : ¬ (okP (l.getD (2 * k) 0) (l.getD (2 * k + 1) 0) = true ∧ valP (l.getD (2 * k) 0) (l.getD (2 * k + 1) 0) = j)) : midA l k (j + 1) = midA l k j := by
  unfold midA
  rw [midP_miss _ _ _ h]

/-! ### Bytes as numbers -/
theorem strOfNums_sl (s : ByteArray) : strOfNums (sl s) = s := by
  obtain ⟨⟨l⟩⟩ := s
  unfold strOfNums sl
  have : (l.map fun b : UInt8 => (b.toNat : Int)).map (fun n => UInt8.ofNat n.toNat) = l := by
    rw [List.map_map]
    conv => rhs; rw [← List.map_id l]
    exact List.map_congr_left fun b _ => by simp
  rw [this]
theorem getD_at {l : List Int} {k : Nat} (h : k < l.length) : l.getD k 0 = l[k] := by simp [h]
theorem sl_strOfNums (l : List Int) (h : ∀ x ∈ l, 0 ≤ x ∧ x < 256) : sl (strOfNums l) = l := by
  unfold strOfNums sl
  simp only [List.map_map]
  have : ∀ x ∈ l, ((fun b : UInt8 => (b.toNat : Int)) ∘ fun n : Int => UInt8.ofNat n.toNat) x = x := by
    intro x hx
    have := h x hx
    simp
    omega
  rw [List.map_congr_left this, List.map_id']
theorem sl_inj {s t : ByteArray} (h : sl s = sl t) : s = t := by rw [← strOfNums_sl s, ← strOfNums_sl t, h]
theorem sl_extract (s : ByteArray) (a b : Nat) : sl (s.extract a b) = ((sl s).drop a).take (b - a) := by
  obtain ⟨⟨l⟩⟩ := s
  unfold sl
  simp [List.map_take, List.map_drop, List.take_drop]
theorem extract2 (s : ByteArray) (k : Nat) (h : k + 2 ≤ s.size) : s.extract k (k + 2) = strOfNums [(sl s).getD k 0, (sl s).getD (k + 1) 0] := by
  apply sl_inj
  rw [sl_strOfNums _ (by intro x hx; simp only [List.mem_cons, List.not_mem_nil, or_false] at hx; rcases hx with rfl | rfl <;> exact sl_rng s _), sl_extract]
  have hl : (sl s).length = s.size := sl_length s
  generalize sl s = l at *
  have h1 : k < l.length := by omega
  have h2 : k + 1 < l.length := by omega
  rw [List.drop_eq_getElem_cons h1, List.drop_eq_getElem_cons h2, getD_at h1, getD_at h2, show k + 2 - k = 2 by omega]
  rfl
theorem strOfNums_inj {l m : List Int} (hl : ∀ x ∈ l, 0 ≤ x ∧ x < 256) (hm : ∀ x ∈ m, 0 ≤ x ∧ x < 256) (h : strOfNums l = strOfNums m) : l = m := by
  rw [← sl_strOfNums l hl, ← sl_strOfNums m hm, h]
theorem hexL_rng (l : List Int) (h : ∀ x ∈ l, 0 ≤ x ∧ x < 256) : ∀ y ∈ hexL l, 0 ≤ y ∧ y < 256 := by
  intro y hy
  unfold hexL at hy
  obtain ⟨x, hx, hy⟩ := List.mem_flatMap.1 hy
  have := h x hx
  simp only [List.mem_cons, List.not_mem_nil, or_false] at hy
  rcases hy with rfl | rfl <;> exact hexd_rng _ (by omega) (by omega)
theorem hexL_byteL (l : List Int) : ∀ (k : Nat), 2 * k ≤ l.length → (hexL (byteL l k) = l.take (2 * k) ↔ okL l k = true) := by
  intro k
  induction k with
  | zero => simp [hexL, byteL, okL]
  | succ k ih =>
    intro h
    have h1 : 2 * k < l.length := by omega
    have h2 : 2 * k + 1 < l.length := by omega
    have e1 : hexL (byteL l (k + 1)) = hexL (byteL l k) ++ [hexd (byteP (l.getD (2 * k) 0) (l.getD (2 * k + 1) 0) / 16), hexd (byteP (l.getD (2 * k) 0) (l.getD (2 * k + 1) 0) % 16)] := by
      rw [byteL_succ]
      unfold hexL
      rw [List.flatMap_append]
      rfl
    have e2 : l.take (2 * (k + 1)) = l.take (2 * k) ++ [l.getD (2 * k) 0, l.getD (2 * k + 1) 0] := by
      rw [show 2 * (k + 1) = 2 * k + 1 + 1 by omega, List.take_succ_eq_append_getElem h2, List.take_succ_eq_append_getElem h1, getD_at h1, getD_at h2, List.append_assoc]
      rfl
    rw [e1, e2, okL_succ]
    have hlen : (hexL (byteL l k)).length = (l.take (2 * k)).length := by rw [hexL_length, byteL_length, List.length_take]; omega
    have hap : ∀ (x y x' y' : List Int), x.length = x'.length → (x ++ y = x' ++ y' ↔ x = x' ∧ y = y') := fun x y x' y' hl => ⟨fun e => List.append_inj e hl, fun e => by rw [e.1, e.2]⟩
    rw [hap _ _ _ _ hlen, ih (by omega), Bool.and_eq_true]
    have hb := byteP_rng (l.getD (2 * k) 0) (l.getD (2 * k + 1) 0)
    have hp : ([hexd (byteP (l.getD (2 * k) 0) (l.getD (2 * k + 1) 0) / 16), hexd (byteP (l.getD (2 * k) 0) (l.getD (2 * k + 1) 0) % 16)] = [l.getD (2 * k) 0, l.getD (2 * k + 1) 0]) ↔ okP (l.getD (2 * k) 0) (l.getD (2 * k + 1) 0) = true := by
      generalize l.getD (2 * k) 0 = a at *
      generalize l.getD (2 * k + 1) 0 = b at *
      have hx : byteP a b = ((byteP a b).toNat : Int) := by omega
      have := pair_eq a b (byteP a b).toNat (by omega)
      rw [← hx] at this
      simp only [List.cons.injEq, and_true]
      rw [this]
      constructor
      · exact fun e => e.1
      · exact fun e => ⟨e, by unfold byteP; rw [if_pos e]⟩
    rw [hp]
theorem text_readC (s : ByteArray) (h : s.size = 16) : (strOfNums (hexL (readC (sl s)).l) = s) ↔ readOk s = true := by
  have h1 := hexL_byteL (sl s) 8 (by rw [sl_length]; omega)
  rw [List.take_of_length_le (by rw [sl_length]; omega)] at h1
  have h2 : readOk s = okL (sl s) 8 := by unfold readOk; simp [h]
  rw [h2, ← h1]
  constructor
  · intro e
    have : sl (strOfNums (hexL (readC (sl s)).l)) = sl s := by rw [e]
    rwa [sl_strOfNums _ (hexL_rng _ (readC (sl s)).r)] at this
  · intro e
    show strOfNums (hexL (byteL (sl s) 8)) = s
    rw [e, strOfNums_sl]
end Go.Proofs.Ytdamljmbnkdjfaa
