/-
  How slices of items read: their bytes, and how many there are at most. No condition.
-/
import Derived.Test.YtbdpnmocbpplbaaQuA
import Derived.Test.YtbdpnmocbpplbaaRd
import Derived.ChangeSlices
namespace Go.Proofs.Ytbdpnmocbpplbaa
open Go.RowKit Go.ChangeShapes Go.WideShapes Go.ChangeAt

theorem weightsAll_mem {H : Type} {P : Program} {e : TypeId} : ∀ {l : List (DataW H)} {d : DataW H}, d ∈ l → ∀ n ∈ d.weights P e, n ∈ DataW.weightsAll P e l
  | x :: l, d, h, n, hn => by
    simp only [DataW.weightsAll, List.mem_append]
    rcases List.mem_cons.1 h with rfl | h
    · exact .inl hn
    · exact .inr (weightsAll_mem h n hn)
section
variable {H : Type} {enc : TypeId × Value → H} {P : Program} {w : World} {base : Nat} {spare : Nat → Bool} {held : Bool}
theorem rd_rowsW {α : Type} (f : α → Array Value) (z : α) (Pd : α → Prop) (B : Nat) (n : Nat) (hn : 0 < n) (hfs : ∀ s, (f s).size = n) {t e : TypeId} (ht : P.underlying t = some (.slice e)) (hce : P.cellsOf e = n)
    (hread : ∀ {fuel : Nat} {cs : List Value} {x : DataW H × List MemPlace}, (∀ m ∈ x.1.weights P e, m ≤ B) → DataW.trod enc P w base spare held fuel e cs = some x → ∃ s : α, cs = (f s).toList ∧ Pd s)
    {fuel : Nat} {x : Option Addr} {len cap : Nat} {d : DataW H × List MemPlace} (hw : ∀ m ∈ d.1.weights P t, m ≤ B) (hf : DataW.trod enc P w base spare held fuel t [.slice x len cap] = some d) :
    len ≤ cap ∧ cap ≤ maxLen ∧ (len * P.bytesOf e ≤ B) ∧ ∃ xs : List α, xs.length = len ∧ RowsIn f z n w x xs ∧ ∀ k, k < xs.length → Pd (xs.getD k z) := by
  rcases DataW.trod_slice ht hf with ⟨h1, _⟩ | ⟨a, len', cap', elems, rest, q, _, h1, hd, hb, hlc, hmx, hel, hE, _⟩
  · simp at h1
    obtain ⟨_, rfl, rfl⟩ := h1
    exact ⟨Nat.le_refl _, Nat.zero_le _, by simp, [], rfl, .inl rfl, fun k hk => absurd hk (by simp)⟩
  · simp at h1
    obtain ⟨rfl, rfl, rfl⟩ := h1
    have hww : (len * P.bytesOf e ≤ B) ∧ ∀ y ∈ elems, ∀ m ∈ y.1.weights P e, m ≤ B := by
      rw [hd] at hw
      simp only [DataW.weights, ht, List.length_map] at hw
      refine ⟨Nat.le_trans (Nat.mul_le_mul_right _ (by omega)) (hw _ (List.mem_cons_self ..)), fun y hy m hm => hw m (List.mem_cons_of_mem _ (List.mem_append_left _ (weightsAll_mem (List.mem_map_of_mem hy) m hm)))⟩
    refine ⟨hlc, hmx, hww.1, ?_⟩
    rw [hce] at hE
    have H1 : ∀ i, i < len → ∃ s : α, Pd s ∧ ∀ j, j < n → w.cell? ((a.add (i * n)).add j) = (f s)[j]? := by
      intro i hi
      have h1 := hE i hi
      rw [List.getElem?_eq_getElem (by omega : i < elems.length)] at h1
      obtain ⟨cs, hc, ht⟩ := Option.bind_eq_some_iff.1 h1
      obtain ⟨s, e, hn⟩ := hread (hww.2 _ (List.getElem_mem _)) ht
      obtain ⟨_, hl, hall⟩ := World.cells?_some hc
      refine ⟨s, hn, fun j hj => ?_⟩
      have := hall j (by omega)
      rw [this, e]
      simp
    by_cases h0 : len = 0
    · subst h0
      exact ⟨[], rfl, .inl rfl, fun k hk => absurd hk (by simp)⟩
    have hsp : a.spot = none := by
      obtain ⟨s, _, hj⟩ := H1 0 (by omega)
      have h0 := hj 0 (by omega)
      rw [Nat.zero_mul] at h0
      have e0 : (a.add 0).add 0 = a := by simp [Addr.add]
      rw [e0, Array.getElem?_eq_getElem (by rw [hfs]; exact hn)] at h0
      unfold World.cell? at h0
      split at h0
      · split at h0
        · cases h0
        · rename_i hs
          simpa using hs
      · cases h0
    obtain ⟨b, off, sp⟩ := a
    dsimp only at hsp
    subst hsp
    have H2 : ∀ i, i < len → ∃ s : α, Pd s ∧ ∀ j, j < n → (row? w b)[off + i * n + j]? = (f s)[j]? := by
      intro i hi
      obtain ⟨s, hn, hj⟩ := H1 i hi
      refine ⟨s, hn, fun j hj' => ?_⟩
      have := hj j hj'
      rw [add_pl, add_pl, cell_row] at this
      exact this
    let g : Nat → α := fun i => if h : i < len then Classical.choose (H2 i h) else z
    have hg : ∀ i, (h : i < len) → Pd (g i) ∧ ∀ j, j < n → (row? w b)[off + i * n + j]? = (f (g i))[j]? := by
      intro i h
      have := Classical.choose_spec (H2 i h)
      show Pd (if h : i < len then Classical.choose (H2 i h) else z) ∧ ∀ j, j < n → (row? w b)[off + i * n + j]? = (f (if h : i < len then Classical.choose (H2 i h) else z))[j]?
      rw [dif_pos h]
      exact this
    have hget : ∀ k, k < len → ((List.range len).map g).getD k z = g k := fun k hk => by simp [hk]
    refine ⟨(List.range len).map g, by simp, .inr ⟨b, off, rfl, fun k hk => ?_⟩, fun k hk => ?_⟩
    · have hk' : k < len := by simpa using hk
      obtain ⟨_, hj⟩ := hg k hk'
      rw [hget k hk']
      have hl := (hj (n - 1) (by omega)).trans (Array.getElem?_eq_getElem (by rw [hfs]; omega))
      have hlt := (Array.getElem?_eq_some_iff.1 hl).1
      refine ⟨by omega, ?_⟩
      unfold sub
      apply Array.ext_getElem?
      intro j
      rw [Array.getElem?_extract]
      by_cases hj' : j < n
      · rw [if_pos (by omega), hj j hj']
      · rw [if_neg (by omega), Array.getElem?_eq_none (by rw [hfs]; omega)]
    · have hk' : k < len := by simpa using hk
      rw [hget k hk']
      exact (hg k hk').1
end
/-- An item as it lies: what it is, and where its bytes are. -/
structure ItR where
  x : Itm
  a : Option Addr
  c : Nat
def zeroR : ItR := ⟨zeroI, none, 0⟩
def fR (s : ItR) : Array Value := ic s.x.k s.a s.x.bs.length s.c
@[simp, go_sem] theorem fR_size (s : ItR) : (fR s).size = 2 := rfl
def PdR (w : World) (s : ItR) : Prop := RowsIn b1 0 1 w s.a s.x.bs ∧ s.x.bs.length ≤ 140737488351232
section
variable {H : Type} {enc : TypeId × Value → H} {w : World} {base : Nat} {spare : Nat → Bool} {held : Bool}
theorem rd_itc {fuel : Nat} {cs : List Value} {x : DataW H × List MemPlace} (hw : ∀ m ∈ x.1.weights Try.prog 30, m ≤ reachBytes) (h : DataW.trod enc Try.prog w base spare held fuel 30 cs = some x) : ∃ s : ItR, cs = (fR s).toList ∧ PdR w s := by
  obtain ⟨xs, n, _, rfl, hl, hlen, hf⟩ := DataW.trod_struct Try.underlying30 h
  rw [show Try.prog.cellsOf 30 = 2 by kernel_rfl] at hl
  match xs, hlen with
  | [y0, y1], _ =>
    obtain ⟨k, h0, _, _⟩ := DataW.trod_int Try.underlying3 (by simpa using hf 0 _ rfl)
    have h1 := hf 1 _ rfl
    have hw1 : ∀ m ∈ y1.1.weights Try.prog 28, m ≤ reachBytes := fun m hm => hw m (by
      simp only [DataW.weights, Try.underlying30]
      simp [DataW.weightsEach, hm])
    match cs, hl with
    | [c0, c1], _ =>
      have e0 : c0 = .int .i64 k := by
        rw [show Try.prog.cellsOf 3 = 1 by kernel_rfl] at h0
        simpa using h0
      subst e0
      have h1' : DataW.trod enc Try.prog w base spare held n 28 [c1] = some y1 := by simpa [show Try.prog.cellsOf 28 = 1 by kernel_rfl] using h1
      have hsl : ∃ a l c, c1 = .slice a l c := by
        rcases DataW.trod_slice Try.underlying28 h1' with ⟨h2, _⟩ | ⟨a, len, cap, _, _, _, _, h2, _⟩
        · exact ⟨none, 0, 0, by simpa using h2⟩
        · exact ⟨some a, len, cap, by simpa using h2⟩
      obtain ⟨a, l, c, rfl⟩ := hsl
      obtain ⟨_, _, hb, bs, hbl, hr, _⟩ := rd_rowsW b1 0 (fun _ => True) reachBytes 1 (by decide) (fun _ => rfl) Try.underlying28 (by kernel_rfl) (fun _ h => by
        obtain ⟨z, e, _, _⟩ := DataW.trod_int Try.underlying5 h
        exact ⟨z, by rw [e], trivial⟩) hw1 h1'
      subst hbl
      refine ⟨⟨⟨k, bs⟩, a, c⟩, rfl, hr, ?_⟩
      rw [show Try.prog.bytesOf 5 = 1 by kernel_rfl, Nat.mul_one] at hb
      exact hb
theorem rd_items {x : Option Addr} {len cap : Nat} {d : DataW H} {p : List MemPlace} (hw : ∀ m ∈ d.weights Try.prog 22, m ≤ reachBytes) (h : DataW.Trod enc Try.prog w base spare held 22 (.slice x len cap) d p) :
    len ≤ cap ∧ cap ≤ maxLen ∧ ∃ xs : List ItR, xs.length = len ∧ RowsIn fR zeroR 2 w x xs ∧ ∀ k, k < xs.length → PdR w (xs.getD k zeroR) := by
  obtain ⟨fuel, hf⟩ := h
  have hf' : DataW.trod enc Try.prog w base spare held fuel 22 [.slice x len cap] = some (d, p) := by simpa [Value.cells] using hf
  obtain ⟨h1, h2, _, h3⟩ := rd_rowsW fR zeroR (PdR w) reachBytes 2 (by decide) fR_size Try.underlying22 (by kernel_rfl) rd_itc (d := (d, p)) hw hf'
  exact ⟨h1, h2, h3⟩
end
end Go.Proofs.Ytbdpnmocbpplbaa
