/-
  Items of a queue, and a queue, in a world; what stays of them where other blocks change. No condition.
-/
import Derived.Test.YtbdpnmocbpplbaaComN
import Derived.Test.YtbdpnmocbpplbaaRdG
import Derived.Test.YtbdpnmocbpplbaaRegT
import Derived.Test.YtbdpnmocbpplbaaRegS
import Derived.Test.YtbdpnmocbpplbaaRegQ
import Derived.Maps.AppendAt
import Derived.Test.YtbdpnmocbpplbaaProg
namespace Go.Proofs.Ytbdpnmocbpplbaa
open Go.RowKit Go.Conc

structure Itm where
  k : Int
  bs : List Int
theorem alloc_new (w : World) (o : Obj) : (w.alloc o).heap[w.heap.size]? = some o := by
  show (w.heap.push o)[w.heap.size]? = some o
  simp
def zeroI : Itm := ⟨0, []⟩
abbrev b1 (n : Int) : Array Value := #[.int .u8 n]
/-- The cells of an item. -/
def ic (k : Int) (a : Option Addr) (n c : Nat) : Array Value := #[.int .i64 k, .slice a n c]
@[simp, go_sem] theorem ic_size (k : Int) (a : Option Addr) (n c : Nat) : (ic k a n c).size = 2 := rfl
@[simp, go_sem] theorem ic_ne (k : Int) (a : Option Addr) (n c : Nat) : ic k a n c ≠ #[] := fun e => by have := ic_size k a n c; rw [e] at this; cases this
@[simp, go_sem] theorem ic_0 (k : Int) (a : Option Addr) (n c : Nat) : (ic k a n c)[0]? = some (.int .i64 k) := rfl
@[simp, go_sem] theorem ic_1 (k : Int) (a : Option Addr) (n c : Nat) : (ic k a n c)[1]? = some (.slice a n c) := rfl
@[simp, go_sem] theorem ic_at0 (k : Int) (a : Option Addr) (n c : Nat) (h : 0 < (ic k a n c).size) : (ic k a n c)[0]'h = .int .i64 k := rfl
@[simp, go_sem] theorem ic_at1 (k : Int) (a : Option Addr) (n c : Nat) (h : 1 < (ic k a n c).size) : (ic k a n c)[1]'h = .slice a n c := rfl
@[simp, go_sem] theorem ic_all (k : Int) (a : Option Addr) (n c : Nat) : sub (ic k a n c) 0 2 = ic k a n c := sub_all _ _ (by simp)
theorem ic_one (k : Int) (a : Option Addr) (n c : Nat) : ∀ v ∈ ic k a n c, v.oneCell' = true := by
  intro v hv
  simp [ic] at hv
  rcases hv with rfl | rfl <;> rfl
/-- A value is this item, in this world. -/
def ItmIn (w : World) (v : Value) (x : Itm) : Prop := ∃ a c, v = .agg (ic x.k a x.bs.length c) ∧ RowsIn b1 0 1 w a x.bs
def blkSl (v : Value) : Option Nat := match v with | .slice (some a) _ _ => some a.block | _ => none
def blkOf (v : Value) : Option Nat := match v with | .agg cs => (cs[1]?).bind blkSl | _ => none
@[simp] theorem blkOf_ic (k : Int) (a : Option Addr) (n c : Nat) : blkOf (.agg (ic k a n c)) = a.map (·.block) := by
  cases a <;> rfl
theorem RowsIn.kept {α : Type} {f : α → Array Value} {z : α} {n : Nat} {w w' : World} {a : Option Addr} {xs : List α} (h : RowsIn f z n w a xs) (hn : 0 < n) {S : Nat → Prop} (hc : Chg S w w') (hS : ∀ b, a.map (·.block) = some b → S b → row? w b = #[]) : RowsIn f z n w' a xs := by
  rcases h with h | ⟨b, off, rfl, h⟩
  · exact .inl h
  · by_cases h0 : xs = []
    · exact .inl h0
    · have hb := h.lt hn h0
      by_cases hs : S b
      · have e := hS b rfl hs
        have := (h 0 (List.length_pos_iff.2 h0)).1
        rw [e] at this
        simp at this
        omega
      · exact .inr ⟨b, off, rfl, h.same (hc.row hb hs)⟩
theorem ItmIn.kept {w w' : World} {v : Value} {x : Itm} (h : ItmIn w v x) {S : Nat → Prop} (hc : Chg S w w') (hS : ∀ b, blkOf v = some b → S b → row? w b = #[]) : ItmIn w' v x := by
  obtain ⟨a, c, rfl, hr⟩ := h
  exact ⟨a, c, rfl, hr.kept (by decide) hc (by simpa using hS)⟩
theorem ItmIn.below {w w' : World} {v : Value} {x : Itm} (h : ItmIn w v x) (hb : Below w.heap.size w w') : ItmIn w' v x := h.kept (S := fun _ => False) (.of_below hb) (fun _ _ h => h.elim)
/-- A queue: its own cell, and its channel. -/
structure Que (w : World) (b ch most : Nat) (vs : List Value) : Prop where
  q : w.heap[b]? = some (.cells #[.chan (some ch)] 61 (0, 0))
  c : ∃ s r, w.heap[ch]? = some (.chan most vs.toArray false s r false)
section
variable {w w' : World} {b ch most : Nat} {vs : List Value}
theorem Que.ltb (h : Que w b ch most vs) : b < w.heap.size := (Array.getElem?_eq_some_iff.1 h.q).1
theorem Que.ltc (h : Que w b ch most vs) : ch < w.heap.size := by
  obtain ⟨s, r, hc⟩ := h.c
  exact (Array.getElem?_eq_some_iff.1 hc).1
theorem Que.ne (h : Que w b ch most vs) : b ≠ ch := by
  rintro rfl
  obtain ⟨s, r, hc⟩ := h.c
  have := h.q
  rw [hc] at this
  cases this
theorem Que.row (h : Que w b ch most vs) : row? w b = #[.chan (some ch)] := by unfold row?; rw [h.q]; rfl
theorem Que.rowc (h : Que w b ch most vs) : row? w ch = #[] := by
  obtain ⟨s, r, hc⟩ := h.c
  unfold row?; rw [hc]; rfl
theorem Que.kept (h : Que w b ch most vs) {S : Nat → Prop} (hc : Chg S w w') (h1 : ¬ S b) (h2 : ¬ S ch) : Que w' b ch most vs := by
  refine ⟨(hc.block b h.ltb h1).trans h.q, ?_⟩
  obtain ⟨s, r, hr⟩ := h.c
  exact ⟨s, r, (hc.block ch h.ltc h2).trans hr⟩
theorem Que.below (h : Que w b ch most vs) (hb : Below w.heap.size w w') : Que w' b ch most vs := h.kept (S := fun _ => False) (.of_below hb) id id
theorem chg_setChan (w : World) (c cap : Nat) (buf : Array Value) (cl : Bool) (s r : Nat) (tm : Bool) : Chg (· = c) w (w.setChan c cap buf cl s r tm) :=
  ⟨rfl, rfl, rfl, by simp [World.setChan], fun k _ hs => by simp [World.setChan, Array.getElem?_setIfInBounds, Ne.symm hs]⟩
theorem Que.set (h : Que w b ch most vs) (us : List Value) (s r : Nat) : Que (w.setChan ch most us.toArray false s r false) b ch most us :=
  ⟨((chg_setChan w ch most us.toArray false s r false).block b h.ltb h.ne).trans h.q, s, r, heap_setChan _ _ _ _ _ _ _ _ h.ltc⟩
end
/-- Items, one by one. -/
def Its (w : World) (vs : List Value) (xs : List Itm) : Prop := vs.length = xs.length ∧ ∀ k, k < xs.length → ItmIn w (vs.getD k undef) (xs.getD k zeroI)
theorem Its.nil (w : World) : Its w [] [] := ⟨rfl, fun k h => absurd h (by simp)⟩
theorem Its.kept {w w' : World} {vs : List Value} {xs : List Itm} (h : Its w vs xs) {S : Nat → Prop} (hc : Chg S w w') (hS : ∀ v ∈ vs, ∀ b, blkOf v = some b → S b → row? w b = #[]) : Its w' vs xs :=
  ⟨h.1, fun k hk => (h.2 k hk).kept hc (hS _ (by
    have hk' : k < vs.length := by rw [h.1]; exact hk
    rw [List.getD_eq_getElem?_getD, List.getElem?_eq_getElem hk']
    exact List.getElem_mem hk'))⟩
theorem Its.snoc {w : World} {vs : List Value} {xs : List Itm} (h : Its w vs xs) {v : Value} {x : Itm} (hv : ItmIn w v x) : Its w (vs ++ [v]) (xs ++ [x]) := by
  refine ⟨by simp [h.1], fun k hk => ?_⟩
  by_cases e : k < xs.length
  · rw [List.getD_eq_getElem?_getD, List.getD_eq_getElem?_getD, List.getElem?_append_left (by rw [h.1]; exact e), List.getElem?_append_left e, ← List.getD_eq_getElem?_getD, ← List.getD_eq_getElem?_getD]
    exact h.2 k e
  · obtain rfl : k = xs.length := by simp at hk; omega
    rw [List.getD_eq_getElem?_getD, List.getD_eq_getElem?_getD, List.getElem?_append_right (by rw [h.1]; exact Nat.le_refl _), List.getElem?_append_right (Nat.le_refl _), h.1]
    simpa using hv
theorem Its.cons {w : World} {v : Value} {vs : List Value} {x : Itm} {xs : List Itm} : Its w (v :: vs) (x :: xs) ↔ ItmIn w v x ∧ Its w vs xs := by
  constructor
  · rintro ⟨h1, h2⟩
    exact ⟨h2 0 (by simp), by simpa using h1, fun k hk => by simpa using h2 (k + 1) (by simpa using hk)⟩
  · rintro ⟨h0, h1, h2⟩
    refine ⟨by simp [h1], fun k hk => ?_⟩
    cases k with
    | zero => exact h0
    | succ k => simpa using h2 k (by simpa using hk)
/-- Where the bytes of items may lie: not in these blocks. -/
def Off (S : Nat → Prop) (vs : List Value) : Prop := ∀ v ∈ vs, ∀ b, blkOf v = some b → ¬ S b
theorem agg32 (w : World) : (isAgg 32).run Try.prog w = .ok true w := by kernel_rfl
theorem siz32 (w : World) : (sizeOf 32).run Try.prog w = .ok 2 w := by kernel_rfl
@[go_sem] theorem ldItm (w : World) (b off : Nat) (h : off + 2 ≤ (row? w b).size) : (ldAt 32 (.pointer (some ⟨b, off, none⟩))).run Try.prog w = .ok (.agg (sub (row? w b) off 2)) w := run_ldAt_agg agg32 siz32 w b off h
@[go_sem] theorem stItm (w : World) (b : Nat) (k : Int) (a : Option Addr) (n c : Nat) (h : (row? w b).size = 2) (ho : own? w b = true) : (stAt 32 (.pointer (some ⟨b, 0, none⟩)) (.agg (ic k a n c))).run Try.prog w = .ok () (w.setRow b (ic k a n c)) :=
  run_stAt_row siz32 w b _ (Array.all_eq_true_iff_forall_mem.2 (ic_one k a n c)) (by simp) h ho
@[go_sem] theorem bldItm (w : World) (k : Int) (a : Option Addr) (n c : Nat) : (bld 32 #[(0, .int .i64 k), (1, .slice a n c)]).run Try.prog w = .ok (.agg (ic k a n c)) w := run_bld w (by kernel_rfl)
@[go_sem] theorem bldItm0 (w : World) : (bld 32 #[]).run Try.prog w = .ok (.agg (ic 0 none 0 0)) w := run_bld w (by kernel_rfl)
@[go_sem] theorem zeroI_lit : (Value.agg #[.int .i64 0, .slice none 0 0]) = .agg (ic 0 none 0 0) := rfl
theorem zeroI_cells : (#[.int .i64 0, .slice none 0 0] : Array Value) = ic 0 none 0 0 := rfl
end Go.Proofs.Ytbdpnmocbpplbaa
