/-
  'Chg S w w'': of the blocks of w only those of S may have changed; new ones may be there. No condition.
-/
import Derived.Test.YtoblgdjjpbnemaaBase
namespace Go.Proofs.Ytoblgdjjpbnemaa
open Go.RowKit

structure Chg (S : Nat → Prop) (w w' : World) : Prop where
  os : w'.os = w.os
  tape : w'.tape = w.tape
  output : w'.output = w.output
  size : w.heap.size ≤ w'.heap.size
  block : ∀ k, k < w.heap.size → ¬ S k → w'.heap[k]? = w.heap[k]?

theorem Chg.refl (S : Nat → Prop) (w : World) : Chg S w w := ⟨rfl, rfl, rfl, Nat.le_refl _, fun _ _ _ => rfl⟩
theorem Chg.trans {S : Nat → Prop} {a b c : World} (h : Chg S a b) (k : Chg S b c) : Chg S a c :=
  ⟨k.os.trans h.os, k.tape.trans h.tape, k.output.trans h.output, Nat.le_trans h.size k.size, fun i hi hs => (k.block i (Nat.lt_of_lt_of_le hi h.size) hs).trans (h.block i hi hs)⟩
theorem Chg.mono {S T : Nat → Prop} {w w' : World} (h : Chg S w w') (hST : ∀ k, k < w.heap.size → S k → T k) : Chg T w w' := ⟨h.os, h.tape, h.output, h.size, fun k hk hs => h.block k hk fun e => hs (hST k hk e)⟩
/-- What the second step may change is new, or among S. -/
theorem Chg.then' {S T : Nat → Prop} {a b c : World} (h : Chg S a b) (k : Chg T b c) (hT : ∀ i, T i → i < a.heap.size → S i) : Chg S a c :=
  ⟨k.os.trans h.os, k.tape.trans h.tape, k.output.trans h.output, Nat.le_trans h.size k.size, fun i hi hs => (k.block i (Nat.lt_of_lt_of_le hi h.size) fun e => hs (hT i e hi)).trans (h.block i hi hs)⟩
theorem Chg.of_below {S : Nat → Prop} {w w' : World} (h : Below w.heap.size w w') : Chg S w w' := ⟨h.os, h.tape, h.output, h.size, fun k hk _ => h.block k hk⟩
theorem Chg.below {S : Nat → Prop} {B : Nat} {w w' : World} (h : Chg S w w') (hB : B ≤ w.heap.size) (hS : ∀ k, k < B → ¬ S k) : Below B w w' := ⟨h.os, h.tape, h.output, h.size, fun k hk => h.block k (Nat.lt_of_lt_of_le hk hB) (hS k hk)⟩
theorem Chg.alloc {S : Nat → Prop} {a w : World} (h : Chg S a w) (o : Obj) : Chg S a (w.alloc o) := h.trans (.of_below ((Below.refl _ _).alloc (Nat.le_refl _) o))
theorem Chg.drew {S : Nat → Prop} {a w : World} (h : Chg S a w) : Chg S a w.drew := ⟨h.os, h.tape, h.output, h.size, h.block⟩
theorem Chg.addgr {S : Nat → Prop} {a w : World} (h : Chg S a w) (d : World) : Chg S a (gr w d) := h.trans (.of_below (gr_below w d))
theorem Chg.setCell {S : Nat → Prop} {a w : World} (h : Chg S a w) {p : Addr} (hp : a.heap.size ≤ p.block ∨ S p.block) (u : Value) : Chg S a (w.setCell p u) :=
  ⟨h.os, h.tape, h.output, by have := h.size; simpa [World.setCell] using this, fun k hk hs => by
    rw [Below.heap_setCell _ _ _ _ (by rintro rfl; rcases hp with hp | hp; · omega
                                       exact hs hp)]
    exact h.block k hk hs⟩
theorem Chg.setRow {S : Nat → Prop} {a w : World} (h : Chg S a w) {b : Nat} (hp : a.heap.size ≤ b ∨ S b) (cs : Array Value) : Chg S a (w.setRow b cs) :=
  ⟨h.os, h.tape, h.output, by have := h.size; simpa [World.setRow] using this, fun k hk hs => by
    rw [setRow_other _ _ _ _ (by rintro rfl; rcases hp with hp | hp; · omega
                                 exact hs hp)]
    exact h.block k hk hs⟩
theorem Chg.row {S : Nat → Prop} {w w' : World} (h : Chg S w w') {b : Nat} (hb : b < w.heap.size) (hs : ¬ S b) : row? w' b = row? w b := row_of_block (h.block b hb hs)
theorem Chg.own {S : Nat → Prop} {w w' : World} (h : Chg S w w') {b : Nat} (hb : b < w.heap.size) (hs : ¬ S b) : own? w' b = own? w b := own_of_block (h.block b hb hs)
/-- What was known of a row in the extensions of W0 is known in those of a world that came of one of them. -/
theorem Chg.up {S : Nat → Prop} {W0 d W1 : World} (h : Chg S (gr W0 d) W1) {b : Nat} {cs : Array Value} (hr : ∀ d, row? (gr W0 d) b = cs) (hs : ¬ S b) (h0 : cs ≠ #[]) : ∀ d, row? (gr W1 d) b = cs := fun d' => by
  have h1 := hr d
  have hb : b < (gr W0 d).heap.size := row_lt (by rw [h1]; exact h0)
  rw [Below_row (gr_below W1 d') (Nat.lt_of_lt_of_le hb h.size), h.row hb hs, h1]
theorem Chg.upo {S : Nat → Prop} {W0 d W1 : World} (h : Chg S (gr W0 d) W1) {b : Nat} (hr : ∀ d, own? (gr W0 d) b = true) (hs : ¬ S b) : ∀ d, own? (gr W1 d) b = true := fun d' => by
  have h1 := hr d
  have hb : b < (gr W0 d).heap.size := own_lt h1
  rw [Below_own (gr_below W1 d') (Nat.lt_of_lt_of_le hb h.size), h.own hb hs, h1]
theorem Chg.upb {S : Nat → Prop} {W0 d W1 w : World} {B : Nat} (h : Chg S (gr W0 d) W1) (hr : ∀ d, Below B w (gr W0 d)) (hB : B ≤ (gr W0 d).heap.size) (hS : ∀ k, k < B → ¬ S k) : ∀ d, Below B w (gr W1 d) := fun d' =>
  ((hr d).trans (h.below hB hS)).trans ((gr_below W1 d').mono (Nat.le_trans hB h.size))
end Go.Proofs.Ytoblgdjjpbnemaa
