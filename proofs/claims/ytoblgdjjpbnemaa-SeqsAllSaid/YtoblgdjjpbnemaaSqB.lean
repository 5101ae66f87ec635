/-
  How numbers of senders lie in cells; the walks of Long, right, Behind, Next of package head and seqs. No condition but that numbers are such.
-/
import Derived.Test.YtoblgdjjpbnemaaSqA
import Derived.Test.YtoblgdjjpbnemaaRegW
import Derived.Deep.CutBlock
namespace Go.Proofs.Ytoblgdjjpbnemaa
open Go.RowKit

structure X3 where
  a : Int
  b : Int
  c : Int
deriving DecidableEq
def xc (x : X3) : Array Value := #[.int .i64 x.a, .int .i64 x.b, .int .i64 x.c]
@[simp, go_sem] theorem xc_size (x : X3) : (xc x).size = 3 := rfl
@[simp, go_sem] theorem xc_ne (x : X3) : xc x ≠ #[] := fun e => by have := xc_size x; rw [e] at this; cases this
@[simp, go_sem] theorem xc_all (x : X3) : sub (xc x) 0 3 = xc x := sub_all _ _ (by simp)
theorem xc_one (x : X3) : ∀ v ∈ xc x, v.oneCell' = true := by
  intro v hv
  simp [xc] at hv
  rcases hv with rfl | rfl | rfl <;> rfl
def zeroX : X3 := ⟨0, 0, 0⟩
structure Hf where
  is : Bool
  sq : Int
  x : X3
def zeroH : Hf := ⟨false, 0, zeroX⟩
def hc (h : Hf) : Array Value := #[.bool h.is, .int .i64 h.sq, .int .i64 h.x.a, .int .i64 h.x.b, .int .i64 h.x.c]
@[simp, go_sem] theorem hc_size (h : Hf) : (hc h).size = 5 := rfl
@[simp, go_sem] theorem hc_ne (h : Hf) : hc h ≠ #[] := fun e => by have := hc_size h; rw [e] at this; cases this
theorem hc_one (h : Hf) : ∀ v ∈ hc h, v.oneCell' = true := by
  intro v hv
  simp [hc] at hv
  rcases hv with rfl | rfl | rfl | rfl | rfl <;> rfl
structure Sd where
  last : Nat → Int
  h : Hf
def upd (f : Nat → Int) (k : Nat) (v : Int) : Nat → Int := fun j => if j = k then v else f j
def i16 (f : Nat → Int) : Array Value := ((List.range 16).map fun k => Value.int .i64 (f k)).toArray
@[simp] theorem i16_size (f : Nat → Int) : (i16 f).size = 16 := by simp [i16]
theorem i16_get (f : Nat → Int) (k : Nat) : (i16 f)[k]? = if k < 16 then some (.int .i64 (f k)) else none := by
  unfold i16
  by_cases h : k < 16
  · rw [if_pos h]
    simp [h]
  · rw [if_neg h]
    simp
    omega
def sd (s : Sd) : Array Value := i16 s.last ++ hc s.h
def ba (nx : Nat → Int) (m : Nat) : Array Value := i16 nx ++ #[.map (some m)]
@[simp, go_sem] theorem sd_size (s : Sd) : (sd s).size = 21 := by simp [sd]
@[simp, go_sem] theorem ba_size (nx : Nat → Int) (m : Nat) : (ba nx m).size = 17 := by simp [ba]
@[simp, go_sem] theorem sd_ne (s : Sd) : sd s ≠ #[] := fun e => by have := sd_size s; rw [e] at this; cases this
@[simp, go_sem] theorem ba_ne (nx : Nat → Int) (m : Nat) : ba nx m ≠ #[] := fun e => by have := ba_size nx m; rw [e] at this; cases this
theorem sd_get (s : Sd) (k : Nat) : (sd s)[k]? = if k < 16 then some (.int .i64 (s.last k)) else (hc s.h)[k - 16]? := by
  unfold sd
  by_cases h : k < 16
  · rw [Array.getElem?_append_left (by simp [h]), i16_get, if_pos h, if_pos h]
  · rw [Array.getElem?_append_right (by simp; omega), if_neg h]
    simp
theorem ba_get (nx : Nat → Int) (m k : Nat) : (ba nx m)[k]? = if k < 16 then some (.int .i64 (nx k)) else if k = 16 then some (.map (some m)) else none := by
  unfold ba
  by_cases h : k < 16
  · rw [Array.getElem?_append_left (by simp [h]), i16_get, if_pos h, if_pos h]
  · rw [Array.getElem?_append_right (by simp; omega), if_neg h, i16_size]
    by_cases h2 : k = 16
    · subst h2; rfl
    · rw [if_neg h2]
      simp
      omega
theorem sd_at (s : Sd) {k : Nat} (hk : k < 16) (h : k < (sd s).size) : (sd s)[k]'h = .int .i64 (s.last k) := by
  have h1 := sd_get s k
  rw [if_pos hk, Array.getElem?_eq_getElem h] at h1
  exact Option.some.inj h1
theorem ba_at (nx : Nat → Int) (m : Nat) {k : Nat} (hk : k < 16) (h : k < (ba nx m).size) : (ba nx m)[k]'h = .int .i64 (nx k) := by
  have h1 := ba_get nx m k
  rw [if_pos hk, Array.getElem?_eq_getElem h] at h1
  exact Option.some.inj h1
@[simp, go_sem] theorem sd_16 (s : Sd) : (sd s)[16]? = some (.bool s.h.is) := by rw [sd_get]; rfl
@[simp, go_sem] theorem sd_17 (s : Sd) : (sd s)[17]? = some (.int .i64 s.h.sq) := by rw [sd_get]; rfl
@[simp, go_sem] theorem ba_16 (nx : Nat → Int) (m : Nat) : (ba nx m)[16]? = some (.map (some m)) := by rw [ba_get]; rfl
@[simp, go_sem] theorem sd_at16 (s : Sd) (h : 16 < (sd s).size) : (sd s)[16]'h = .bool s.h.is := by
  have h1 := sd_16 s
  rw [Array.getElem?_eq_getElem h] at h1
  exact Option.some.inj h1
@[simp, go_sem] theorem sd_at17 (s : Sd) (h : 17 < (sd s).size) : (sd s)[17]'h = .int .i64 s.h.sq := by
  have h1 := sd_17 s
  rw [Array.getElem?_eq_getElem h] at h1
  exact Option.some.inj h1
@[simp, go_sem] theorem ba_at16 (nx : Nat → Int) (m : Nat) (h : 16 < (ba nx m).size) : (ba nx m)[16]'h = .map (some m) := by
  have h1 := ba_16 nx m
  rw [Array.getElem?_eq_getElem h] at h1
  exact Option.some.inj h1
@[simp, go_sem] theorem sd_x (s : Sd) : sub (sd s) 18 3 = xc s.h.x := by
  apply Array.ext_getElem?
  intro i
  unfold sub
  by_cases hi : i < 3
  · rw [Array.getElem?_extract, if_pos (by rw [sd_size]; omega), sd_get, if_neg (by omega)]
    match i, hi with
    | 0, _ => rfl
    | 1, _ => rfl
    | 2, _ => rfl
  · rw [Array.getElem?_eq_none (by simp; omega), Array.getElem?_eq_none (by simp; omega)]
theorem sd_set (s : Sd) (k : Nat) (hk : k < 16) (v : Int) : (sd s).setIfInBounds k (.int .i64 v) = sd ⟨upd s.last k v, s.h⟩ := by
  apply Array.ext_getElem?
  intro i
  rw [Array.getElem?_setIfInBounds, sd_get, sd_get]
  by_cases h : k = i
  · subst h
    simp [hk, upd]
    omega
  · simp [h, upd, Ne.symm h]
theorem ba_set (nx : Nat → Int) (m k : Nat) (hk : k < 16) (v : Int) : (ba nx m).setIfInBounds k (.int .i64 v) = ba (upd nx k v) m := by
  apply Array.ext_getElem?
  intro i
  rw [Array.getElem?_setIfInBounds, ba_get, ba_get]
  by_cases h : k = i
  · subst h
    simp [hk, upd]
    omega
  · simp [h, upd, Ne.symm h]
theorem sd_put (s : Sd) (h : Hf) : wrL (hc h).toList 16 (sd s) = sd ⟨s.last, h⟩ := by
  have e : ∀ z : Array Value, wrL (hc h).toList 16 z = ((((z.setIfInBounds 16 (.bool h.is)).setIfInBounds 17 (.int .i64 h.sq)).setIfInBounds 18 (.int .i64 h.x.a)).setIfInBounds 19 (.int .i64 h.x.b)).setIfInBounds 20 (.int .i64 h.x.c) := fun z => rfl
  rw [e]
  apply Array.ext_getElem?
  intro i
  simp only [Array.getElem?_setIfInBounds, sd_get, Array.size_setIfInBounds, sd_size]
  by_cases h1 : i < 16
  · simp [h1, show ¬ 20 = i by omega, show ¬ 19 = i by omega, show ¬ 18 = i by omega, show ¬ 17 = i by omega, show ¬ 16 = i by omega]
  · by_cases h2 : i < 21
    · rcases (show i = 16 ∨ i = 17 ∨ i = 18 ∨ i = 19 ∨ i = 20 by omega) with rfl | rfl | rfl | rfl | rfl <;> simp [hc]
    · have hn : ∀ g : Hf, (hc g)[i - 16]? = none := fun g => Array.getElem?_eq_none (by simp; omega)
      simp [h1, hn, show ¬ 20 = i by omega, show ¬ 19 = i by omega, show ¬ 18 = i by omega, show ¬ 17 = i by omega, show ¬ 16 = i by omega]
def longK (k : Int) : Int := if k = 0 ∨ k = 1 ∨ k = 8 then 44 else if k = 9 then 54 else if k = 11 then 64 else 0
/-- Is it a type of message? -/
def kindB (k : Int) : Bool := decide (k = 0 ∨ k = 1 ∨ k = 8 ∨ k = 9 ∨ k = 11)
theorem kindB_long (k : Int) : (longK k == 0) = !kindB k := by
  unfold longK kindB
  by_cases h1 : k = 0 ∨ k = 1 ∨ k = 8
  · rw [if_pos h1, decide_eq_true (by omega)]; rfl
  · rw [if_neg h1]
    by_cases h2 : k = 9
    · rw [if_pos h2, decide_eq_true (by omega)]; rfl
    · rw [if_neg h2]
      by_cases h3 : k = 11
      · rw [if_pos h3, decide_eq_true (by omega)]; rfl
      · rw [if_neg h3, decide_eq_false (by omega)]; rfl
theorem kindB_nat {k : Int} (h : kindB k = true) : ∃ n : Nat, k = n ∧ n < 16 := by
  have := of_decide_eq_true h
  exact ⟨k.toNat, by omega, by omega⟩
def rightB (s : Int) : Bool := decide (0 ≤ s ∧ s ≤ 65535)
def behB (a b : Int) : Bool := decide (1 ≤ (a - b) % 65536 ∧ (a - b) % 65536 < 32768)
def headN (n : Int) : Int := if n < 0 ∨ 65535 ≤ n then 0 else n + 1
theorem and65535 (x : Int) : bits BinOp.and .i64 x 65535 = x % 65536 := by
  show IntKind.i64.wrap ((BitVec.ofInt 64 x &&& BitVec.ofInt 64 65535).toNat : Int) = _
  rw [BitVec.toNat_and]
  have f2 : (BitVec.ofInt 64 (65535 : Int)).toNat = 2 ^ 16 - 1 := by decide
  rw [f2, Nat.and_two_pow_sub_one_eq_mod, BitVec.toNat_ofInt]
  simp [IntKind.wrap, IntKind.bits, IntKind.signed]
  omega
/-- A new block, filled at once. -/
theorem newb (w : World) (A B : Array Value) (S : TypeId) (hA : A ≠ #[]) : ∃ W1, (w.alloc (.cells A S)).setRow w.heap.size B = W1 ∧ row? W1 w.heap.size = B ∧ own? W1 w.heap.size = true ∧ Below w.heap.size w W1 ∧ w.heap.size < W1.heap.size := by
  have hr : row? (w.alloc (.cells A S)) w.heap.size = A := by simp [row_alloc, rowOf]
  refine ⟨_, rfl, ?_, ?_, ((Below.refl _ w).alloc (Nat.le_refl _) _).trans ⟨rfl, rfl, rfl, by simp [World.setRow], fun k hk => setRow_other _ _ k _ (by omega)⟩, by simp⟩
  · rw [row_setRow _ _ _ _ (by rw [hr]; exact hA), if_pos rfl]
  · rw [own_setRow, own_alloc, if_pos rfl]; rfl
def lengths : Array Value := #[.int .i64 44, .int .i64 44, .int .i64 0, .int .i64 0, .int .i64 0, .int .i64 0, .int .i64 0, .int .i64 0, .int .i64 44, .int .i64 54, .int .i64 0, .int .i64 64]
@[simp, go_sem] theorem lengths_size : lengths.size = 12 := rfl
@[simp, go_sem] theorem lengths_ne : lengths ≠ #[] := fun e => by have := lengths_size; rw [e] at this; cases this
theorem lengths_one : ∀ v ∈ lengths, v.oneCell' = true := by
  intro v hv
  simp only [lengths, List.mem_toArray, List.mem_cons, List.not_mem_nil, or_false] at hv
  rcases hv with rfl | rfl | rfl | rfl | rfl | rfl | rfl | rfl | rfl | rfl | rfl | rfl <;> rfl
theorem lengths_get (k : Nat) (h : k < lengths.size) : lengths[k]'h = .int .i64 (longK k) := by
  have h' : k < 12 := by simpa using h
  rcases (show k = 0 ∨ k = 1 ∨ k = 2 ∨ k = 3 ∨ k = 4 ∨ k = 5 ∨ k = 6 ∨ k = 7 ∨ k = 8 ∨ k = 9 ∨ k = 10 ∨ k = 11 by omega) with rfl | rfl | rfl | rfl | rfl | rfl | rfl | rfl | rfl | rfl | rfl | rfl <;> rfl
@[go_sem] theorem bldLen (w : World) : (bld 80 #[(0, .int .i64 44), (1, .int .i64 44), (8, .int .i64 44), (9, .int .i64 54), (11, .int .i64 64)]).run Try.prog w = .ok (.agg lengths) w := run_bld w (by kernel_rfl)
theorem siz80 (w : World) : (sizeOf 80).run Try.prog w = .ok 12 w := by kernel_rfl
@[go_sem] theorem stLen (w : World) (b : Nat) (h : (row? w b).size = 12) (ho : own? w b = true) : (stAt 80 (.pointer (some ⟨b, 0, none⟩)) (.agg lengths)).run Try.prog w = .ok () (w.setRow b lengths) :=
  run_stAt_row siz80 w b _ (Array.all_eq_true_iff_forall_mem.2 lengths_one) (by simp) h ho
set_option maxHeartbeats 2000000 in
theorem long_fn (k : Int) : Fn Try.prog 24 #[.int .i64 k] (.int .i64 (longK k)) := by
  intro w
  by_cases h : k < 0 ∨ 12 ≤ k
  · have e : longK k = 0 := by
      unfold longK
      rw [if_neg (by omega), if_neg (by omega), if_neg (by omega)]
    rw [e]
    have h' : k < 0 ∨ (¬ k < 0 ∧ 12 ≤ k) := by omega
    clear e h
    rcases h' with h1 | ⟨h1, h2⟩ <;> (
      go_enter Try.func24, Try.ntmps24
      go_upto_region 2 with (fail)
      obtain ⟨W1, hE, r1, o1, b1, l1⟩ := newb w #[.int .i64 0, .int .i64 0, .int .i64 0, .int .i64 0, .int .i64 0, .int .i64 0, .int .i64 0, .int .i64 0, .int .i64 0, .int .i64 0, .int .i64 0, .int .i64 0] lengths 80 (by simp)
      rw [hE]
      clear hE
      go_wp2
      go_ret
      exact ⟨rfl, b1⟩)
  · obtain ⟨n, rfl⟩ : ∃ n : Nat, k = n := ⟨k.toNat, by omega⟩
    have h1 : ¬ (n : Int) < 0 := by omega
    have h2 : (n : Int) < 12 := by omega
    have h3 : ¬ (12 : Int) ≤ n := by omega
    have hg := lengths_get n
    have hg2 : lengths[n]? = some (.int .i64 (longK n)) := by rw [Array.getElem?_eq_getElem (by simp; omega), hg]
    clear h
    go_enter Try.func24, Try.ntmps24
    go_upto_region 2 with (fail)
    obtain ⟨W1, hE, r1, o1, b1, l1⟩ := newb w #[.int .i64 0, .int .i64 0, .int .i64 0, .int .i64 0, .int .i64 0, .int .i64 0, .int .i64 0, .int .i64 0, .int .i64 0, .int .i64 0, .int .i64 0, .int .i64 0] lengths 80 (by simp)
    rw [hE]
    clear hE
    go_wp2
    go_ret
    exact ⟨rfl, b1⟩
theorem right_fn (n : Int) : Fn Try.prog 25 #[.int .i64 n] (.bool (rightB n)) := by
  intro w
  by_cases h : 0 ≤ n
  · by_cases h2 : n ≤ 65535
    · rw [show rightB n = true from decide_eq_true ⟨h, h2⟩]
      go_enter Try.func25, Try.ntmps25
      go_wp2
      go_ret
      exact ⟨rfl, Below.refl _ _⟩
    · rw [show rightB n = false from decide_eq_false (by omega)]
      go_enter Try.func25, Try.ntmps25
      go_wp2
      go_ret
      exact ⟨rfl, Below.refl _ _⟩
  · rw [show rightB n = false from decide_eq_false (by omega)]
    go_enter Try.func25, Try.ntmps25
    go_wp2
    go_ret
    exact ⟨rfl, Below.refl _ _⟩
theorem wrapS {a b : Int} (h1 : 0 ≤ a) (h2 : a ≤ 65535) (h3 : 0 ≤ b) (h4 : b ≤ 65535) : wrap64 (a - b) = a - b := by
  unfold wrap64
  omega
theorem behind_fn (a b : Int) (ha : 0 ≤ a ∧ a ≤ 65535) (hb : 0 ≤ b ∧ b ≤ 65535) : Fn Try.prog 26 #[.int .i64 a, .int .i64 b] (.bool (behB a b)) := by
  intro w
  obtain ⟨h1, h2⟩ := ha
  obtain ⟨h3, h4⟩ := hb
  have hw := wrapS h1 h2 h3 h4
  have hand := and65535 (a - b)
  have hb : behB a b = decide (1 ≤ (a - b) % 65536 ∧ (a - b) % 65536 < 32768) := rfl
  generalize (a - b) % 65536 = n at *
  by_cases h5 : 1 ≤ n
  · by_cases h6 : n < 32768
    · rw [hb, decide_eq_true ⟨h5, h6⟩]
      clear hb
      go_enter Try.func26, Try.ntmps26
      go_wp2
      go_ret
      exact ⟨rfl, Below.refl _ _⟩
    · rw [hb, decide_eq_false (by omega)]
      clear hb
      go_enter Try.func26, Try.ntmps26
      go_wp2
      go_ret
      exact ⟨rfl, Below.refl _ _⟩
  · rw [hb, decide_eq_false (by omega)]
    clear hb
    go_enter Try.func26, Try.ntmps26
    go_wp2
    go_ret
    exact ⟨rfl, Below.refl _ _⟩
theorem headN_fn (n : Int) (h0 : n ≤ 65536) : Fn Try.prog 27 #[.int .i64 n] (.int .i64 (headN n)) := by
  intro w
  by_cases h : n < 0 ∨ 65535 ≤ n
  · rw [show headN n = 0 from if_pos h]
    have h' : n < 0 ∨ (¬ n < 0 ∧ 65535 ≤ n) := by omega
    clear h
    rcases h' with h1 | ⟨h1, h2⟩ <;> (
      go_enter Try.func27, Try.ntmps27
      go_wp2
      go_ret
      exact ⟨rfl, Below.refl _ _⟩)
  · rw [show headN n = n + 1 from if_neg h]
    have h1 : ¬ n < 0 := by omega
    have h2 : ¬ 65535 ≤ n := by omega
    clear h
    go_enter Try.func27, Try.ntmps27
    go_wp2
    go_ret
    exact ⟨rfl, Below.refl _ _⟩
end Go.Proofs.Ytoblgdjjpbnemaa
