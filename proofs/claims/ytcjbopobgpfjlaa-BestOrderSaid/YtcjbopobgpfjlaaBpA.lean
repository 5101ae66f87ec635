/-
  The iterator that goes through sets as a port heard them: its contract, for every loop body that keeps what lay. No condition.
-/
import Derived.RangeFuncNested
import Derived.RangeFuncBound
import Derived.RangeFuncCalls
import Derived.RangeFuncLeaves
import Derived.Shelf.Abstract
import Derived.Shelf.RegionOpen
import Derived.WalkKit
import Derived.OwnWalkIn
import Derived.TacticsInMore
import Derived.LoopNIn
import Derived.LoopIn
import Derived.Test.YtcjbopobgpfjlaaBeF
import Derived.Test.YtcjbopobgpfjlaaRegW
namespace Go.Proofs.Ytcjbopobgpfjlaa
open Go.RowKit Go.Shelf
attribute [local go_sem] Oper.semAt_some

/-- A set, as a port heard it. -/
def rcv (r : Prt) (s : Sett) : Sett := { s with r := r }
def upto (r : Prt) (xs : List Sett) (k : Nat) : List Sett := (xs.take k).map (rcv r)
theorem upto_succ (r : Prt) (xs : List Sett) (k : Nat) (h : k < xs.length) : upto r xs (k + 1) = upto r xs k ++ [rcv r (xs.getD k zeroS)] := by
  unfold upto
  rw [take_snoc' xs zeroS k h, List.map_append]
  rfl
theorem upto_length (r : Prt) (xs : List Sett) (k : Nat) (h : k ≤ xs.length) : (upto r xs k).length = k := by simp [upto]; omega
theorem grown_of {w w' : World} (h : Below w.heap.size w w') : w.grownBy w' none := ⟨h.os, h.tape, h.output, h.size, fun k hk _ => h.block k hk⟩
theorem newb (w : World) (A B : Array Value) (S : TypeId) (hA : A ≠ #[]) : ∃ W1, (w.alloc (.cells A S)).setRow w.heap.size B = W1 ∧ row? W1 w.heap.size = B ∧ own? W1 w.heap.size = true ∧ Below w.heap.size w W1 ∧ w.heap.size < W1.heap.size := by
  have hr : row? (w.alloc (.cells A S)) w.heap.size = A := by simp [row_alloc, rowOf]
  refine ⟨_, rfl, ?_, ?_, ((Below.refl _ w).alloc (Nat.le_refl _) _).trans ⟨rfl, rfl, rfl, by simp [World.setRow], fun k hk => setRow_other _ _ k _ (by omega)⟩, by simp⟩
  · rw [row_setRow _ _ _ _ (by rw [hr]; exact hA), if_pos rfl]
  · rw [own_setRow, own_alloc, if_pos rfl]; rfl
theorem setb {w0 w : World} {b : Nat} {A B : Array Value} (hb : w0.heap.size ≤ b) (hr : row? w b = A) (ho : own? w b = true) (hA : A ≠ #[]) (hw : Below w0.heap.size w0 w) : ∃ W1, w.setRow b B = W1 ∧ row? W1 b = B ∧ own? W1 b = true ∧ Below w0.heap.size w0 W1 := by
  refine ⟨_, rfl, ?_, ?_, ⟨hw.os, hw.tape, hw.output, by have := hw.size; simpa [World.setRow] using this, fun k hk => (setRow_other _ _ k _ (by omega)).trans (hw.block k hk)⟩⟩
  · rw [row_setRow _ _ _ _ (by rw [hr]; exact hA), if_pos rfl]
  · rw [own_setRow]; exact ho
theorem pa_oneCell (c : Prt) : ∀ v ∈ (pa c), v.oneCell' = true := by
  intro v hv
  simp [pa, ca, cl] at hv
  rcases hv with ⟨n, _, rfl⟩ | rfl <;> rfl
theorem stPrtP (w : World) (b off : Nat) (s : Prt) (h : off + 9 ≤ (row? w b).size) (ho : own? w b = true) : (stAt 27 (.pointer (some ⟨b, off, none⟩)) (.agg (pa s))).run Try.prog w = .ok () (w.setRow b (wrL (pa s).toList off (row? w b))) :=
  run_stAt_part siz27 w b off _ (pa_oneCell s) (by simp) h ho
theorem list8 {l : List Int} (h : l.length = 8) : ∃ a b c d e f g i, l = [a, b, c, d, e, f, g, i] := by
  match l, h with
  | [a, b, c, d, e, f, g, i], _ => exact ⟨a, b, c, d, e, f, g, i, rfl⟩
theorem sa_setR (p : Sett) (s : Prt) : wrL (pa s).toList 23 (sa p) = sa (rcv s p) := by
  obtain ⟨a, b, x, y, z, ⟨g, hg, rg⟩, n, ⟨⟨t, ht, rt⟩, tn⟩, ⟨⟨u, hu, ru⟩, un⟩⟩ := p
  obtain ⟨⟨v, hv, rv⟩, vn⟩ := s
  obtain ⟨_, _, _, _, _, _, _, _, rfl⟩ := list8 hg
  obtain ⟨_, _, _, _, _, _, _, _, rfl⟩ := list8 ht
  obtain ⟨_, _, _, _, _, _, _, _, rfl⟩ := list8 hu
  obtain ⟨_, _, _, _, _, _, _, _, rfl⟩ := list8 hv
  simp [sa, pa, ca, cl, wrL, rcv]
attribute [-go_sem] stSet
/-- What a round keeps: what lay below, and the block of the receiver. -/
def Kps (n₀ c2 : Nat) (A B : World) : Prop := Below n₀ A B ∧ B.heap[c2]? = A.heap[c2]?
theorem Kps.t {n₀ c2 : Nat} {A B C : World} (h : Kps n₀ c2 A B) (k : Kps n₀ c2 B C) : Kps n₀ c2 A C := ⟨h.1.trans k.1, k.2.trans h.2⟩
theorem Kps.b {n₀ c2 : Nat} {w : World} (hn : n₀ ≤ w.heap.size) (hc : c2 < w.heap.size) (W : World) (l : Nat) (o o' : Obj) (hl : w.heap.size ≤ l) (h : W.heap[l]? = some o) (h1 : o.isCells = false) (h2 : o.isWalk = false) : Kps n₀ c2 W (W.putObj l o') :=
  ⟨belowK_b hn W l o o' hl h h1 h2, (grownBy_putObj' W l o').block c2 (by have := (Array.getElem?_eq_some_iff.1 h).1; omega) (by intro e; cases e; omega)⟩
set_option maxRecDepth 100000 in
set_option maxHeartbeats 2000000 in
theorem heard1_in (F : Fence) (n : Nat) (hF : F.fn 51) (hro : F.round = none) (hn : 1 ≤ n) (l c1 c2 n₀ b off cap : Nat) (r : Prt) (xs : List Sett) (hl : xs.length ≤ 1000) (hb : b < n₀) (J Jx : List Sett → World → Prop)
    (hY : ∀ pre x W, J pre W → pre.length < xs.length → YieldAt F (n - 1) Try.prog l #[.agg (sa x)] W fun e W' =>
      (e = .returned (.bool true) ∧ J (pre ++ [x]) W' ∧ Kps n₀ c2 W W') ∨ (e = .returned (.bool false) ∧ Jx (pre ++ [x]) W'))
    (W : World) (h2 : c2 < W.heap.size) (hJ : AbidesFrom W.heap.size J) (hn0 : n₀ ≤ W.heap.size) (r1 : row? W c1 = #[.slice (some ⟨b, off, none⟩) xs.length cap]) (r2 : row? W c2 = pa r) (hX : RowsAt sa zeroS 32 W b off xs) (h0 : J [] W) :
    CallsIn F n Try.prog 51 #[.func (.yield l) #[] #[], .pointer (some ⟨c1, 0, none⟩), .pointer (some ⟨c2, 0, none⟩)] W fun e W' => (∃ v, e = .returned v) ∧
      ((∃ ys, ys = upto r xs xs.length ∧ J ys W') ∨ (∃ pre, (∃ k, k ≤ xs.length ∧ pre = upto r xs k) ∧ Jx pre W')) := by
  refine callsIn_of_wp Try.func51 rfl hF ?_ hro
  simp only [Try.ntmps51, List.size_toArray, List.length_cons, List.length_nil, Nat.reduceAdd, Nat.reduceSub, Array.replicate_succ, Array.replicate_zero, List.push_toArray, List.append_toArray, List.nil_append, List.cons_append]
  gi_wp2
  gi_loopw [8] (fun i wr => ∃ k : Nat, k ≤ xs.length ∧ i = .int .i64 k ∧ J (upto r xs k) wr ∧ Below n₀ W wr ∧ row? wr c2 = pa r) (fun i _ => xs.length - (intOf i).toNat)
  case atStart => exact ⟨0, Nat.zero_le _, rfl, h0, Below.refl _ _, r2⟩
  case round =>
    obtain ⟨k, hk, rfl, hJs, hnx, rc⟩ := hrel
    by_cases hlt : k < xs.length
    · obtain ⟨s1, s2⟩ := hX k hlt
      have es := upto_succ r xs k hlt
      have el := upto_length r xs k hk
      have rb : row? wr b = row? W b := Below_row hnx hb
      rw [← rb] at s1 s2
      clear rb
      generalize xs.getD k zeroS = x at *
      gi_wp2
      rw [stSet _ _ _ (by simp [row_alloc, rowOf]) (by simp [own_alloc, ownOf])]
      obtain ⟨W1, hE, q1, o1, b1, z1⟩ := newb wr (sa zeroS) (sa x) 29 (by simp)
      rw [hE]
      clear hE s1 s2
      have rc1 : row? W1 c2 = pa r := (Below_row b1 (by have := hnx.size; omega)).trans rc
      obtain ⟨nb, hnb⟩ : ∃ nb, wr.heap.size = nb := ⟨_, rfl⟩
      simp only [hnb] at q1 o1 z1 ⊢
      gi_wp2
      rw [stPrtP _ _ _ _ (by rw [q1]; simp) o1, q1, sa_setR]
      obtain ⟨W2, hE, q2, o2, b2⟩ := setb (w0 := wr) (b := nb) (B := sa (rcv r x)) (by omega) q1 o1 (by simp) b1
      rw [hE]
      clear hE q1 o1
      have hJ2 : J (upto r xs k) W2 := hJ _ _ _ none hJs (grown_of b2) (fun _ e => by cases e)
      have hy1 := hY _ (rcv r x) W2 hJ2 (by rw [el]; exact hlt)
      rw [← es] at hy1
      obtain ⟨fn, tmps, assign, body, hy, hR⟩ := hy1
      generalize rcv r x = x' at *
      have hn2 : Below n₀ W W2 := hnx.trans (b2.mono (Nat.le_trans hn0 hnx.size))
      have rc2 : row? W2 c2 = pa r := (Below_row b2 (by have := hnx.size; omega)).trans rc
      clear rc rc1 hJs hJ2 b1 b2
      gi_wp2
      refine hR.mono ?_
      rintro e W3 (⟨rfl, hJ3, hk3⟩ | ⟨rfl, hJx3⟩)
      · gi_wp2
        go_roundw
        case rel => exact ⟨k + 1, by omega, by simp, hJ3, hn2.trans hk3.1, (row_of_block hk3.2).trans rc2⟩
        case measure => simp [intOf]; omega
      · gi_wp2
        refine bodyPost_ret (results_none rfl _ _ _) rfl ?_
        exact ⟨⟨_, rfl⟩, .inr ⟨_, ⟨k + 1, by omega, rfl⟩, hJx3⟩⟩
    · obtain rfl : k = xs.length := by omega
      gi_wp2
      go_end0
      exact ⟨⟨_, rfl⟩, .inl ⟨_, rfl, hJs⟩⟩
set_option maxRecDepth 100000 in
set_option maxHeartbeats 1000000 in
theorem heard1_nil (F : Fence) (n : Nat) (hF : F.fn 51) (hro : F.round = none) (l c1 c2 cap : Nat) (a : Option Addr) (J : List Sett → World → Prop) (W : World) (r1 : row? W c1 = #[.slice a 0 cap]) (h0 : J [] W) :
    CallsIn F n Try.prog 51 #[.func (.yield l) #[] #[], .pointer (some ⟨c1, 0, none⟩), .pointer (some ⟨c2, 0, none⟩)] W fun e W' => (∃ v, e = .returned v) ∧ J [] W' := by
  refine callsIn_of_wp Try.func51 rfl hF ?_ hro
  simp only [Try.ntmps51, List.size_toArray, List.length_cons, List.length_nil, Nat.reduceAdd, Nat.reduceSub, Array.replicate_succ, Array.replicate_zero, List.push_toArray, List.append_toArray, List.nil_append, List.cons_append]
  gi_wp2
  gi_loopw [8] (fun i wr => i = .int .i64 0 ∧ J [] wr) (fun _ _ => 0)
  case atStart => exact ⟨rfl, h0⟩
  case round =>
    obtain ⟨rfl, hJs⟩ := hrel
    gi_wp2
    go_end0
    exact ⟨⟨_, rfl⟩, hJs⟩
/-- The function value that heard hands back, at whatever world lies behind. -/
theorem heard_stops (F : Fence) (n : Nat) (hF : F.fn 51) (hro : F.round = none) (hn : 1 ≤ n) (c1 c2 n₀ cap : Nat) (a : Option Addr) (r : Prt) (xs : List Sett) (hl : xs.length ≤ 1000) (w : World) (hn₀ : n₀ ≤ w.heap.size) (h1 : c1 < w.heap.size) (h2 : c2 < w.heap.size)
    (r1 : row? w c1 = #[.slice a xs.length cap]) (r2 : row? w c2 = pa r) (hX : ∀ b off, a = some ⟨b, off, none⟩ → xs ≠ [] → b < n₀) (hI : RowsIn sa zeroS 32 w a xs) :
    SeqStopsK F n Try.prog 51 #[.pointer (some ⟨c1, 0, none⟩), .pointer (some ⟨c2, 0, none⟩)] (fun x : Sett => #[Value.agg (sa x)]) (Kps n₀ c2) (fun ys => ys = xs.map (rcv r)) (fun _ => True) xs.length w := fun l J Jx W hW hJ _ hY h0 => by
  have r1' : row? W c1 = #[.slice a xs.length cap] := (Below_row hW (by omega)).trans r1
  have r2' : row? W c2 = pa r := (Below_row hW (by omega)).trans r2
  have eu : upto r xs xs.length = xs.map (rcv r) := by unfold upto; rw [List.take_length]
  by_cases he : xs = []
  · subst he
    exact (heard1_nil F n hF hro l c1 c2 cap a J W r1' h0).mono fun e W' ⟨hv, hj⟩ => ⟨hv, .inl ⟨_, rfl, hj⟩⟩
  · obtain ⟨b, off, rfl, hs⟩ := hI.at he
    have hbn := hX b off rfl he
    refine (heard1_in F n hF hro hn l c1 c2 n₀ b off cap r xs hl hbn J Jx hY W (Nat.lt_of_lt_of_le h2 hW.size) hJ (Nat.le_trans hn₀ hW.size) r1' r2' (hs.same (Below_row hW (by omega))) h0).mono ?_
    rintro e W' ⟨hv, ⟨ys, rfl, hj⟩ | ⟨pre, _, hj⟩⟩
    · exact ⟨hv, .inl ⟨_, eu, hj⟩⟩
    · exact ⟨hv, .inr ⟨_, trivial, hj⟩⟩
end Go.Proofs.Ytcjbopobgpfjlaa
