/-
  The walks of a card's clock, the program's and the reference's. No condition.
-/
import Derived.Test.YtdamljmbnkdjfaaIdD
namespace Go.Proofs.Ytdamljmbnkdjfaa
open Go.RowKit

/-- A card: six bytes. -/
structure Mac where
  l : List Int
  h : l.length = 6
  r : ∀ x ∈ l, 0 ≤ x ∧ x < 256
def ma (m : Mac) : Array Value := cl m.l
@[simp, go_sem] theorem ma_size (m : Mac) : (ma m).size = 6 := by rw [ma, cl_size, m.h]
theorem ma_at (m : Mac) {k : Nat} (h : k < (ma m).size) : (ma m)[k]'h = .int .u8 (m.l.getD k 0) := by
  have h' : k < m.l.length := by rw [m.h]; simpa using h
  have h1 : (ma m)[k]? = some (.int .u8 (m.l.getD k 0)) := cl_get h'
  rw [Array.getElem?_eq_getElem h] at h1
  exact Option.some.inj h1
theorem Mac.rng (m : Mac) (k : Nat) : 0 ≤ m.l.getD k 0 ∧ m.l.getD k 0 < 256 := by
  by_cases h : k < m.l.length
  · have := m.r (m.l[k]) (List.getElem_mem h)
    simpa [h] using this
  · simp [h]
def ofM (m : Mac) : Clk := ⟨[m.l.getD 0 0, m.l.getD 1 0, m.l.getD 2 0, 255, 254, m.l.getD 3 0, m.l.getD 4 0, m.l.getD 5 0], rfl, by
  intro x hx
  have h := m.rng
  simp only [List.mem_cons, List.not_mem_nil, or_false] at hx
  rcases hx with rfl | rfl | rfl | rfl | rfl | rfl | rfl | rfl <;> first | exact h _ | omega⟩

theorem agg29 (w : World) : (isAgg 29).run Try.prog w = .ok true w := by kernel_rfl
theorem siz29 (w : World) : (sizeOf 29).run Try.prog w = .ok 6 w := by kernel_rfl
@[go_sem] theorem ldMac (w : World) (b off : Nat) (h : off + 6 ≤ (row? w b).size) : (ldAt 29 (.pointer (some ⟨b, off, none⟩))).run Try.prog w = .ok (.agg (sub (row? w b) off 6)) w := run_ldAt_agg agg29 siz29 w b off h
@[simp, go_sem] theorem ma_all (m : Mac) : sub (ma m) 0 6 = ma m := sub_all _ _ (by simp)

set_option maxHeartbeats 400000 in
theorem of_fn (m : Mac) : Fn Try.prog 15 #[.agg (ma m)] (.agg (ca (ofM m))) := by
  intro w
  have e0 := fun h => ma_at m (k := 0) h
  have e1 := fun h => ma_at m (k := 1) h
  have e2 := fun h => ma_at m (k := 2) h
  have e3 := fun h => ma_at m (k := 3) h
  have e4 := fun h => ma_at m (k := 4) h
  have e5 := fun h => ma_at m (k := 5) h
  have hlit : Value.agg #[.int .u8 (m.l.getD 0 0), .int .u8 (m.l.getD 1 0), .int .u8 (m.l.getD 2 0), .int .u8 255, .int .u8 254, .int .u8 (m.l.getD 3 0), .int .u8 (m.l.getD 4 0), .int .u8 (m.l.getD 5 0)] = .agg (ca (ofM m)) := rfl
  generalize m.l.getD 0 0 = a0 at *
  generalize m.l.getD 1 0 = a1 at *
  generalize m.l.getD 2 0 = a2 at *
  generalize m.l.getD 3 0 = a3 at *
  generalize m.l.getD 4 0 = a4 at *
  generalize m.l.getD 5 0 = a5 at *
  have hb : ∀ w, (bld 23 #[(0, .int .u8 a0), (1, .int .u8 a1), (2, .int .u8 a2), (3, .int .u8 255), (4, .int .u8 254), (5, .int .u8 a3), (6, .int .u8 a4), (7, .int .u8 a5)]).run Try.prog w = .ok (.agg (ca (ofM m))) w := fun w => by
    rw [← hlit]
    exact run_bld w (by kernel_rfl)
  clear hlit
  go_enter Try.func15, Try.ntmps15
  go_wp2
  refine post_c (p := 2) rfl agg23 siz23 (w.heap.size + 1) (ca (ofM m)) rfl rfl ?_ (by simp) ⟨rfl, ?_⟩
  · simp [go_sem]
  · exact below_setRow (((Below.refl _ _).alloc (Nat.le_refl _) _).alloc (by simp) _) (by omega) _
/-- What the reference's array holds behind k rounds. -/
def ofK (m : Mac) (k : Nat) : Array Value := cl [if 0 < k then m.l.getD 0 0 else 0, if 1 < k then m.l.getD 1 0 else 0, if 2 < k then m.l.getD 2 0 else 0, 0, 0, if 0 < k then m.l.getD 3 0 else 0, if 1 < k then m.l.getD 4 0 else 0, if 2 < k then m.l.getD 5 0 else 0]
@[simp, go_sem] theorem ofK_size (m : Mac) (k : Nat) : (ofK m k).size = 8 := by simp [ofK, cl]
@[simp, go_sem] theorem ofK_ne (m : Mac) (k : Nat) : ofK m k ≠ #[] := fun h => by
  have := ofK_size m k
  rw [h] at this
  cases this
theorem ofK_step (m : Mac) (k : Nat) (h : k < 3) : ((ofK m k).setIfInBounds k (.int .u8 (m.l.getD k 0))).setIfInBounds (5 + k) (.int .u8 (m.l.getD (3 + k) 0)) = ofK m (k + 1) := by
  match k, h with
  | 0, _ | 1, _ | 2, _ => rfl
  | k + 3, h => omega
theorem ofK_end (m : Mac) : ((ofK m 3).setIfInBounds 3 (.int .u8 255)).setIfInBounds 4 (.int .u8 254) = ca (ofM m) := rfl
def OfAt (m : Mac) (k : Nat) (B : Nat) (w0 : World) (i : Value) (wr : World) : Prop :=
  k ≤ 3 ∧ i = .int .i64 k ∧ Below B w0 wr ∧ B + 3 ≤ wr.heap.size ∧ row? wr B = ma m ∧ row? wr (B + 1) = ca zeroC ∧ own? wr (B + 1) = true ∧ row? wr (B + 1 + 1) = ofK m k ∧ own? wr (B + 1 + 1) = true
set_option maxHeartbeats 800000 in
theorem rof_fn (m : Mac) : Fn Try.prog 25 #[.agg (ma m)] (.agg (ca (ofM m))) := by
  intro w
  go_enter Try.func25, Try.ntmps25
  go_wp2
  have h0 : OfAt m 0 w.heap.size w (.int .i64 0) (((w.alloc (Obj.cells (ma m) 29)).alloc (Obj.cells (ca zeroC) 23)).alloc (Obj.cells (ca zeroC) 23)) :=
    ⟨by omega, rfl, (((Below.refl _ _).alloc (Nat.le_refl _) _).alloc (by simp) _).alloc (by simp; omega) _, by simp, by simp [row_alloc, rowOf]; intro h; omega, by simp [row_alloc, rowOf], by simp [own_alloc, ownOf], by simp [row_alloc, rowOf]; rfl, by simp [own_alloc, ownOf]⟩
  go_loopw [4] (fun i wr => ∃ k, OfAt m k w.heap.size w i wr) (fun i _ => 3 - (intOf i).toNat)
  case atStart => exact ⟨0, h0⟩
  case round =>
    clear h0
    obtain ⟨k, hk, rfl, hB, hz, r0, r1, o1, r2, o2⟩ := hrel
    by_cases hlt : k < 3
    · have e1 := fun h => ma_at m (k := k) h
      have e2 := fun h => ma_at m (k := 3 + k) h
      have hs := ofK_step m k hlt
      generalize m.l.getD k 0 = a at *
      generalize m.l.getD (3 + k) 0 = b at *
      have HS_ := hid hs
      clear hs
      have b1 : k < 6 := by omega
      have b2 : 3 + k < 6 := by omega
      have b3 : k < 8 := by omega
      have b4 : 5 + k < 8 := by omega
      go_wp2
      go_roundw
      case rel => exact ⟨k + 1, by omega, by go_num, (hB.setCell (by simp <;> omega) _).setCell (by simp <;> omega) _, by simp; omega, by simp [go_sem, r0], by simp [go_sem, r1], by simp [go_sem, o1], by simp [go_sem, r2, HS_.out], by simp [go_sem, o2]⟩
      case measure => simp [intOf]; omega
    · obtain rfl : k = 3 := by omega
      have he := ofK_end m
      go_wp2
      refine post_c (p := 2) rfl agg23 siz23 (w.heap.size + 1) (ca (ofM m)) rfl rfl ?_ (by simp) ⟨rfl, ?_⟩
      · simp [go_sem, r1]
      · exact below_setRow ((hB.setCell (by simp <;> omega) _).setCell (by simp <;> omega) _) (by omega) _
end Go.Proofs.Ytdamljmbnkdjfaa
