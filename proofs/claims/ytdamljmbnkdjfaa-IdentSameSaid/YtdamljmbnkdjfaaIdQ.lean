/-
  The walks of ident.Get and the reference's Get: the port of ten bytes. No condition.
-/
import Derived.Test.YtdamljmbnkdjfaaIdP
namespace Go.Proofs.Ytdamljmbnkdjfaa
open Go.RowKit

theorem or_i64 (a b : Int) (ha : 0 ≤ a ∧ a < 256) (hb : 0 ≤ b ∧ b < 256) : bits BinOp.or .i64 (a * 256) b = a * 256 + b := by
  obtain ⟨x, rfl⟩ := Int.eq_ofNat_of_zero_le ha.1
  obtain ⟨y, rfl⟩ := Int.eq_ofNat_of_zero_le hb.1
  have hx : x < 256 := by omega
  have hy : y < 256 := by omega
  have e0 : ((x : Int) * 256) = ((x * 256 : Nat) : Int) := by omega
  rw [e0]
  have f1 : (BitVec.ofInt 64 ((x * 256 : Nat) : Int)).toNat = x * 256 := by rw [BitVec.ofInt_natCast, BitVec.toNat_ofNat]; exact Nat.mod_eq_of_lt (by omega)
  have f2 : (BitVec.ofInt 64 (y : Int)).toNat = y := by rw [BitVec.ofInt_natCast, BitVec.toNat_ofNat]; exact Nat.mod_eq_of_lt (by omega)
  show IntKind.i64.wrap ((BitVec.ofInt 64 ((x * 256 : Nat) : Int) ||| BitVec.ofInt 64 (y : Int)).toNat : Int) = _
  have h := Nat.shiftLeft_add_eq_or_of_lt (a := x) (b := y) (i := 8) (by omega)
  rw [Nat.shiftLeft_eq, show (2 : Nat) ^ 8 = 256 from rfl] at h
  rw [BitVec.toNat_or, f1, f2, ← h]
  simp [IntKind.wrap, IntKind.bits, IntKind.signed]
  omega

/-- The port of ten bytes. -/
def portB (l : List Int) (c : Clk) : Prt := ⟨c, l.getD 8 0 * 256 + l.getD 9 0⟩
/-- Ten bytes at a place. -/
def TenAt (w : World) (b off : Nat) (l : List Int) (c : Clk) : Prop :=
  l.length = 10 ∧ (∀ x ∈ l, 0 ≤ x ∧ x < 256) ∧ l.take 8 = c.l ∧ off + 10 ≤ (row? w b).size ∧ ∀ k, k < 10 → (row? w b)[off + k]? = some (.int .u8 (l.getD k 0))
theorem getD_rng {l : List Int} (h : ∀ x ∈ l, 0 ≤ x ∧ x < 256) (k : Nat) : 0 ≤ l.getD k 0 ∧ l.getD k 0 < 256 := by
  by_cases hk : k < l.length
  · rw [getD_at hk]; exact h _ (List.getElem_mem hk)
  · simp [List.getD, List.getElem?_eq_none (Nat.le_of_not_lt hk)]
theorem ten_clk {w : World} {b off : Nat} {l : List Int} {c : Clk} (h : TenAt w b off l c) : sub (row? w b) off 8 = ca c := by
  obtain ⟨hl, hr, hc, hs, hg⟩ := h
  apply Array.ext_getElem?
  intro i
  unfold sub
  by_cases hi : i < 8
  · rw [ca_get c hi, ← hc, Array.getElem?_extract, if_pos (by omega), hg i (by omega)]
    congr 2
    simp [hi]
  · rw [Array.getElem?_eq_none (by simp; omega), Array.getElem?_eq_none (by simp; omega)]
theorem bldPrt (c : Clk) (n : Int) (w : World) : (bld 35 #[(0, .agg (ca c)), (1, .int .i64 n)]).run Try.prog w = .ok (.agg (pa ⟨c, n⟩)) w := by
  obtain ⟨l, h, r⟩ := c
  match l, h with
  | [c0, c1, c2, c3, c4, c5, c6, c7], _ => exact run_bld w (by kernel_rfl)
@[simp, go_sem] theorem pa_ne (p : Prt) : pa p ≠ #[] := fun h => by
  have := pa_size p
  rw [h] at this
  cases this
@[go_sem] theorem stPrt (w : World) (b : Nat) (p : Prt) (h : (row? w b).size = 9) (ho : own? w b = true) : (stAt 35 (.pointer (some ⟨b, 0, none⟩)) (.agg (pa p))).run Try.prog w = .ok () (w.setRow b (pa p)) :=
  run_stAt_row siz35 w b (pa p) (by rw [Array.all_eq_true_iff_forall_mem]; intro v hv; simp [pa, ca, cl] at hv; rcases hv with ⟨n, _, rfl⟩ | rfl <;> rfl) (by simp) h ho

@[go_sem] theorem arrAt (a : Option Addr) (len cap : Nat) (h : 8 ≤ len) (w : World) : (Instr.arrayAt 23 (.slice a len cap)).run Try.prog w = .ok (.pointer a) w := by
  unfold Instr.arrayAt
  simp [Sem.run_bind, run_underlying Try.underlying23, Nat.not_lt.2 h]
set_option maxHeartbeats 800000 in
theorem get_no (a : Option Addr) (len cap : Nat) (h : len ≠ 10) : Fn Try.prog 23 #[.slice a len cap] (.tuple #[.agg (pa zeroP), .bool false]) := by
  intro w
  have hb : ((len : Int) != 10) = true := by simp; omega
  clear h
  go_enter Try.func23, Try.ntmps23
  go_wp2
  refine post_ct (p := 2) (u := 3) rfl agg35 siz35 w.heap.size (pa zeroP) (.bool false) rfl rfl rfl ?_ (by simp) ⟨rfl, ?_⟩
  · simp [go_sem]
  · exact below_setRow ((Below.refl _ _).alloc (Nat.le_refl _) _) (Nat.le_refl _) _
set_option maxHeartbeats 800000 in
theorem get_ok (b off cap : Nat) (hcap : 10 ≤ cap) (l : List Int) (c : Clk) (w : World) (hT : TenAt w b off l c) :
    Calls Try.prog 23 #[.slice (some ⟨b, off, none⟩) 10 cap] w fun e w' => e = .returned (.tuple #[.agg (pa (portB l c)), .bool true]) ∧ Below w.heap.size w w' := by
  have hcl := ten_clk hT
  obtain ⟨hl, hr, hc, hs, hg⟩ := hT
  have r8 := getD_rng hr 8
  have r9 := getD_rng hr 9
  have g8 := hg 8 (by omega)
  have g9 := hg 9 (by omega)
  have hbl : b < w.heap.size := row_lt (by intro e; rw [e] at hs; simp at hs)
  have hor := or_i64 _ _ r8 r9
  have hbd := fun x => bldPrt c (l.getD 8 0 * 256 + l.getD 9 0) x
  have hpp : portB l c = ⟨c, l.getD 8 0 * 256 + l.getD 9 0⟩ := rfl
  generalize l.getD 8 0 = x8 at *
  generalize l.getD 9 0 = x9 at *
  rw [hpp]
  obtain ⟨r8a, r8b⟩ := r8
  obtain ⟨r9a, r9b⟩ := r9
  clear hg hr hc hl hpp
  go_enter Try.func23, Try.ntmps23
  go_wp2
  refine cut_box1 fun W g1 o1 hz hB => ?_
  have hR : ∀ d, row? (gr W d) b = row? w b := fun d => Below_row (hB d) hbl
  generalize row? w b = R at *
  have hcap8 : 8 ≤ cap := by omega
  have hs8 : off + 8 ≤ R.size := by omega
  refine wp_region_gr_tail W 15 (by kernel_rfl) (by kernel_rfl) ⟨_, rfl⟩ ?_
  simp only [List.take_succ_cons, List.take_zero, List.drop_succ_cons, List.drop_zero]
  repeat (go_big_quiet_step (fail))
  refine wpQuiet_nil ?_
  rintro _ ⟨y, rfl⟩
  go_wp2
  refine post_ct (p := 2) (u := 3) rfl agg35 siz35 w.heap.size (pa ⟨c, x8 * 256 + x9⟩) (.bool true) rfl rfl rfl ?_ (by simp) ⟨rfl, ?_⟩
  · simp [go_sem, g1]
  · exact below_setRow (hB _) (Nat.le_refl _) _
end Go.Proofs.Ytdamljmbnkdjfaa
