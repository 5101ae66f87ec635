/-
  The walk of ident.Read: a text is read as the plain functions say. No condition.
-/
import Derived.Test.YtdamljmbnkdjfaaIdV
import Derived.Laws.CopyOwn
namespace Go.Proofs.Ytdamljmbnkdjfaa
open Go.RowKit

def okL (l : List Int) (k : Nat) : Bool := (List.range k).all fun i => okP (l.getD (2 * i) 0) (l.getD (2 * i + 1) 0)
def byteP (a b : Int) : Int := if okP a b = true then valP a b else 0
def byteL (l : List Int) (k : Nat) : List Int := (List.range k).map fun i => byteP (l.getD (2 * i) 0) (l.getD (2 * i + 1) 0)
theorem okP_iff (a b : Int) : okP a b = true ↔ 0 ≤ valD a ∧ 0 ≤ valD b := by simp [okP]
theorem byteP_rng (a b : Int) : 0 ≤ byteP a b ∧ byteP a b < 256 := by
  unfold byteP
  split
  · rename_i h
    have := (okP_iff a b).1 h
    have h1 := valD_rng a
    have h2 := valD_rng b
    unfold valP
    omega
  · omega
def readC (l : List Int) : Clk := ⟨byteL l 8, by simp [byteL], fun x hx => by
  obtain ⟨i, _, rfl⟩ := List.mem_map.1 hx
  exact byteP_rng _ _⟩
def readOk (s : ByteArray) : Bool := decide (s.size = 16) && okL (sl s) 8
def readR (s : ByteArray) : Clk := if readOk s = true then readC (sl s) else zeroC
theorem okL_succ (l : List Int) (k : Nat) : okL l (k + 1) = (okL l k && okP (l.getD (2 * k) 0) (l.getD (2 * k + 1) 0)) := by
  simp [okL, List.range_succ]
theorem byteL_succ (l : List Int) (k : Nat) : byteL l (k + 1) = byteL l k ++ [byteP (l.getD (2 * k) 0) (l.getD (2 * k + 1) 0)] := by
  simp [byteL, List.range_succ]
theorem byteL_length (l : List Int) (k : Nat) : (byteL l k).length = k := by simp [byteL]
theorem okL_le (l : List Int) {k n : Nat} (h : okL l k = false) (hk : k ≤ n) : okL l n = false := by
  induction n with
  | zero => obtain rfl : k = 0 := by omega
            exact h
  | succ n ih =>
    rcases Nat.lt_or_ge n k with h' | h'
    · obtain rfl : k = n + 1 := by omega
      exact h
    · rw [okL_succ, ih h', Bool.false_and]
/-- What the array holds behind k rounds. -/
def part8 (l : List Int) (k : Nat) : Array Value := cl (byteL l k ++ List.replicate (8 - k) 0)
theorem part8_size (l : List Int) (k : Nat) (hk : k ≤ 8) : (part8 l k).size = 8 := by
  simp [part8, cl_size, byteL_length]
  omega
theorem part8_set (l : List Int) (k : Nat) (hk : k < 8) : (part8 l k).setIfInBounds k (.int .u8 (byteP (l.getD (2 * k) 0) (l.getD (2 * k + 1) 0))) = part8 l (k + 1) := by
  unfold part8
  rw [byteL_succ]
  obtain ⟨m, hm⟩ : ∃ m, 8 - k = m + 1 := ⟨7 - k, by omega⟩
  rw [hm, show 8 - (k + 1) = m by omega, List.replicate_succ]
  have h1 := byteL_length l k
  generalize byteL l k = xs at *
  generalize byteP _ _ = b
  subst h1
  unfold cl
  simp
theorem part8_end (l : List Int) : part8 l 8 = ca (readC l) := by
  simp [part8, ca, readC]
theorem part8_zero (l : List Int) : part8 l 0 = ca zeroC := rfl

def ReadAt (l : List Int) (k : Nat) (B : Nat) (w0 : World) (i : Value) (wr : World) : Prop :=
  k ≤ 8 ∧ okL l k = true ∧ i = .int .i64 k ∧ Below B w0 wr ∧ B + 2 ≤ wr.heap.size ∧ row? wr B = ca zeroC ∧ own? wr B = true ∧ row? wr (B + 1) = part8 l k ∧ own? wr (B + 1) = true

@[go_sem] theorem stClk (w : World) (b : Nat) (c : Clk) (h : (row? w b).size = 8) (ho : own? w b = true) : (stAt 23 (.pointer (some ⟨b, 0, none⟩)) (.agg (ca c))).run Try.prog w = .ok () (w.setRow b (ca c)) :=
  run_stAt_row siz23 w b (ca c) (by rw [Array.all_eq_true_iff_forall_mem]; intro v hv; simp [ca, cl] at hv; obtain ⟨n, _, rfl⟩ := hv; rfl) (by simp) h ho

theorem or16 (h l : Int) (h0 : 0 ≤ h) (h1 : h ≤ 15) (l0 : 0 ≤ l) (l1 : l ≤ 15) : bits BinOp.or .i64 (h * 16) l = 16 * h + l := by
  obtain ⟨a, rfl⟩ := Int.eq_ofNat_of_zero_le h0
  obtain ⟨b, rfl⟩ := Int.eq_ofNat_of_zero_le l0
  have H : ∀ a : Fin 16, ∀ b : Fin 16, bits BinOp.or .i64 (((a : Nat) : Int) * 16) ((b : Nat) : Int) = 16 * ((a : Nat) : Int) + ((b : Nat) : Int) := by decide +kernel
  exact H ⟨a, by omega⟩ ⟨b, by omega⟩
theorem byteP_bits (a b : Int) (h1 : ¬ valD a < 0) (h2 : ¬ valD b < 0) : bits BinOp.or .i64 (valD a * 16) (valD b) % 256 = byteP a b := by
  have h3 := valD_rng a
  have h4 := valD_rng b
  rw [or16 _ _ (by omega) (by omega) (by omega) (by omega), byteP, if_pos ((okP_iff a b).2 ⟨by omega, by omega⟩), valP]
  omega
theorem not_ok {s : ByteArray} {k : Nat} (h : okL (sl s) (k + 1) = false) (hk : k < 8) : readOk s = false ∧ readR s = zeroC := by
  have h1 : readOk s = false := by
    unfold readOk
    rw [okL_le (sl s) h (by omega), Bool.and_false]
  exact ⟨h1, by unfold readR; rw [h1]; rfl⟩
theorem ret_read {s : ByteArray} {c : Clk} {b : Bool} (h : readOk s = b ∧ readR s = c) : Ending.returned (.tuple #[.agg (ca c), .bool b]) = .returned (.tuple #[.agg (ca (readR s)), .bool (readOk s)]) := by
  rw [h.1, h.2]

set_option maxHeartbeats 800000 in
theorem read_fn (s : ByteArray) : Fn Try.prog 10 #[.string s] (.tuple #[.agg (ca (readR s)), .bool (readOk s)]) := by
  intro w
  go_enter Try.func10, Try.ntmps10
  by_cases hs : s.size = 16
  · have hne : ((s.size : Int) != 16) = false := by simp [hs]
    have HS_ := hid hs
    clear hs
    go_wp2
    have h0 : ReadAt (sl s) 0 w.heap.size w (.int .i64 0) ((w.alloc (Obj.cells (ca zeroC) 23)).alloc (Obj.cells (ca zeroC) 23)) :=
      ⟨by omega, rfl, rfl, ((Below.refl _ _).alloc (Nat.le_refl _) _).alloc (by simp) _, by simp, by simp [row_alloc, rowOf], by simp [own_alloc, ownOf], by simp [row_alloc, rowOf, part8_zero], by simp [own_alloc, ownOf]⟩
    go_loopw [12] (fun i wr => ∃ k, ReadAt (sl s) k w.heap.size w i wr) (fun i _ => 8 - (intOf i).toNat)
    case atStart => exact ⟨0, h0⟩
    case round =>
      clear h0
      obtain ⟨k, hk, hok, rfl, hB, hz, r1, o1, r2, o2⟩ := hrel
      by_cases hlt : k < 8
      · have i1 := ixStr s (2 * k) (2 * (k : Int)) (by omega) (by rw [HS_.out]; omega)
        have i2 := ixStr s (2 * k + 1) (2 * (k : Int) + 1) (by omega) (by rw [HS_.out]; omega)
        have ha := sl_rng s (2 * k)
        have hb := sl_rng s (2 * k + 1)
        have hset := part8_set (sl s) k hlt
        have hsucc := okL_succ (sl s) k
        generalize (sl s).getD (2 * k) 0 = a at *
        generalize (sl s).getD (2 * k + 1) 0 = b at *
        obtain ⟨ha0, ha1⟩ := ha
        obtain ⟨hb0, hb1⟩ := hb
        have hsz := part8_size (sl s) k hk
        have va := valD_rng a
        have vb := valD_rng b
        have hbp : byteP a b = if okP a b = true then valP a b else 0 := rfl
        have hoi := okP_iff a b
        rw [hok, Bool.true_and] at hsucc
        have g1 := gr_row r1 (by omega)
        have g2 := gr_row r2 (by omega)
        have q1 := gr_own o1
        have q2 := gr_own o2
        have HSET_ := hid hset
        clear hset
        have HSUCC_ := hid hsucc
        clear hsucc
        have HOK_ := hid hok
        clear hok
        have HBP_ := hid hbp
        clear hbp
        have HOI_ := hid hoi
        clear hoi
        have R1_ := hid r1
        clear r1
        have R2_ := hid r2
        clear r2
        have O1_ := hid o1
        clear o1
        have O2_ := hid o2
        clear o2
        rw [gr_self wr]
        obtain ⟨va1, va2⟩ := va
        obtain ⟨vb1, vb2⟩ := vb
        by_cases h1 : valD a < 0
        · go_wp2
          refine wp_region_gr wr (by kernel_rfl) (by kernel_rfl) ⟨_, rfl⟩ ?_
          repeat (go_big_quiet_step ((go_at_call 26; refine (value_fn _ ?_ ?_).q <;> assumption)))
          refine wpQuiet_nil ?_
          rintro _ ⟨y, rfl⟩
          go_wp2
          refine post_ct (p := 2) (u := 3) rfl agg23 siz23 w.heap.size (ca zeroC) (.bool false) rfl rfl rfl ?_ (by simp) ⟨ret_read (not_ok (k := k) ?_ hlt), ?_⟩
          · simp [go_sem, g1]
          · rw [HSUCC_.out, Bool.eq_false_iff]; intro h; have := (HOI_.out).1 h; omega
          · exact below_setRow (hB.trans ((gr_below wr y).mono (by omega))) (Nat.le_refl _) _
        · by_cases h2 : valD b < 0
          · go_wp2
            refine wp_region_gr wr (by kernel_rfl) (by kernel_rfl) ⟨_, rfl⟩ ?_
            repeat (go_big_quiet_step ((go_at_call 26; refine (value_fn _ ?_ ?_).q <;> assumption)))
            refine wpQuiet_nil ?_
            rintro _ ⟨y, rfl⟩
            go_wp2
            refine post_ct (p := 2) (u := 3) rfl agg23 siz23 w.heap.size (ca zeroC) (.bool false) rfl rfl rfl ?_ (by simp) ⟨ret_read (not_ok (k := k) ?_ hlt), ?_⟩
            · simp [go_sem, g1]
            · rw [HSUCC_.out, Bool.eq_false_iff]; intro h; have := (HOI_.out).1 h; omega
            · exact below_setRow (hB.trans ((gr_below wr y).mono (by omega))) (Nat.le_refl _) _
          · have hv := byteP_bits a b h1 h2
            go_wp2
            refine wp_region_gr wr (by kernel_rfl) (by kernel_rfl) ⟨_, rfl⟩ ?_
            repeat (go_big_quiet_step ((go_at_call 26; refine (value_fn _ ?_ ?_).q <;> assumption)))
            refine wpQuiet_nil ?_
            rintro _ ⟨y, rfl⟩
            go_wp2
            go_roundw
            case rel =>
              refine ⟨k + 1, by omega, ?_, by go_num, (hB.trans ((gr_below wr y).mono (by omega))).setCell (by simp) _, ?_, by simp [go_sem, g1], by simp [go_sem, q1], by simp [go_sem, g2, HSET_.out], by simp [go_sem, q2]⟩
              · rw [HSUCC_.out, (HOI_.out).2 ⟨by omega, by omega⟩]
              · have := (gr_below wr y).size; simp; omega
            case measure => simp [intOf]; omega
      · obtain rfl : k = 8 := by omega
        rw [part8_end] at r2
        have hr : readOk s = true := by unfold readOk; rw [hok, HS_.out]; rfl
        have hr2 : readR s = readC (sl s) := by unfold readR; rw [if_pos hr]
        have HR_ := hid hr
        clear hr
        have HR2_ := hid hr2
        clear hr2
        have HOK_ := hid hok
        clear hok
        go_wp2
        refine post_ct (p := 2) (u := 3) rfl agg23 siz23 w.heap.size (ca (readC (sl s))) (.bool true) rfl rfl rfl ?_ (by simp) ⟨ret_read ⟨HR_.out, HR2_.out⟩, ?_⟩
        · simp [go_sem, r1]
        exact below_setRow hB (Nat.le_refl _) _
  · have hne : ((s.size : Int) != 16) = true := by simp; omega
    have hr : readOk s = false := by simp [readOk, hs]
    have hr2 : readR s = zeroC := by simp [readR, hr]
    have HS_ := hid hs
    clear hs
    have HR_ := hid hr
    clear hr
    have HR2_ := hid hr2
    clear hr2
    go_wp2
    refine post_ct (p := 2) (u := 3) rfl agg23 siz23 w.heap.size (ca zeroC) (.bool false) rfl rfl rfl ?_ (by simp) ⟨by rw [HR_.out, HR2_.out], ?_⟩
    · simp [go_sem]
    exact below_setRow (((Below.refl _ _).alloc (Nat.le_refl _) _).alloc (by simp) _) (Nat.le_refl _) _
end Go.Proofs.Ytdamljmbnkdjfaa
