/-
  The walk of the reference's Read: a text is read as the plain functions say. No condition.
-/
import Derived.Test.YtdamljmbnkdjfaaIdF
namespace Go.Proofs.Ytdamljmbnkdjfaa
open Go.RowKit

def RReadAt (l : List Int) (k : Nat) (B : Nat) (w0 : World) (i : Value) (wr : World) : Prop :=
  k ≤ 8 ∧ i = .int .i64 k ∧ Below B w0 wr ∧ B + 2 ≤ wr.heap.size ∧ row? wr B = ca zeroC ∧ own? wr B = true ∧ row? wr (B + 1) = part8 l k ∧ own? wr (B + 1) = true
def RMidAt (l : List Int) (k j : Nat) (B : Nat) (w0 : World) (n : Value) (wr : World) : Prop :=
  j ≤ 256 ∧ n = .int .i64 j ∧ Below B w0 wr ∧ B + 2 ≤ wr.heap.size ∧ row? wr B = ca zeroC ∧ own? wr B = true ∧ row? wr (B + 1) = midA l k j ∧ own? wr (B + 1) = true

theorem str_beq (a b : ByteArray) : (a.toList == b.toList) = decide (a = b) := by
  rw [Bool.eq_iff_iff, ByteArray.toList_eq, ByteArray.toList_eq]
  simp only [beq_iff_eq, decide_eq_true_eq]
  obtain ⟨⟨x⟩⟩ := a
  obtain ⟨⟨y⟩⟩ := b
  simp
theorem pair_cmp (s : ByteArray) (k j : Nat) (hk : 2 * k + 2 ≤ s.size) (hj : j < 256) :
    ((strOfNums [hexd ((j : Int) / 16)] ++ strOfNums [hexd ((j : Int) % 16)]).toList == (s.extract (2 * k) (2 * k + 2)).toList) = decide (okP ((sl s).getD (2 * k) 0) ((sl s).getD (2 * k + 1) 0) = true ∧ valP ((sl s).getD (2 * k) 0) ((sl s).getD (2 * k + 1) 0) = j) := by
  rw [str_beq, strOfNums_append, extract2 s (2 * k) hk, decide_eq_decide, ← pair_eq _ _ j hj]
  constructor
  · intro h
    have h1 := strOfNums_inj ?_ ?_ h
    · simp only [List.cons_append, List.nil_append, List.cons.injEq, and_true] at h1
      exact h1
    · intro x hx
      simp only [List.cons_append, List.nil_append, List.mem_cons, List.not_mem_nil, or_false] at hx
      rcases hx with rfl | rfl <;> exact hexd_rng _ (by omega) (by omega)
    · intro x hx
      simp only [List.mem_cons, List.not_mem_nil, or_false] at hx
      rcases hx with rfl | rfl <;> exact sl_rng s _
  · intro h
    rw [h.1, h.2]
    rfl

set_option maxRecDepth 100000 in
set_option maxHeartbeats 1600000 in
theorem rread_fn (s : ByteArray) : Fn Try.prog 11 #[.string s] (.tuple #[.agg (ca (readR s)), .bool (readOk s)]) := by
  intro w
  go_enter Try.func11, Try.ntmps11
  by_cases hs : s.size = 16
  · have hne : ((s.size : Int) != 16) = false := by simp [hs]
    have HS_ := hid hs
    clear hs
    go_wp2
    have h0 : RReadAt (sl s) 0 w.heap.size w (.int .i64 0) ((w.alloc (Obj.cells (ca zeroC) 23)).alloc (Obj.cells (ca zeroC) 23)) :=
      ⟨by omega, rfl, ((Below.refl _ _).alloc (Nat.le_refl _) _).alloc (by simp) _, by simp, by simp [row_alloc, rowOf], by simp [own_alloc, ownOf], by simp [row_alloc, rowOf, part8_zero], by simp [own_alloc, ownOf]⟩
    go_loopw [5, 6] (fun i _ wr => ∃ k, RReadAt (sl s) k w.heap.size w i wr) (fun i _ _ => 8 - (intOf i).toNat)
    case atStart => exact ⟨0, h0⟩
    case round =>
      clear h0
      obtain ⟨k, hk, rfl, hB, hz, r1, o1, r2, o2⟩ := hrel
      by_cases hlt : k < 8
      · have hbd : 2 * k + 2 ≤ s.size := by rw [HS_.out]; omega
        go_wp2
        have hm0 : RMidAt (sl s) k 0 w.heap.size w (.int .i64 0) wr := ⟨by omega, rfl, hB, hz, r1, o1, by rw [r2, midA_zero _ _ hlt], o2⟩
        clear hB hz r1 o1 r2 o2
        obtain ⟨wo, rfl⟩ : ∃ wo : World, wo = wr := ⟨_, rfl⟩
        go_loopw [6] (fun n wr => ∃ j, RMidAt (sl s) k j w.heap.size w n wr) (fun n _ => 256 - (intOf n).toNat)
        case atStart => exact ⟨0, hm0⟩
        case round =>
          clear hm0
          obtain ⟨j, hj, rfl, hB, hz, r1, o1, r2, o2⟩ := hrel
          by_cases hjl : j < 256
          · have q1 : (j : Int) / 16 < 16 := by omega
            have q0 : 0 ≤ (j : Int) / 16 := by omega
            have q2 : (j : Int) % 16 < 16 := by omega
            have q3 : 0 ≤ (j : Int) % 16 := by omega
            have hsz1 : (strOfNums [hexd ((j : Int) / 16)]).size = 1 := rfl
            have hsz2 : (strOfNums [hexd ((j : Int) % 16)]).size = 1 := rfl
            have hsize := midA_size (sl s) k j hk
            have g1 := gr_row r1 (by omega)
            have g2 := gr_row r2 (by omega)
            have p1 := gr_own o1
            have p2 := gr_own o2
            have hc := pair_cmp s k j hbd hjl
            have hB' := fun d => hB.trans ((gr_below wr d).mono (show w.heap.size ≤ wr.heap.size by omega))
            by_cases hh : okP ((sl s).getD (2 * k) 0) ((sl s).getD (2 * k + 1) 0) = true ∧ valP ((sl s).getD (2 * k) 0) ((sl s).getD (2 * k + 1) 0) = j
            · rw [decide_eq_true hh] at hc
              have hset := midA_hit (sl s) k j hh
              clear hh
              have hj2 : (j : Int) % 256 = j := by omega
              have R1_ := hid r1
              clear r1
              have R2_ := hid r2
              clear r2
              have O1_ := hid o1
              clear o1
              have O2_ := hid o2
              clear o2
              have HSET_ := hid hset
              clear hset
              rw [gr_self wr]
              go_wp2
              refine wp_region_gr wr (by kernel_rfl) (by kernel_rfl) ⟨_, rfl⟩ ?_
              repeat (go_big_quiet_step ((go_at_call 27; refine (digit_fn _ ?_ ?_).q <;> assumption)))
              refine wpQuiet_nil ?_
              rintro _ ⟨y, rfl⟩
              go_wp2
              go_roundw
              case rel =>
                refine ⟨j + 1, by omega, by go_num, (hB' y).setCell (by simp <;> omega) _, ?_, by simp [go_sem, g1], by simp [go_sem, p1], by simp [go_sem, g2, HSET_.out], by simp [go_sem, p2]⟩
                have := (gr_below wr y).size; simp; omega
              case measure => simp [intOf]; omega
            · rw [decide_eq_false hh] at hc
              have hset := midA_miss (sl s) k j hh
              clear hh
              have R1_ := hid r1
              clear r1
              have R2_ := hid r2
              clear r2
              have O1_ := hid o1
              clear o1
              have O2_ := hid o2
              clear o2
              have HSET_ := hid hset
              clear hset
              rw [gr_self wr]
              go_wp2
              refine wp_region_gr wr (by kernel_rfl) (by kernel_rfl) ⟨_, rfl⟩ ?_
              repeat (go_big_quiet_step ((go_at_call 27; refine (digit_fn _ ?_ ?_).q <;> assumption)))
              refine wpQuiet_nil ?_
              rintro _ ⟨y, rfl⟩
              go_wp2
              go_roundw
              case rel =>
                refine ⟨j + 1, by omega, by go_num, hB' y, ?_, g1 y, p1 y, by rw [g2 y, HSET_.out], p2 y⟩
                have := (gr_below wr y).size; omega
              case measure => simp [intOf]; omega
          · obtain rfl : j = 256 := by omega
            rw [midA_end _ _ hlt] at r2
            go_wp2
            go_roundw
            case rel => exact ⟨k + 1, by omega, by go_num, hB, hz, r1, o1, r2, o2⟩
            case measure => simp [intOf]; omega
      · obtain rfl : k = 8 := by omega
        rw [part8_end] at r2
        have htx := text_readC s HS_.out
        have hB' := fun d => hB.trans ((gr_below wr d).mono (show w.heap.size ≤ wr.heap.size by omega))
        have g1 := gr_row r1 (by omega)
        have g2 := gr_row r2 (by omega)
        have p1 := gr_own o1
        have hcm := str_beq (strOfNums (hexL (readC (sl s)).l)) s
        cases hr : readOk s with
        | true =>
          have hr2 : readR s = readC (sl s) := by unfold readR; rw [if_pos hr]
          have hc2 : ((strOfNums (hexL (readC (sl s)).l)).toList == s.toList) = true := by rw [hcm, decide_eq_true (htx.2 hr)]
          clear hcm htx
          have HR_ := hid hr
          clear hr
          have HR2_ := hid hr2
          clear hr2
          have R1_ := hid r1
          clear r1
          have R2_ := hid r2
          clear r2
          have O1_ := hid o1
          clear o1
          have O2_ := hid o2
          clear o2
          rw [gr_self wr]
          go_wp2_with (go_at_call 14; refine (rtext_fn _).c fun y => ?_)
          refine post_ct (p := 2) (u := 3) rfl agg23 siz23 w.heap.size (ca (readC (sl s))) (.bool true) rfl rfl rfl ?_ (by simp) ⟨ret_read ⟨HR_.out, HR2_.out⟩, ?_⟩
          · simp [go_sem, g1]
          exact below_setRow (hB' _) (Nat.le_refl _) _
        | false =>
          have hr2 : readR s = zeroC := by unfold readR; rw [hr]; rfl
          have hc2 : ((strOfNums (hexL (readC (sl s)).l)).toList == s.toList) = false := by rw [hcm, decide_eq_false (fun e => by have := htx.1 e; rw [hr] at this; cases this)]
          clear hcm htx
          have HR_ := hid hr
          clear hr
          have HR2_ := hid hr2
          clear hr2
          have R1_ := hid r1
          clear r1
          have R2_ := hid r2
          clear r2
          have O1_ := hid o1
          clear o1
          have O2_ := hid o2
          clear o2
          rw [gr_self wr]
          go_wp2_with (go_at_call 14; refine (rtext_fn _).c fun y => ?_)
          refine post_ct (p := 2) (u := 3) rfl agg23 siz23 w.heap.size (ca zeroC) (.bool false) rfl rfl rfl ?_ (by simp) ⟨ret_read ⟨HR_.out, HR2_.out⟩, ?_⟩
          · simp [go_sem, g1]
          exact below_setRow (hB' _) (Nat.le_refl _) _
  · have hne : ((s.size : Int) != 16) = true := by simp; omega
    have hr : readOk s = false := by simp [readOk, hs]
    have hr2 : readR s = zeroC := by simp [readR, hr]
    have HS_ := hid hs
    clear hs
    have HR_ := hid hr
    clear hr
    have HR2_ := hid hr2
    clear hr2
    go_wp2
    refine post_ct (p := 2) (u := 3) rfl agg23 siz23 w.heap.size (ca zeroC) (.bool false) rfl rfl rfl ?_ (by simp) ⟨by rw [HR_.out, HR2_.out], ?_⟩
    · simp [go_sem]
    exact below_setRow (((Below.refl _ _).alloc (Nat.le_refl _) _).alloc (by simp) _) (Nat.le_refl _) _
end Go.Proofs.Ytdamljmbnkdjfaa
