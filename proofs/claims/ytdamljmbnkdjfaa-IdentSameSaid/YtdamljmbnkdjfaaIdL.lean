/-
  A clock's text read again is that clock; the walk of the laws' alive(). No condition.
-/
import Derived.Test.YtdamljmbnkdjfaaIdG
namespace Go.Proofs.Ytdamljmbnkdjfaa
open Go.RowKit

theorem hexL_getD : ∀ (l : List Int) (i : Nat), i < l.length → (hexL l).getD (2 * i) 0 = hexd (l.getD i 0 / 16) ∧ (hexL l).getD (2 * i + 1) 0 = hexd (l.getD i 0 % 16)
  | x :: l, 0, _ => by simp [hexL]
  | x :: l, i + 1, h => by
    have ih := hexL_getD l i (by simpa using h)
    have e : hexL (x :: l) = hexd (x / 16) :: hexd (x % 16) :: hexL l := rfl
    rw [e, show 2 * (i + 1) = 2 * i + 1 + 1 by omega]
    simpa using ih
theorem byteL_hexL (l : List Int) (h : ∀ x ∈ l, 0 ≤ x ∧ x < 256) : ∀ (k : Nat), k ≤ l.length → byteL (hexL l) k = l.take k ∧ okL (hexL l) k = true := by
  intro k
  induction k with
  | zero => intro _; exact ⟨by simp [byteL], rfl⟩
  | succ k ih =>
    intro hk
    obtain ⟨h1, h2⟩ := ih (by omega)
    obtain ⟨g1, g2⟩ := hexL_getD l k (by omega)
    have hx : 0 ≤ l.getD k 0 ∧ l.getD k 0 < 256 := by rw [getD_at (by omega)]; exact h _ (List.getElem_mem _)
    have ho : okP (hexd (l.getD k 0 / 16)) (hexd (l.getD k 0 % 16)) = true := by rw [okP_iff, valD_hexd _ (by omega) (by omega), valD_hexd _ (by omega) (by omega)]; omega
    have hv : byteP (hexd (l.getD k 0 / 16)) (hexd (l.getD k 0 % 16)) = l.getD k 0 := by
      unfold byteP
      rw [if_pos ho, valP, valD_hexd _ (by omega) (by omega), valD_hexd _ (by omega) (by omega)]
      omega
    refine ⟨?_, by rw [okL_succ, h2, g1, g2, ho]; rfl⟩
    rw [byteL_succ, h1, g1, g2, hv, List.take_succ_eq_append_getElem (by omega), getD_at (by omega)]
theorem sl_text (c : Clk) : sl (strOfNums (hexL c.l)) = hexL c.l := sl_strOfNums _ (hexL_rng _ c.r)
theorem text_size (c : Clk) : (strOfNums (hexL c.l)).size = 16 := by rw [strOfNums_size, hexL_length, c.h]
theorem readOk_text (c : Clk) : readOk (strOfNums (hexL c.l)) = true := by
  unfold readOk
  rw [text_size, sl_text, (byteL_hexL c.l c.r 8 (by rw [c.h]; omega)).2]
  rfl
theorem readR_text (c : Clk) : readR (strOfNums (hexL c.l)) = c := by
  unfold readR
  rw [if_pos (readOk_text c)]
  apply Clk.ext'
  show byteL (sl _) 8 = _
  rw [sl_text, (byteL_hexL c.l c.r 8 (by rw [c.h]; omega)).1, List.take_of_length_le (by rw [c.h]; omega)]
theorem text_readR (s : ByteArray) (h : readOk s = true) : strOfNums (hexL (readR s).l) = s := by
  have hs : s.size = 16 := by
    unfold readOk at h
    simp at h
    exact h.1
  unfold readR
  rw [if_pos h]
  exact (text_readC s hs).2 h

def macA : Mac := ⟨[0, 27, 25, 170, 187, 204], rfl, by decide⟩
def clkA : Clk := ofM macA
@[go_sem] theorem bldMA (w : World) : (bld 29 #[(0, .int .u8 0), (1, .int .u8 27), (2, .int .u8 25), (3, .int .u8 170), (4, .int .u8 187), (5, .int .u8 204)]).run Try.prog w = .ok (.agg (ma macA)) w := run_bld w (by kernel_rfl)
theorem ofA : Fn Try.prog 15 #[.agg (ma macA)] (.agg (ca clkA)) := of_fn macA
theorem textA : Fn Try.prog 12 #[.agg (ca clkA)] (.string ⟨#[48, 48, 49, 98, 49, 57, 102, 102, 102, 101, 97, 97, 98, 98, 99, 99]⟩) := (text_fn clkA).at_eq (congrArg Value.string (by decide +kernel))
theorem readA : Fn Try.prog 10 #[.string ⟨#[48, 48, 49, 98, 49, 57, 102, 102, 102, 101, 97, 97, 98, 98, 99, 99]⟩] (.tuple #[.agg (ca clkA), .bool true]) := by
  have e : (⟨#[48, 48, 49, 98, 49, 57, 102, 102, 102, 101, 97, 97, 98, 98, 99, 99]⟩ : ByteArray) = strOfNums (hexL clkA.l) := by decide +kernel
  have h := read_fn ⟨#[48, 48, 49, 98, 49, 57, 102, 102, 102, 101, 97, 97, 98, 98, 99, 99]⟩
  refine h.at_eq ?_
  rw [e, readOk_text, readR_text]
theorem cmpA : Fn Try.prog 17 #[.agg (ca zeroC), .agg (ca clkA)] (.int .i64 (-1)) := (cmpC_fn zeroC clkA).at_eq (congrArg (Value.int .i64) (by decide +kernel))
theorem zeroA : Fn Try.prog 16 #[.agg (ca zeroC)] (.bool true) := (zero_fn zeroC).at_eq (congrArg Value.bool (by simp))

set_option maxHeartbeats 1600000 in
theorem alive_fn : Fn Try.prog 13 #[] (.bool true) := by
  intro w
  rw [gr_self w]
  go_enter Try.func13, Try.ntmps13
  go_wp2_with fail
  refine ofA.c fun m => ?_
  dsimp only
  go_wp2_with fail
  obtain ⟨W1, hE, r1, o1, u1, hz1⟩ := newblk w m (ca zeroC) (ca clkA) 23 (by simp)
  rw [hE]
  clear hE
  generalize (gr w m).heap.size = b1 at *
  refine readA.c fun m2 => ?_
  dsimp only
  go_wp2_with fail
  obtain ⟨W2, hE, r2, o2, u2, hz2⟩ := newblk W1 m2 (ca zeroC) (ca clkA) 23 (by simp)
  rw [hE]
  clear hE
  generalize (gr W1 m2).heap.size = b2 at *
  have r1 := upr u2 r1
  go_simp
  go_wp2_with (first | (go_at_call 12; refine textA.c fun m3 => ?_) | (go_at_call 17; refine cmpA.c fun m3 => ?_) | (go_at_call 16; refine zeroA.c fun m3 => ?_))
  go_ret
  refine ⟨rfl, ?_⟩
  rw [← gr_self w]
  exact upb u2 (upb u1 (gr_below w)) _
end Go.Proofs.Ytdamljmbnkdjfaa
