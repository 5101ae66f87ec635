/-
  The walks of the reference's digit and text. No condition.
-/
import Derived.Test.YtdamljmbnkdjfaaIdO
namespace Go.Proofs.Ytdamljmbnkdjfaa
open Go.RowKit

theorem digit_cut (n : Int) (h0 : 0 ≤ n) (h1 : n < 16) : (ByteArray.mk #[48, 49, 50, 51, 52, 53, 54, 55, 56, 57, 97, 98, 99, 100, 101, 102]).extract n.toNat (n + 1).toNat = strOfNums [hexd n] := by
  obtain ⟨k, rfl⟩ := Int.eq_ofNat_of_zero_le h0
  have H : ∀ k : Fin 16, (ByteArray.mk #[48, 49, 50, 51, 52, 53, 54, 55, 56, 57, 97, 98, 99, 100, 101, 102]).extract (((k : Nat) : Int)).toNat (((k : Nat) : Int) + 1).toNat = strOfNums [hexd ((k : Nat) : Int)] := by decide +kernel
  exact H ⟨k, by omega⟩
set_option maxHeartbeats 400000 in
theorem digit_fn (n : Int) (h0 : 0 ≤ n) (h1 : n < 16) : Fn Try.prog 27 #[.int .i64 n] (.string (strOfNums [hexd n])) := by
  intro w
  go_enter Try.func27, Try.ntmps27
  go_wp2
  go_ret
  exact ⟨by rw [← digit_cut n h0 h1]; rfl, Below.refl _ _⟩

theorem strOfNums_append (a b : List Int) : strOfNums a ++ strOfNums b = strOfNums (a ++ b) := by
  have h := ByteArray.mk_append_mk (a.map fun n => UInt8.ofNat n.toNat) (b.map fun n => UInt8.ofNat n.toNat)
  unfold strOfNums
  rw [List.map_append]
  exact h
def RTextAt (l : List Int) (k : Nat) (s i : Value) : Prop := k ≤ 8 ∧ i = .int .i64 k ∧ s = .string (strOfNums (hexL (l.take k)))
set_option maxHeartbeats 800000 in
theorem rtext_fn (c : Clk) : Fn Try.prog 14 #[.agg (ca c)] (.string (strOfNums (hexL c.l))) := by
  intro w
  go_enter Try.func14, Try.ntmps14
  go_wp2
  refine cut_box1 fun W g1 _ hz hB => ?_
  go_loopw [3, 4] (fun s i wr => ∃ k d, RTextAt c.l k s i ∧ wr = gr W d) (fun _ i _ => 8 - (intOf i).toNat)
  case atStart => exact ⟨0, W, ⟨by omega, rfl, rfl⟩, rfl⟩
  case round =>
    obtain ⟨k, d, ⟨hk, rfl, rfl⟩, rfl⟩ := hrel
    by_cases hlt : k < 8
    · have e1 := fun h => ca_at c (k := k) h
      have hs := hexL_snoc c.l k (by rw [c.h]; exact hlt)
      have hr := c.rng k
      generalize c.l.getD k 0 = x at *
      have hsz : (strOfNums (hexL (c.l.take k))).size = 2 * k := by rw [strOfNums_size, hexL_length, List.length_take, c.h]; omega
      have hsz2 : (strOfNums (hexL (c.l.take k)) ++ strOfNums [hexd (x / 16)]).size = 2 * k + 1 := by rw [ByteArray.size_append, hsz, strOfNums_size]; rfl
      have hsz3 : (strOfNums [hexd (x / 16)]).size = 1 := rfl
      have hsz4 : (strOfNums [hexd (x % 16)]).size = 1 := rfl
      have hfin : strOfNums (hexL (c.l.take k)) ++ strOfNums [hexd (x / 16)] ++ strOfNums [hexd (x % 16)] = strOfNums (hexL (c.l.take (k + 1))) := by rw [hs, strOfNums_append, strOfNums_append, List.append_assoc]; rfl
      obtain ⟨hr1, hr2⟩ := hr
      have q1 := Int.ediv_lt_of_lt_mul (a := x) (b := 16) (c := 16) (by omega) (by omega)
      have q0 : 0 ≤ x / 16 := by omega
      have q2 : x % 16 < 16 := by omega
      have q3 : 0 ≤ x % 16 := by omega
      have HS_ := hid hs
      clear hs
      have HFIN_ := hid hfin
      clear hfin
      go_wp2
      refine wp_region_gr W (by kernel_rfl) (by kernel_rfl) ⟨_, rfl⟩ ?_
      repeat (go_big_quiet_step ((go_at_call 27; refine (digit_fn _ ?_ ?_).q <;> assumption)))
      refine wpQuiet_nil ?_
      rintro _ ⟨y, rfl⟩
      go_wp2
      go_roundw
      case rel => exact ⟨k + 1, _, ⟨by omega, by go_num, by rw [HFIN_.out]⟩, rfl⟩
      case measure => simp [intOf]; omega
    · obtain rfl : k = 8 := by omega
      rw [List.take_of_length_le (by rw [c.h]; omega)]
      go_wp2
      go_ret
      exact ⟨rfl, hB _⟩
end Go.Proofs.Ytdamljmbnkdjfaa
