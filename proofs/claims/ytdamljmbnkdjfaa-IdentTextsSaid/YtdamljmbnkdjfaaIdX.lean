/-
  The walk of the law IdentTexts: it answers true. No condition.
-/
import Derived.Test.YtdamljmbnkdjfaaIdL
namespace Go.Proofs.Ytdamljmbnkdjfaa
open Go.RowKit

set_option maxRecDepth 100000 in
set_option maxHeartbeats 1600000 in
theorem texts_fn (c : Clk) (s : ByteArray) : Fn Try.prog 3 #[.agg (ca c), .string s] (.bool true) := by
  intro w
  go_enter Try.func3, Try.ntmps3
  go_wp2_with fail
  refine cutc_box1 fun W g0 _ _ hB => ?_
  refine (read_fn s).c fun m => ?_
  dsimp only
  go_wp2_with fail
  obtain ⟨W1, hE, r1, o1, u1, _⟩ := newblk W m (ca zeroC) (ca (readR s)) 23 (by simp)
  rw [hE]
  clear hE
  generalize (gr W m).heap.size = b1 at *
  refine (rread_fn s).c fun m2 => ?_
  dsimp only
  go_wp2_with fail
  obtain ⟨W2, hE, r2, o2, u2, _⟩ := newblk W1 m2 (ca zeroC) (ca (readR s)) 23 (by simp)
  rw [hE]
  clear hE
  generalize (gr W1 m2).heap.size = b2 at *
  replace g0 := upr u2 (upr u1 g0)
  replace hB := upb u2 (upb u1 hB)
  replace r1 := upr u2 r1
  clear o1 o2 u1 u2
  go_simp
  go_wp2_with fail
  refine (text_fn c).c fun m3 => ?_
  dsimp only
  go_wp2_with fail
  refine ((read_fn _).at_eq (u := .tuple #[.agg (ca c), .bool true]) (by rw [readR_text, readOk_text])).c fun m4 => ?_
  dsimp only
  go_wp2_with fail
  obtain ⟨W3, hE, r3, o3, u3, _⟩ := newblk W2 m4 (ca zeroC) (ca c) 23 (by simp)
  rw [hE]
  clear hE
  generalize (gr W2 m4).heap.size = b3 at *
  replace g0 := upr u3 g0
  replace hB := upb u3 hB
  replace r1 := upr u3 r1
  replace r2 := upr u3 r2
  clear o3 u3
  cases hr : readOk s with
  | true =>
    have ht := text_readR s hr
    have HR_ := hid hr
    clear hr
    refine wp_region_gr W3 (by kernel_rfl) (by kernel_rfl) ⟨_, rfl⟩ ?_
    repeat (go_big_quiet_step ((first | (go_at_call 13; exact alive_fn.q) | (go_at_call 12; exact (text_fn _).q) | (go_at_call 14; exact (rtext_fn _).q))))
    refine wpQuiet_nil ?_
    rintro _ ⟨y, rfl⟩
    go_wp2
    go_ret
    exact ⟨rfl, hB _⟩
  | false =>
    have HR_ := hid hr
    clear hr
    refine wp_region_gr W3 (by kernel_rfl) (by kernel_rfl) ⟨_, rfl⟩ ?_
    repeat (go_big_quiet_step ((first | (go_at_call 13; exact alive_fn.q) | (go_at_call 12; exact (text_fn _).q) | (go_at_call 14; exact (rtext_fn _).q))))
    refine wpQuiet_nil ?_
    rintro _ ⟨y, rfl⟩
    go_wp2
    go_ret
    exact ⟨rfl, hB _⟩
end Go.Proofs.Ytdamljmbnkdjfaa
