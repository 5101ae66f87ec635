/-
  A clock that is read from a text, the program's way: the digits' values. No condition.
-/
import Derived.Test.YtdamljmbnkdjfaaIdT
namespace Go.Proofs.Ytdamljmbnkdjfaa
open Go.RowKit

/-- What a digit is worth; -1: it is none. -/
def valD (x : Int) : Int := if 48 ≤ x ∧ x ≤ 57 then x - 48 else if 97 ≤ x ∧ x ≤ 102 then x - 97 + 10 else -1
set_option maxHeartbeats 400000 in
theorem value_fn (x : Int) (h0 : 0 ≤ x) (h1 : x < 256) : Fn Try.prog 26 #[.int .u8 x] (.int .i64 (valD x)) := by
  intro w
  by_cases a : 48 ≤ x
  · by_cases b : x ≤ 57
    · have hv : valD x = x - 48 := by unfold valD; rw [if_pos ⟨a, b⟩]
      have HV_ := hid hv
      clear hv
      go_enter Try.func26, Try.ntmps26
      go_wp2
      go_ret
      exact ⟨ret_int (by rw [HV_.out]), Below.refl _ _⟩
    · by_cases c : 97 ≤ x
      · by_cases d : x ≤ 102
        · have hv : valD x = x - 97 + 10 := by unfold valD; rw [if_neg (by omega), if_pos ⟨c, d⟩]
          have HV_ := hid hv
          clear hv
          go_enter Try.func26, Try.ntmps26
          go_wp2
          go_ret
          exact ⟨ret_int (by rw [HV_.out]), Below.refl _ _⟩
        · have hv : valD x = -1 := by unfold valD; rw [if_neg (by omega), if_neg (by omega)]
          have HV_ := hid hv
          clear hv
          go_enter Try.func26, Try.ntmps26
          go_wp2
          go_ret
          exact ⟨ret_int (by rw [HV_.out]), Below.refl _ _⟩
      · have hv : valD x = -1 := by unfold valD; rw [if_neg (by omega), if_neg (by omega)]
        have HV_ := hid hv
        clear hv
        go_enter Try.func26, Try.ntmps26
        go_wp2
        go_ret
        exact ⟨ret_int (by rw [HV_.out]), Below.refl _ _⟩
  · have hv : valD x = -1 := by unfold valD; rw [if_neg (by omega), if_neg (by omega)]
    have HV_ := hid hv
    clear hv
    go_enter Try.func26, Try.ntmps26
    go_wp2
    go_ret
    exact ⟨ret_int (by rw [HV_.out]), Below.refl _ _⟩
theorem valD_rng (x : Int) : -1 ≤ valD x ∧ valD x ≤ 15 := by
  unfold valD
  split
  · omega
  · split <;> omega

/-- A text's bytes. -/
def sl (s : ByteArray) : List Int := s.data.toList.map fun b => (b.toNat : Int)
theorem sl_length (s : ByteArray) : (sl s).length = s.size := by simp [sl]
theorem sl_at (s : ByteArray) (k : Nat) (hk : k < s.size) : (sl s).getD k 0 = (s[k].toNat : Int) := by
  have h' : k < s.data.size := hk
  simp [sl, Array.getElem?_eq_getElem h']
  rfl
theorem sl_rng (s : ByteArray) (k : Nat) : 0 ≤ (sl s).getD k 0 ∧ (sl s).getD k 0 < 256 := by
  by_cases h : k < s.size
  · rw [sl_at s k h]
    have := s[k].toNat_lt
    omega
  · have : (sl s).length ≤ k := by rw [sl_length]; omega
    simp [List.getD, List.getElem?_eq_none this]
theorem ixStr (s : ByteArray) (k : Nat) (n : Int) (hn : n = k) (hk : k < s.size) (w : World) : (Instr.index 9 (.string s) (.int .i64 n)).run Try.prog w = .ok (.int .u8 ((sl s).getD k 0)) w := by
  subst hn
  rw [sl_at s k hk]
  unfold Instr.index
  simp [Sem.run_bind, asIntOf, run_underlying Try.underlying9, hk]

/-- Two digits' byte, and whether they are digits. -/
def okP (a b : Int) : Bool := decide (0 ≤ valD a) && decide (0 ≤ valD b)
def valP (a b : Int) : Int := 16 * valD a + valD b
end Go.Proofs.Ytdamljmbnkdjfaa
