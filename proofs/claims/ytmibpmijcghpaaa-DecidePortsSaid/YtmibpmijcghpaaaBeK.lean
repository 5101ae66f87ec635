/-
  The walks of both Masters and of ints. No condition but that there are at most 1000.
-/
import Derived.Test.YtmibpmijcghpaaaBeJ
namespace Go.Proofs.Ytmibpmijcghpaaa
open Go.RowKit

def isM (c : Int) : Bool := decide (1 ≤ c) && decide (c ≤ 3)
def mst (cs : List Int) (m : Nat) : Nat := (cs.take m).countP isM
theorem mst_succ (cs : List Int) (m : Nat) (h : m < cs.length) : mst cs (m + 1) = mst cs m + if isM (cs.getD m 0) then 1 else 0 := by
  unfold mst
  rw [take_snoc' cs 0 m h, List.countP_append, List.countP_singleton]
theorem mst_le (cs : List Int) (m : Nat) : mst cs m ≤ m := Nat.le_trans List.countP_le_length (by simp; omega)
theorem i1_at {W : World} {a : Option Addr} {cs : List Int} (hX : ∀ d, RowsIn i1 0 1 (gr W d) a cs) (k : Nat) (hk : k < cs.length) : ∃ b off, a = some ⟨b, off, none⟩ ∧ ∀ d, (row? (gr W d) b)[off + k]? = some (.int .i64 (cs.getD k 0)) := by
  have h0 : cs ≠ [] := by intro e; rw [e] at hk; simp at hk
  obtain ⟨b, off, rfl, _⟩ := (hX W).resolve_left h0
  refine ⟨b, off, rfl, fun d => ?_⟩
  obtain ⟨b', off', e, hs⟩ := (hX d).resolve_left h0
  cases e
  exact ints_at hs k hk
set_option maxRecDepth 100000 in
theorem masters_fn (cs : List Int) (hl : cs.length ≤ 1000) (a : Option Addr) (cap : Nat) {W : World} (hX : ∀ d, RowsIn i1 0 1 (gr W d) a cs) :
    Fg Try.prog 14 #[.slice a cs.length cap] (.int .i64 (mst cs cs.length)) W := by
  intro d
  have HX_ := hid hX
  clear hX
  go_enter Try.func14, Try.ntmps14
  go_wp2
  go_loopw [3, 8] (fun v i wr => ∃ (j : Nat), j ≤ cs.length ∧ i = .int .i64 j ∧ v = .int .i64 (mst cs j) ∧ wr = gr W d) (fun _ i _ => cs.length - (intOf i).toNat)
  case atStart => exact ⟨0, by omega, rfl, rfl, rfl⟩
  case round =>
    obtain ⟨j, hj, rfl, rfl, rfl⟩ := hrel
    by_cases hjt : j < cs.length
    · obtain ⟨b, off, rfl, hc⟩ := i1_at HX_.out j hjt
      have hs := mst_succ cs j hjt
      have hle := mst_le cs j
      generalize cs.getD j 0 = c at *
      generalize mst cs j = m at *
      by_cases h1 : 1 ≤ c
      · by_cases h2 : c ≤ 3
        · have e : isM c = true := by simp [isM, h1, h2]
          rw [e, if_pos rfl] at hs
          have HS_ := hid hs
          clear hs
          go_wp2
          exact ⟨⟨j + 1, by omega, by go_num, by rw [HS_.out]; go_num, by first | trivial | rfl⟩, by simp [intOf]; omega⟩
        · have e : isM c = false := by simp [isM, h2]
          rw [e, if_neg (by simp)] at hs
          have HS_ := hid hs
          clear hs
          go_wp2
          exact ⟨⟨j + 1, by omega, by go_num, by rw [HS_.out]; go_num, by first | trivial | rfl⟩, by simp [intOf]; omega⟩
      · have e : isM c = false := by simp [isM, h1]
        rw [e, if_neg (by simp)] at hs
        have HS_ := hid hs
        clear hs
        go_wp2
        exact ⟨⟨j + 1, by omega, by go_num, by rw [HS_.out]; go_num, by first | trivial | rfl⟩, by simp [intOf]; omega⟩
    · obtain rfl : j = cs.length := by omega
      go_wp2
      go_ret
      exact ⟨rfl, d, rfl⟩
set_option maxRecDepth 100000 in
theorem rmasters_fn (cs : List Int) (hl : cs.length ≤ 1000) (a : Option Addr) (cap : Nat) {W : World} (hX : ∀ d, RowsIn i1 0 1 (gr W d) a cs) :
    Fg Try.prog 15 #[.slice a cs.length cap] (.int .i64 (mst cs cs.length)) W := by
  intro d
  have HX_ := hid hX
  clear hX
  go_enter Try.func15, Try.ntmps15
  go_wp2
  go_loopw [3, 4] (fun v i wr => ∃ (j : Nat), j ≤ cs.length ∧ i = .int .i64 j ∧ v = .int .i64 (mst cs j) ∧ wr = gr W d) (fun _ i _ => cs.length - (intOf i).toNat)
  case atStart => exact ⟨0, by omega, rfl, rfl, rfl⟩
  case round =>
    obtain ⟨j, hj, rfl, rfl, rfl⟩ := hrel
    by_cases hjt : j < cs.length
    · obtain ⟨b, off, rfl, hc⟩ := i1_at HX_.out j hjt
      have hs := mst_succ cs j hjt
      have hle := mst_le cs j
      generalize cs.getD j 0 = c at *
      generalize mst cs j = m at *
      by_cases h1 : c = 1
      · subst h1
        rw [show isM 1 = true from rfl, if_pos rfl] at hs
        have HS_ := hid hs
        clear hs
        go_wp2
        exact ⟨⟨j + 1, by omega, by go_num, by rw [HS_.out]; go_num, by first | trivial | rfl⟩, by simp [intOf]; omega⟩
      by_cases h2 : c = 2
      · subst h2
        rw [show isM 2 = true from rfl, if_pos rfl] at hs
        have HS_ := hid hs
        clear hs
        go_wp2
        exact ⟨⟨j + 1, by omega, by go_num, by rw [HS_.out]; go_num, by first | trivial | rfl⟩, by simp [intOf]; omega⟩
      by_cases h3 : c = 3
      · subst h3
        rw [show isM 3 = true from rfl, if_pos rfl] at hs
        have HS_ := hid hs
        clear hs
        go_wp2
        exact ⟨⟨j + 1, by omega, by go_num, by rw [HS_.out]; go_num, by first | trivial | rfl⟩, by simp [intOf]; omega⟩
      have e : isM c = false := by unfold isM; rw [Bool.and_eq_false_iff, decide_eq_false_iff_not, decide_eq_false_iff_not]; omega
      rw [e, if_neg (by simp)] at hs
      have HS_ := hid hs
      clear hs
      have t0 : (c == 1 || c == 2 || c == 3) = false := by simp [h1, h2, h3]
      go_wp2
      exact ⟨⟨j + 1, by omega, by go_num, by rw [HS_.out]; go_num, by first | trivial | rfl⟩, by simp [intOf]; omega⟩
    · obtain rfl : j = cs.length := by omega
      go_wp2
      go_ret
      exact ⟨rfl, d, rfl⟩
set_option maxRecDepth 100000 in
theorem ints_fn (cs : List Int) (hl : cs.length ≤ 1000) (a a' : Option Addr) (cap cap' : Nat) {W : World} (hX : ∀ d, RowsIn i1 0 1 (gr W d) a cs) (hY : ∀ d, RowsIn i1 0 1 (gr W d) a' cs) :
    Fg Try.prog 13 #[.slice a cs.length cap, .slice a' cs.length cap'] (.bool true) W := by
  intro d
  have HX_ := hid hX
  clear hX
  have HY_ := hid hY
  clear hY
  go_enter Try.func13, Try.ntmps13
  go_wp2
  go_loopw [13] (fun i wr => ∃ (j : Nat) (x : World), j ≤ cs.length ∧ i = .int .i64 j ∧ wr = gr W x) (fun i _ => cs.length - (intOf i).toNat)
  case atStart => exact ⟨0, d, by omega, rfl, rfl⟩
  case round =>
    obtain ⟨j, x, hj, rfl, rfl⟩ := hrel
    by_cases hjt : j < cs.length
    · obtain ⟨b, off, rfl, hc⟩ := i1_at HX_.out j hjt
      obtain ⟨b', off', rfl, hc'⟩ := i1_at HY_.out j hjt
      generalize cs.getD j 0 = c at *
      go_upto_region 6 with (fail)
      refine wp_region_gr W (by kernel_rfl) (by kernel_rfl) ⟨_, rfl⟩ ?_
      repeat (go_big_quiet_step (fail))
      refine wpQuiet_nil ?_
      rintro _ ⟨y, rfl⟩
      go_wp2
      exact ⟨⟨j + 1, y, by omega, by go_num, rfl⟩, by simp [intOf]; omega⟩
    · obtain rfl : j = cs.length := by omega
      go_wp2
      go_ret
      exact ⟨rfl, x, rfl⟩
end Go.Proofs.Ytmibpmijcghpaaa
