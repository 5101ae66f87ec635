/-
  The walk of the reference's All. No condition but the numbers' range, and that there are at most 1000.
-/
import Derived.Test.YtcjbopobgpfjlaaBeD
namespace Go.Proofs.Ytcjbopobgpfjlaa
open Go.RowKit

theorem sub_get {A B : Array Value} {o n : Nat} (h : sub A o n = B) (hs : o + n ≤ A.size) (j : Nat) (hj : j < n) : A[o + j]? = B[j]? := by
  rw [← h]
  unfold sub
  rw [Array.getElem?_extract, if_pos (by omega)]
theorem sub_in {A : Array Value} {o n : Nat} (k m : Nat) (h : k + m ≤ n) : sub (sub A o n) k m = sub A (o + k) m := by
  unfold sub
  rw [Array.extract_extract, Nat.min_eq_left (by omega), Nat.add_assoc]
/-- Is one of the first m heard, and better than the one at k? -/
def anyC (xs : List Cho) (k m : Nat) : Bool := (List.range m).any fun j => (xs.getD j zeroCh).is && lessS (xs.getD j zeroCh).s (xs.getD k zeroCh).s
theorem anyC_succ (xs : List Cho) (k m : Nat) : anyC xs k (m + 1) = (anyC xs k m || ((xs.getD m zeroCh).is && lessS (xs.getD m zeroCh).s (xs.getD k zeroCh).s)) := by
  unfold anyC
  rw [List.range_succ, List.any_append]
  simp
theorem anyC_all (xs : List Cho) (k : Nat) : anyC xs k xs.length = badC xs k := by
  unfold anyC badC
  rw [Bool.eq_iff_iff, List.any_eq_true, List.any_eq_true]
  constructor
  · rintro ⟨j, hj, h⟩
    have hj' := List.mem_range.1 hj
    exact ⟨xs.getD j zeroCh, by rw [List.getD_eq_getElem?_getD, List.getElem?_eq_getElem hj']; exact List.getElem_mem hj', h⟩
  · rintro ⟨b, hb, h⟩
    obtain ⟨m, hm, rfl⟩ := List.getElem_of_mem hb
    exact ⟨m, List.mem_range.2 hm, by rw [List.getD_eq_getElem?_getD, List.getElem?_eq_getElem hm]; exact h⟩
set_option maxRecDepth 100000 in
set_option maxHeartbeats 2000000 in
theorem rall_some (xs : List Cho) (hl : xs.length ≤ 1000) (hR : ∀ k, k < xs.length → inR (xs.getD k zeroCh).s.n) (b off cap : Nat) {W d : World} (hX : ∀ d, RowsAt cha zeroCh 33 (gr W d) b off xs) :
    Calls Try.prog 29 #[.slice (some ⟨b, off, none⟩) xs.length cap] (gr W d) fun e w' => e = .returned (.int .i64 (allC xs)) ∧ ∃ m, w' = gr W m := by
  have hHit := allC_hit xs
  have hNone := allC_none xs
  generalize allC xs = v at *
  have HHIT_ := hid hHit
  clear hHit
  have HNONE_ := hid hNone
  clear hNone
  have HR_ := hid hR
  clear hR
  have HX_ := hid hX
  clear hX
  go_enter Try.func29, Try.ntmps29
  go_wp2
  go_loopw [3] (fun i wr => ∃ (k : Nat) (x : World), k ≤ xs.length ∧ i = .int .i64 k ∧ (∀ j, j < k → okC xs j = false) ∧ wr = gr W x) (fun i _ => xs.length - (intOf i).toNat)
  case atStart => exact ⟨0, d, by omega, rfl, by omega, rfl⟩
  case round =>
    obtain ⟨k, x, hk, rfl, hbad, rfl⟩ := hrel
    have HBAD_ := hid hbad
    clear hbad
    by_cases hlt : k < xs.length
    · have s0 := fun d => (HX_.out d k hlt).1
      have s2 := fun d => (HX_.out d k hlt).2
      have s3 : ∀ d, (row? (gr W d) b)[off + k * 33 + 32]? = some (.bool (xs.getD k zeroCh).is) := fun d => by rw [sub_get (s2 d) (s0 d) 32 (by omega), cha_32]
      have s4 : ∀ d, sub (row? (gr W d) b) (off + k * 33) 32 = sa (xs.getD k zeroCh).s := fun d => by rw [← cha_set, ← s2 d, sub_in 0 32 (by omega), Nat.add_zero]
      have s1 : ∀ d, off + k * 33 + 32 ≤ (row? (gr W d) b).size := fun d => by have := s0 d; omega
      have hp := HR_.out k hlt
      have hsu := anyC_succ xs k
      have hal := anyC_all xs k
      have hz : anyC xs k 0 = false := rfl
      have hok : okC xs k = ((xs.getD k zeroCh).is && !badC xs k) := rfl
      have HP_ := hid hp
      clear hp
      have HSU_ := hid hsu
      clear hsu
      have HAL_ := hid hal
      clear hal
      have HOK_ := hid hok
      clear hok
      generalize xs.getD k zeroCh = p at *
      obtain ⟨p, i⟩ := p
      dsimp only at *
      clear s0 s2
      go_wp2
      go_loopw [5, 4] (fun n o wr => ∃ (m : Nat) (y : World), m ≤ xs.length ∧ n = .int .i64 m ∧ o = .bool (i && !anyC xs k m) ∧ wr = gr W y) (fun n _ _ => xs.length - (intOf n).toNat)
      case atStart => exact ⟨0, x, by omega, rfl, by rw [hz]; simp, rfl⟩
      case round =>
        clear s3
        obtain ⟨m, y, hm, rfl, rfl, rfl⟩ := hrel
        by_cases hmt : m < xs.length
        · have t0 := fun d => (HX_.out d m hmt).1
          have t2 := fun d => (HX_.out d m hmt).2
          have t3 : ∀ d, (row? (gr W d) b)[off + m * 33 + 32]? = some (.bool (xs.getD m zeroCh).is) := fun d => by rw [sub_get (t2 d) (t0 d) 32 (by omega), cha_32]
          have t4 : ∀ d, sub (row? (gr W d) b) (off + m * 33) 32 = sa (xs.getD m zeroCh).s := fun d => by rw [← cha_set, ← t2 d, sub_in 0 32 (by omega), Nat.add_zero]
          have t1 : ∀ d, off + m * 33 + 32 ≤ (row? (gr W d) b).size := fun d => by have := t0 d; omega
          have hq := HR_.out m hmt
          have hs := HSU_.out m
          generalize xs.getD m zeroCh = q at *
          obtain ⟨q, jj⟩ := q
          dsimp only at *
          have hlr := rlessS_fn q p hq HP_.out
          generalize lessS q p = bb at *
          generalize anyC xs k m = am at *
          clear t0 t2
          cases jj with
          | false =>
            have HS_ := hid hs
            clear hs
            clear hlr
            go_wp2
            refine wp_region_gr W (by kernel_rfl) (by kernel_rfl) ⟨_, rfl⟩ ?_
            repeat (go_big_quiet_step (fail))
            refine wpQuiet_nil ?_
            rintro _ ⟨z, rfl⟩
            go_wp2
            go_roundw
            case rel => exact ⟨m + 1, _, by omega, by go_num, by rw [HS_.out]; simp, rfl⟩
            case measure => simp [intOf]; omega
          | true =>
            cases bb with
            | true =>
              have HS_ := hid hs
              clear hs
              have HLR_ := hid hlr
              clear hlr
              go_wp2
              refine wp_region_gr W (by kernel_rfl) (by kernel_rfl) ⟨_, rfl⟩ ?_
              repeat (go_big_quiet_step (((go_at_call 21; exact HLR_.out.q))))
              refine wpQuiet_nil ?_
              rintro _ ⟨z, rfl⟩
              go_wp2
              go_roundw
              case rel => exact ⟨m + 1, _, by omega, by go_num, by rw [HS_.out]; simp, rfl⟩
              case measure => simp [intOf]; omega
            | false =>
              have HS_ := hid hs
              clear hs
              have HLR_ := hid hlr
              clear hlr
              go_wp2
              refine wp_region_gr W (by kernel_rfl) (by kernel_rfl) ⟨_, rfl⟩ ?_
              repeat (go_big_quiet_step (((go_at_call 21; exact HLR_.out.q))))
              refine wpQuiet_nil ?_
              rintro _ ⟨z, rfl⟩
              go_wp2
              go_roundw
              case rel => exact ⟨m + 1, _, by omega, by go_num, by rw [HS_.out]; simp, rfl⟩
              case measure => simp [intOf]; omega
        · obtain rfl : m = xs.length := by omega
          rw [HAL_.out, ← HOK_.out]
          cases hb : okC xs k with
          | false =>
            have HB_ := hid hb
            clear hb
            go_wp2
            refine ⟨⟨k + 1, y, by omega, by go_num, fun j hj => ?_, rfl⟩, by simp [intOf]; omega⟩
            by_cases e : j = k
            · rw [e]; exact HB_.out
            · exact HBAD_.out j (by omega)
          | true =>
            have e : v = (k : Int) := HHIT_.out k hlt HBAD_.out hb
            subst e
            go_wp2
            go_ret
            exact ⟨rfl, y, rfl⟩
    · obtain rfl : k = xs.length := by omega
      have e : v = -1 := HNONE_.out HBAD_.out
      subst e
      go_wp2
      go_ret
      exact ⟨rfl, x, rfl⟩
set_option maxRecDepth 100000 in
theorem rall_nil (a : Option Addr) (cap : Nat) {W d : World} : Calls Try.prog 29 #[.slice a 0 cap] (gr W d) fun e w' => e = .returned (.int .i64 (allC [])) ∧ ∃ m, w' = gr W m := by
  rw [show allC [] = -1 from rfl]
  go_enter Try.func29, Try.ntmps29
  go_wp2
  go_loopw [3] (fun i wr => i = .int .i64 0 ∧ wr = gr W d) (fun _ _ => 0)
  case atStart => exact ⟨rfl, rfl⟩
  case round =>
    obtain ⟨rfl, rfl⟩ := hrel
    go_wp2
    go_ret
    exact ⟨rfl, d, rfl⟩
theorem rall_fn (xs : List Cho) (hl : xs.length ≤ 1000) (hR : ∀ k, k < xs.length → inR (xs.getD k zeroCh).s.n) (a : Option Addr) (cap : Nat) {W : World} (hX : ∀ d, RowsIn cha zeroCh 33 (gr W d) a xs) :
    Fg Try.prog 29 #[.slice a xs.length cap] (.int .i64 (allC xs)) W := by
  intro d
  by_cases h : xs = []
  · subst h
    exact rall_nil a cap
  · obtain ⟨b, off, rfl, _⟩ := (hX W).resolve_left h
    refine rall_some xs hl hR b off cap fun d => ?_
    obtain ⟨b', off', e, hs⟩ := (hX d).resolve_left h
    cases e
    exact hs
end Go.Proofs.Ytcjbopobgpfjlaa
