/-
  The reference's First; both at no set at all. No condition but that there are at most 1000.
-/
import Derived.Test.YtcjbopobgpfjlaaRaI
namespace Go.Proofs.Ytcjbopobgpfjlaa
open Go.RowKit

/-- Is one of the first m better than the one at k? -/
def anyB (xs : List Sett) (k m : Nat) : Bool := (List.range m).any fun j => lessS (xs.getD j zeroS) (xs.getD k zeroS)
theorem anyB_succ (xs : List Sett) (k m : Nat) : anyB xs k (m + 1) = (anyB xs k m || lessS (xs.getD m zeroS) (xs.getD k zeroS)) := by
  unfold anyB
  rw [List.range_succ, List.any_append]
  simp
theorem anyB_all (xs : List Sett) (k : Nat) : anyB xs k xs.length = badS xs k := by
  unfold anyB badS
  rw [Bool.eq_iff_iff, List.any_eq_true, List.any_eq_true]
  constructor
  · rintro ⟨j, hj, h⟩
    have hj' := List.mem_range.1 hj
    exact ⟨xs.getD j zeroS, by rw [List.getD_eq_getElem?_getD, List.getElem?_eq_getElem hj']; exact List.getElem_mem hj', h⟩
  · rintro ⟨b, hb, h⟩
    obtain ⟨m, hm, rfl⟩ := List.getElem_of_mem hb
    exact ⟨m, List.mem_range.2 hm, by rw [List.getD_eq_getElem?_getD, List.getElem?_eq_getElem hm]; exact h⟩
set_option maxRecDepth 100000 in
set_option maxHeartbeats 1600000 in
theorem rfirst_some (xs : List Sett) (hl : xs.length ≤ 1000) (hR : ∀ k, k < xs.length → inR (xs.getD k zeroS).n) (b off cap : Nat) {W d : World} (hX : ∀ d, SetsAt (gr W d) b off xs) :
    Calls Try.prog 25 #[.slice (some ⟨b, off, none⟩) xs.length cap] (gr W d) fun e w' => e = .returned (.int .i64 (firstI xs)) ∧ ∃ m, w' = gr W m := by
  have hHit := firstI_hit xs
  have hNone := firstI_none xs
  generalize firstI xs = v at *
  have HHIT_ := hid hHit
  clear hHit
  have HNONE_ := hid hNone
  clear hNone
  have HR_ := hid hR
  clear hR
  have HX_ := hid hX
  clear hX
  go_enter Try.func25, Try.ntmps25
  go_wp2
  go_loopw [3] (fun i wr => ∃ (k : Nat) (x : World), k ≤ xs.length ∧ i = .int .i64 k ∧ (∀ j, j < k → badS xs j = true) ∧ wr = gr W x) (fun i _ => xs.length - (intOf i).toNat)
  case atStart => exact ⟨0, d, by omega, rfl, by omega, rfl⟩
  case round =>
    obtain ⟨k, x, hk, rfl, hbad, rfl⟩ := hrel
    have HBAD_ := hid hbad
    clear hbad
    by_cases hlt : k < xs.length
    · have s1 := fun d => (HX_.out d k hlt).1
      have s2 := fun d => (HX_.out d k hlt).2
      have hp := HR_.out k hlt
      have hsu := anyB_succ xs k
      have hal := anyB_all xs k
      have hz : anyB xs k 0 = false := rfl
      have HP_ := hid hp
      clear hp
      have HSU_ := hid hsu
      clear hsu
      have HAL_ := hid hal
      clear hal
      generalize xs.getD k zeroS = p at *
      go_wp2
      go_loopw [5, 4] (fun n o wr => ∃ (m : Nat) (y : World), m ≤ xs.length ∧ n = .int .i64 m ∧ o = .bool (anyB xs k m) ∧ wr = gr W y) (fun n _ _ => xs.length - (intOf n).toNat)
      case atStart => exact ⟨0, x, by omega, rfl, by rw [hz], rfl⟩
      case round =>
        obtain ⟨m, y, hm, rfl, rfl, rfl⟩ := hrel
        by_cases hmt : m < xs.length
        · have t1 := fun d => (HX_.out d m hmt).1
          have t2 := fun d => (HX_.out d m hmt).2
          have hq := HR_.out m hmt
          have hs := HSU_.out m
          generalize xs.getD m zeroS = q at *
          have hls := lessS_fn q p hq HP_.out
          have hlr := rlessS_fn q p hq HP_.out
          generalize lessS q p = bb at *
          cases ha : anyB xs k m with
          | true =>
            rw [ha] at hs
            have HS_ := hid hs
            clear hs
            have HLS_ := hid hls
            clear hls
            have HLR_ := hid hlr
            clear hlr
            go_wp2
            refine wp_region_gr W (by kernel_rfl) (by kernel_rfl) ⟨_, rfl⟩ ?_
            repeat (go_big_quiet_step (fail))
            refine wpQuiet_nil ?_
            rintro _ ⟨z, rfl⟩
            go_wp2
            go_roundw
            case rel => exact ⟨m + 1, _, by omega, by go_num, by rw [HS_.out]; rfl, rfl⟩
            case measure => simp [intOf]; omega
          | false =>
            rw [ha] at hs
            have HS_ := hid hs
            clear hs
            have HLS_ := hid hls
            clear hls
            have HLR_ := hid hlr
            clear hlr
            go_wp2
            refine wp_region_gr W (by kernel_rfl) (by kernel_rfl) ⟨_, rfl⟩ ?_
            repeat (go_big_quiet_step (((go_at_call 21; exact HLR_.out.q))))
            refine wpQuiet_nil ?_
            rintro _ ⟨z, rfl⟩
            go_wp2
            go_roundw
            case rel => exact ⟨m + 1, _, by omega, by go_num, by rw [HS_.out]; rfl, rfl⟩
            case measure => simp [intOf]; omega
        · obtain rfl : m = xs.length := by omega
          rw [HAL_.out]
          cases hb : badS xs k with
          | true =>
            have HB_ := hid hb
            clear hb
            go_wp2
            refine ⟨⟨k + 1, y, by omega, by go_num, fun j hj => ?_, rfl⟩, by simp [intOf]; omega⟩
            by_cases e : j = k
            · rw [e]; exact HB_.out
            · exact HBAD_.out j (by omega)
          | false =>
            have e : v = (k : Int) := HHIT_.out k hlt HBAD_.out hb
            subst e
            go_wp2
            go_ret
            exact ⟨rfl, y, rfl⟩
    · obtain rfl : k = xs.length := by omega
      have e : v = -1 := HNONE_.out HBAD_.out
      subst e
      go_wp2
      go_ret
      exact ⟨rfl, x, rfl⟩
set_option maxRecDepth 100000 in
theorem first_nil (a : Option Addr) (cap : Nat) {W d : World} : Calls Try.prog 24 #[.slice a 0 cap] (gr W d) fun e w' => e = .returned (.int .i64 (firstI [])) ∧ ∃ m, w' = gr W m := by
  rw [show firstI [] = -1 from rfl]
  go_enter Try.func24, Try.ntmps24
  go_wp2
  go_step3
  go_wp2
  go_step3
  go_wp2
  go_loopw [9] (fun i wr => i = .int .i64 0 ∧ wr = gr W d) (fun _ _ => 0)
  case atStart => exact ⟨rfl, rfl⟩
  case round =>
    obtain ⟨rfl, rfl⟩ := hrel
    go_wp2
    rw [Exit.noGoto_ret]
    go_ret
    exact ⟨rfl, d, rfl⟩
set_option maxRecDepth 100000 in
theorem rfirst_nil (a : Option Addr) (cap : Nat) {W d : World} : Calls Try.prog 25 #[.slice a 0 cap] (gr W d) fun e w' => e = .returned (.int .i64 (firstI [])) ∧ ∃ m, w' = gr W m := by
  rw [show firstI [] = -1 from rfl]
  go_enter Try.func25, Try.ntmps25
  go_wp2
  go_loopw [3] (fun i wr => i = .int .i64 0 ∧ wr = gr W d) (fun _ _ => 0)
  case atStart => exact ⟨rfl, rfl⟩
  case round =>
    obtain ⟨rfl, rfl⟩ := hrel
    go_wp2
    go_ret
    exact ⟨rfl, d, rfl⟩
/-- Sets that stand in a slice. -/
def SetsIn (w : World) (a : Option Addr) (xs : List Sett) : Prop := xs = [] ∨ ∃ b off, a = some ⟨b, off, none⟩ ∧ SetsAt w b off xs
theorem first_fn (xs : List Sett) (hl : xs.length ≤ 1000) (hR : ∀ k, k < xs.length → inR (xs.getD k zeroS).n) (a : Option Addr) (cap : Nat) {W d : World} (hX : ∀ d, SetsIn (gr W d) a xs) :
    Calls Try.prog 24 #[.slice a xs.length cap] (gr W d) fun e w' => e = .returned (.int .i64 (firstI xs)) ∧ ∃ m, w' = gr W m := by
  by_cases h : xs = []
  · subst h
    exact first_nil a cap
  · obtain ⟨b, off, rfl, _⟩ := (hX W).resolve_left h
    refine first_some xs hl hR b off cap fun d => ?_
    obtain ⟨b', off', e, hs⟩ := (hX d).resolve_left h
    cases e
    exact hs
theorem rfirst_fn (xs : List Sett) (hl : xs.length ≤ 1000) (hR : ∀ k, k < xs.length → inR (xs.getD k zeroS).n) (a : Option Addr) (cap : Nat) {W d : World} (hX : ∀ d, SetsIn (gr W d) a xs) :
    Calls Try.prog 25 #[.slice a xs.length cap] (gr W d) fun e w' => e = .returned (.int .i64 (firstI xs)) ∧ ∃ m, w' = gr W m := by
  by_cases h : xs = []
  · subst h
    exact rfirst_nil a cap
  · obtain ⟨b, off, rfl, _⟩ := (hX W).resolve_left h
    refine rfirst_some xs hl hR b off cap fun d => ?_
    obtain ⟨b', off', e, hs⟩ := (hX d).resolve_left h
    cases e
    exact hs
end Go.Proofs.Ytcjbopobgpfjlaa
