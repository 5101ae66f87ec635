/-
  The law RankFirsts: it answers true. No condition.
-/
import Derived.Test.YtcjbopobgpfjlaaRaM
namespace Go.Proofs.Ytcjbopobgpfjlaa
open Go.RowKit

theorem SetsIn.gr {w : World} {a : Option Addr} {xs : List Sett} (h : SetsIn w a xs) (d : World) : SetsIn (gr w d) a xs := by
  rcases h with h | ⟨b, off, e, h⟩
  · exact .inl h
  · by_cases h0 : xs = []
    · exact .inl h0
    · refine .inr ⟨b, off, e, ?_⟩
      have hb : b < w.heap.size := row_lt (by
        intro e
        have := (h 0 (List.length_pos_iff.2 h0)).1
        rw [e] at this
        simp at this)
      intro k hk
      rw [Below_row (gr_below w d) hb]
      exact h k hk
theorem firstI_spec (xs : List Sett) : firstI xs = -1 ∨ ∃ k, k < xs.length ∧ firstI xs = (k : Int) ∧ badS xs k = false := by
  unfold firstI
  cases h : (List.range xs.length).find? (fun j => !badS xs j) with
  | none => exact .inl rfl
  | some j =>
    right
    have h1 := List.find?_some h
    have h2 := List.mem_of_find?_eq_some h
    exact ⟨j, List.mem_range.1 h2, rfl, by simpa using h1⟩
theorem bad_not {xs : List Sett} {k : Nat} (h : badS xs k = false) (m : Nat) (hm : m < xs.length) : lessS (xs.getD m zeroS) (xs.getD k zeroS) = false := by
  cases hb : lessS (xs.getD m zeroS) (xs.getD k zeroS) with
  | false => rfl
  | true => rw [bad_of xs k m hm hb] at h; cases h
theorem sets_at {w : World} {b off : Nat} {xs : List Sett} (h : ∀ d, SetsIn (gr w d) (some ⟨b, off, none⟩) xs) (h0 : xs ≠ []) : ∀ d, SetsAt (gr w d) b off xs := fun d => by
  obtain ⟨b', off', e, hs⟩ := (h d).resolve_left h0
  cases e
  exact hs
set_option maxRecDepth 100000 in
set_option maxHeartbeats 1600000 in
theorem firsts_fn (xs : List Sett) (a : Option Addr) (cap : Nat) (hm : xs.length ≤ 9223372036854775807) (hR : ∀ k, k < xs.length → inR (xs.getD k zeroS).n) (w : World) (hX : SetsIn w a xs) :
    Calls Try.prog 5 #[.slice a xs.length cap] w fun e w' => e = .returned (.bool true) ∧ Below w.heap.size w w' := by
  have HX := hid (fun d => hX.gr d)
  clear hX
  have HR_ := hid hR
  clear hR
  go_enter Try.func5, Try.ntmps5
  rw [gr_self w]
  by_cases hl : 60 < xs.length
  · have h2 : (60 : Int) < (xs.length : Int) := by omega
    clear hl hm
    go_wp2_with fail
    refine alive7_fn.c fun m => ?_
    dsimp only
    go_wp2
    go_ret
    exact ⟨rfl, by rw [← gr_self w]; exact gr_below w _⟩
  · have h2 : ¬ (60 : Int) < (xs.length : Int) := by omega
    have h3 : xs.length ≤ 1000 := by omega
    clear hl hm
    go_wp2_with fail
    refine (first_fn xs h3 HR_.out a cap HX.out).mono ?_
    rintro e w' ⟨rfl, m, rfl⟩
    dsimp only
    go_wp2_with fail
    refine (rfirst_fn xs h3 HR_.out a cap HX.out).mono ?_
    rintro e w' ⟨rfl, m, rfl⟩
    dsimp only
    rcases firstI_spec xs with h | ⟨k, hk, h, hb⟩
    · rw [h]
      clear h
      have h4 : ¬ ((xs.length : Int) ≤ -1) := by omega
      go_wp2
      go_loopw [28] (fun i wr => ∃ (j : Nat) (y : World), j ≤ xs.length ∧ i = .int .i64 j ∧ wr = gr w y) (fun i _ => xs.length - (intOf i).toNat)
      case atStart => exact ⟨0, m, by omega, rfl, rfl⟩
      case round =>
        obtain ⟨j, y, hj, rfl, rfl⟩ := hrel
        by_cases hjt : j < xs.length
        · have hne : xs ≠ [] := by intro e; rw [e] at hjt; simp at hjt
          obtain ⟨b, off, rfl, _⟩ := (HX.out w).resolve_left hne
          have hA := sets_at HX.out hne
          have s1 := fun d => (hA d j hjt).1
          have s2 := fun d => (hA d j hjt).2
          clear hA
          generalize xs.getD j zeroS = q at *
          go_wp2_with fail
          obtain ⟨W1, hE, rp, op, u1, _⟩ := newblk w y (sa zeroS) (sa q) 29 (by simp)
          rw [hE]
          clear hE
          generalize (gr w y).heap.size = b4 at *
          go_wp2
          refine wp_region_gr W1 (by kernel_rfl) (by kernel_rfl) ⟨_, rfl⟩ ?_
          repeat (go_big_quiet_step (fail))
          refine wpQuiet_nil ?_
          rintro _ ⟨z, rfl⟩
          go_wp2
          go_roundw
          case rel =>
            obtain ⟨z1, e1⟩ := u1 z
            exact ⟨j + 1, z1, by omega, by go_num, e1⟩
          case measure => simp [intOf]; omega
        · obtain rfl : j = xs.length := by omega
          go_wp2_with fail
          refine alive7_fn.c fun m => ?_
          dsimp only
          go_wp2
          go_ret
          exact ⟨rfl, by rw [← gr_self w]; exact gr_below w _⟩
    · rw [h]
      clear h
      have h4 : ¬ ((xs.length : Int) ≤ k) := by omega
      have h5 : ¬ ((k : Int) < -1) := by omega
      have hls := fun j (hj : j < xs.length) => (lessS_fn (xs.getD j zeroS) (xs.getD k zeroS) (HR_.out j hj) (HR_.out k hk)).at_eq (congrArg Value.bool (bad_not hb j hj))
      have HLS_ := hid hls
      clear hls
      go_wp2
      go_loopw [28] (fun i wr => ∃ (j : Nat) (y : World), j ≤ xs.length ∧ i = .int .i64 j ∧ wr = gr w y) (fun i _ => xs.length - (intOf i).toNat)
      case atStart => exact ⟨0, m, by omega, rfl, rfl⟩
      case round =>
        obtain ⟨j, y, hj, rfl, rfl⟩ := hrel
        by_cases hjt : j < xs.length
        · have hne : xs ≠ [] := by intro e; rw [e] at hjt; simp at hjt
          obtain ⟨b, off, rfl, _⟩ := (HX.out w).resolve_left hne
          have hA := sets_at HX.out hne
          have s1 := fun d => (hA d j hjt).1
          have s2 := fun d => (hA d j hjt).2
          have hX1 := fun d => hA d k hk
          have hls := HLS_.out j hjt
          generalize xs.getD j zeroS = q at *
          generalize xs.getD k zeroS = p at *
          have HLS_1 := hid hls
          clear hls
          go_wp2_with fail
          obtain ⟨W1, hE, rp, op, u1, _⟩ := newblk w y (sa zeroS) (sa q) 29 (by simp)
          rw [hE]
          clear hE
          generalize (gr w y).heap.size = b4 at *
          have t1 := fun d => (upT u1 (T := fun w => off + k * 32 + 32 ≤ (row? w b).size) (fun d => (hX1 d).1) d)
          have t2 := fun d => (upT u1 (T := fun w => sub (row? w b) (off + k * 32) 32 = sa p) (fun d => (hX1 d).2) d)
          clear hX1 s1 s2 hA
          go_wp2
          refine wp_region_gr W1 (by kernel_rfl) (by kernel_rfl) ⟨_, rfl⟩ ?_
          repeat (go_big_quiet_step (((go_at_call 20; exact HLS_1.out.q))))
          refine wpQuiet_nil ?_
          rintro _ ⟨z, rfl⟩
          go_wp2
          go_roundw
          case rel =>
            obtain ⟨z1, e1⟩ := u1 z
            exact ⟨j + 1, z1, by omega, by go_num, e1⟩
          case measure => simp [intOf]; omega
        · obtain rfl : j = xs.length := by omega
          go_wp2_with fail
          refine alive7_fn.c fun m => ?_
          dsimp only
          go_wp2
          go_ret
          exact ⟨rfl, by rw [← gr_self w]; exact gr_below w _⟩
end Go.Proofs.Ytcjbopobgpfjlaa
