/-
  The walk of what the program's decider hands back. No condition but the numbers' range, and that there are at most 1000.
-/
import Derived.Test.YtmibpmijcghpaaaBeG
namespace Go.Proofs.Ytmibpmijcghpaaa
open Go.RowKit

set_option maxRecDepth 100000 in
set_option maxHeartbeats 2000000 in
theorem dec_fn (me : Sett) (xs : List Cho) (hl : xs.length ≤ 1000) (hR : ∀ k, k < xs.length → inR (xs.getD k zeroCh).s.n) (hM : inR me.n) {W : World} {a : Option Addr} {cap c3 c8 c5 c7 c6 : Nat} (hd : Dec W me xs a cap c3 c8 c5 c7 c6) (k st : Int) :
    Fg Try.prog 24 #[.int .i64 k, .int .i64 st, pt c3, pt c8, pt c5, pt c7, pt c6] (.int .i64 (portC me xs k st)) W := by
  intro d
  obtain ⟨r3, r8, r5, r7, r6, hX⟩ := hd
  have z3 : c3 < (gr W d).heap.size := row_lt (by rw [r3]; simp)
  by_cases h1 : k < 0
  · have hv : portC me xs k st = 0 := by unfold portC; rw [if_pos (.inl h1)]
    rw [hv]
    clear hR hX hM hv
    go_enter Try.func24, Try.ntmps24
    go_wp2
    go_ret
    exact ⟨rfl, d, rfl⟩
  · by_cases h2 : (xs.length : Int) ≤ k
    · have hv : portC me xs k st = 0 := by unfold portC; rw [if_pos (.inr (.inl h2))]
      rw [hv]
      clear hR hX hM hv
      go_enter Try.func24, Try.ntmps24
      go_wp2
      go_ret
      exact ⟨rfl, d, rfl⟩
    · obtain ⟨n, rfl⟩ : ∃ n : Nat, k = n := ⟨k.toNat, by omega⟩
      have hn : n < xs.length := by omega
      have hn2 : (n : Int) < (xs.length : Int) := by omega
      have h0 : xs ≠ [] := by intro e; rw [e] at hn; simp at hn
      obtain ⟨b, off, rfl, _⟩ := (hX W).at h0
      have hA : ∀ d, RowsAt cha zeroCh 33 (gr W d) b off xs := fun d => by
        obtain ⟨c', off', e, hs⟩ := (hX d).at h0
        cases e
        exact hs
      have s1 := fun d => (hA d n hn).1
      have s2 := fun d => (hA d n hn).2
      have hp := hR n hn
      have hq : inR (bestC xs).s.n := by
        unfold bestC
        rcases allC_spec xs with ⟨e1, _⟩ | ⟨j, hj, e1, _⟩
        · rw [e1, if_pos (by omega)]; exact ⟨by decide, by decide⟩
        · rw [e1, if_neg (by omega)]; exact hR j hj
      have hv : portC me xs n st = if st = 1 ∨ st = 2 ∨ st = 3 then 0 else if st = 4 ∧ (xs.getD n zeroCh).is = false then 0 else if leadsC me then (if betterC ⟨me, true⟩ (xs.getD n zeroCh) then 1 else 5) else if betterC ⟨me, true⟩ (bestC xs) then 2 else if allC xs = (n : Int) then 4 else if byWayC (bestC xs) (xs.getD n zeroCh) then 6 else 3 := by
        unfold portC codeC
        simp only [h1, h2, false_or, Int.toNat_natCast]
      generalize portC me xs n st = v at *
      clear hA hR hX h1 h2 h0
      generalize xs.getD n zeroCh = p at *
      generalize bestC xs = q at *
      generalize allC xs = al at *
      have f1 := better_fn ⟨me, true⟩ p hM hp
      have f2 := better_fn ⟨me, true⟩ q hM hq
      have f3 := byWay_fn q p hq hp
      generalize betterC ⟨me, true⟩ p = b1 at *
      generalize betterC ⟨me, true⟩ q = b2 at *
      generalize byWayC q p = b3 at *
      generalize leadsC me = ld at *
      clear hp hq hM
      have F1_ := hid f1
      clear f1
      have F2_ := hid f2
      clear f2
      have F3_ := hid f3
      clear f3
      have HV_ := hid hv
      clear hv
      have e3 : ∀ d, (row? (gr W d) c3)[0]? = some (.slice (some ⟨b, off, none⟩) xs.length cap) := fun d => by rw [r3]; rfl
      have e8 : ∀ d, (row? (gr W d) c8)[0]? = some (.bool ld) := fun d => by rw [r8]; rfl
      have e6 : ∀ d, (row? (gr W d) c6)[0]? = some (.int .i64 al) := fun d => by rw [r6]; rfl
      go_enter Try.func24, Try.ntmps24
      go_upto_region 4 with (fail)
      obtain ⟨W1, hE, r1, q1, u1, _⟩ := newblk W d (cha zeroCh) (cha p) 47 (by simp)
      rw [hE]
      clear hE s1 s2
      generalize (gr W d).heap.size = nb at *
      have r3 := upr u1 r3
      have r8 := upr u1 r8
      have r5 := upr u1 r5
      have r7 := upr u1 r7
      have r6 := upr u1 r6
      have e8 : ∀ d, (row? (gr W1 d) c8)[0]? = some (.bool ld) := fun d => by rw [r8]; rfl
      have e6 : ∀ d, (row? (gr W1 d) c6)[0]? = some (.int .i64 al) := fun d => by rw [r6]; rfl
      have e1 : ∀ d, (row? (gr W1 d) nb)[32]? = some (.bool p.is) := fun d => by rw [r1, cha_32]
      have U1_ := hid u1
      clear u1
      by_cases t1 : st = 1
      · go_wp2
        go_ret
        exact ⟨by rw [HV_.out]; simp [t1], U1_.out _⟩
      by_cases t2 : st = 2
      · go_wp2
        go_ret
        exact ⟨by rw [HV_.out]; simp [t2], U1_.out _⟩
      by_cases t3 : st = 3
      · go_wp2
        go_ret
        exact ⟨by rw [HV_.out]; simp [t3], U1_.out _⟩
      by_cases t4 : st = 4 ∧ p.is = false
      · obtain ⟨t4, t5⟩ := t4
        rw [t5] at e1
        go_wp2
        go_ret
        exact ⟨by rw [HV_.out]; simp [t4, t5], U1_.out _⟩
      have hcase : (st = 4 ∧ p.is = true) ∨ ¬ st = 4 := by
        by_cases h : st = 4
        · exact .inl ⟨h, by cases hi : p.is <;> simp_all⟩
        · exact .inr h
      clear t4
      rcases hcase with ⟨t4, t5⟩ | t4
      · rw [t5] at e1
        subst t4
        clear t1 t2 t3
        cases ld with
        | true =>
          go_wp2_with fail
          refine F1_.out.c fun m => ?_
          dsimp only
          cases b1 with
          | true =>
            go_wp2
            go_ret
            exact ⟨by rw [HV_.out]; simp [t5], U1_.out _⟩
          | false =>
            go_wp2
            go_ret
            exact ⟨by rw [HV_.out]; simp [t5], U1_.out _⟩
        | false =>
          go_wp2_with fail
          refine F2_.out.c fun m => ?_
          dsimp only
          cases b2 with
          | true =>
            go_wp2
            go_ret
            exact ⟨by rw [HV_.out]; simp [t5], U1_.out _⟩
          | false =>
            by_cases h9 : al = (n : Int)
            · subst h9
              go_wp2
              go_ret
              exact ⟨by rw [HV_.out]; simp [t5], U1_.out _⟩
            · have h10 : ¬ (n : Int) = al := fun e => h9 e.symm
              go_wp2_with fail
              refine F3_.out.c fun m => ?_
              dsimp only
              cases b3 with
              | true =>
                go_wp2
                go_ret
                exact ⟨by rw [HV_.out]; simp [t5, h9], U1_.out _⟩
              | false =>
                go_wp2
                go_ret
                exact ⟨by rw [HV_.out]; simp [t5, h9], U1_.out _⟩
      · have t0 : (st == 1 || st == 2 || st == 3) = false := by simp [t1, t2, t3]
        cases ld with
        | true =>
          go_wp2_with fail
          refine F1_.out.c fun m => ?_
          dsimp only
          cases b1 with
          | true =>
            go_wp2
            go_ret
            exact ⟨by rw [HV_.out]; simp [t1, t2, t3, t4], U1_.out _⟩
          | false =>
            go_wp2
            go_ret
            exact ⟨by rw [HV_.out]; simp [t1, t2, t3, t4], U1_.out _⟩
        | false =>
          go_wp2_with fail
          refine F2_.out.c fun m => ?_
          dsimp only
          cases b2 with
          | true =>
            go_wp2
            go_ret
            exact ⟨by rw [HV_.out]; simp [t1, t2, t3, t4], U1_.out _⟩
          | false =>
            by_cases h9 : al = (n : Int)
            · subst h9
              go_wp2
              go_ret
              exact ⟨by rw [HV_.out]; simp [t1, t2, t3, t4], U1_.out _⟩
            · have h10 : ¬ (n : Int) = al := fun e => h9 e.symm
              go_wp2_with fail
              refine F3_.out.c fun m => ?_
              dsimp only
              cases b3 with
              | true =>
                go_wp2
                go_ret
                exact ⟨by rw [HV_.out]; simp [t1, t2, t3, t4, h9], U1_.out _⟩
              | false =>
                go_wp2
                go_ret
                exact ⟨by rw [HV_.out]; simp [t1, t2, t3, t4, h9], U1_.out _⟩
end Go.Proofs.Ytmibpmijcghpaaa
