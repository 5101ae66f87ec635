/-
  The law DecideOne: it answers true. No condition.
-/
import Derived.Test.YtmibpmijcghpaaaLaA
namespace Go.Proofs.Ytmibpmijcghpaaa
open Go.RowKit

def cnt (p : Int) (cs : List Int) (m : Nat) : Nat := (cs.take m).countP (fun c => decide (c = p))
theorem cnt_succ (p : Int) (cs : List Int) (m : Nat) (h : m < cs.length) : cnt p cs (m + 1) = cnt p cs m + if cs.getD m 0 = p then 1 else 0 := by
  unfold cnt
  rw [take_snoc' cs 0 m h, List.countP_append, List.countP_singleton]
  simp
theorem cnt_le (p : Int) (cs : List Int) (m : Nat) : cnt p cs m ≤ m := Nat.le_trans List.countP_le_length (by simp; omega)
theorem cnt_pos {p : Int} {cs : List Int} : ∀ {m : Nat}, m ≤ cs.length → 0 < cnt p cs m → ∃ k, k < m ∧ cs.getD k 0 = p := by
  intro m
  induction m with
  | zero => intro _ h; simp [cnt] at h
  | succ m ih =>
    intro hm h
    rw [cnt_succ p cs m hm] at h
    by_cases e : cs.getD m 0 = p
    · exact ⟨m, by omega, e⟩
    · rw [if_neg e] at h
      obtain ⟨k, hk, hp⟩ := ih (by omega) (by omega)
      exact ⟨k, by omega, hp⟩
theorem cnt_one {p : Int} {cs : List Int} (hu : ∀ i k, i < cs.length → k < cs.length → cs.getD i 0 = p → cs.getD k 0 = p → i = k) : ∀ {m : Nat}, m ≤ cs.length → cnt p cs m ≤ 1 := by
  intro m
  induction m with
  | zero => intro _; simp [cnt]
  | succ m ih =>
    intro hm
    rw [cnt_succ p cs m hm]
    by_cases e : cs.getD m 0 = p
    · rw [if_pos e]
      have : cnt p cs m = 0 := by
        rcases Nat.eq_zero_or_pos (cnt p cs m) with h | h
        · exact h
        · obtain ⟨k, hk, hp⟩ := cnt_pos (by omega) h
          have := hu k m (by omega) (by omega) hp e
          omega
      omega
    · rw [if_neg e]
      exact ih (by omega)
theorem codeC_cases (me : Sett) (xs : List Cho) (k : Nat) : (leadsC me = true ∧ betterC ⟨me, true⟩ (xs.getD k zeroCh) = true ∧ codeC me xs k = 1) ∨ (leadsC me = true ∧ betterC ⟨me, true⟩ (xs.getD k zeroCh) = false ∧ codeC me xs k = 5) ∨
    (leadsC me = false ∧ betterC ⟨me, true⟩ (bestC xs) = true ∧ codeC me xs k = 2) ∨ (leadsC me = false ∧ betterC ⟨me, true⟩ (bestC xs) = false ∧ ((allC xs = (k : Int) ∧ codeC me xs k = 4) ∨ codeC me xs k = 6 ∨ codeC me xs k = 3)) := by
  unfold codeC
  cases h1 : leadsC me with
  | true => cases h2 : betterC ⟨me, true⟩ (xs.getD k zeroCh) <;> simp
  | false =>
    cases h2 : betterC ⟨me, true⟩ (bestC xs) with
    | true => simp
    | false =>
      by_cases h3 : allC xs = (k : Int)
      · simp [h3]
      · cases h4 : byWayC (bestC xs) (xs.getD k zeroCh) <;> simp [h3]
theorem portC_cases (me : Sett) (xs : List Cho) (k st : Int) : (((k < 0 ∨ (xs.length : Int) ≤ k ∨ st = 1 ∨ st = 2 ∨ st = 3) ∨ (st = 4 ∧ (xs.getD k.toNat zeroCh).is = false)) ∧ portC me xs k st = 0) ∨ (¬ (k < 0 ∨ (xs.length : Int) ≤ k ∨ st = 1 ∨ st = 2 ∨ st = 3) ∧ ¬ (st = 4 ∧ (xs.getD k.toNat zeroCh).is = false) ∧ portC me xs k st = codeC me xs k.toNat) := by
  unfold portC
  by_cases h1 : k < 0 ∨ (xs.length : Int) ≤ k ∨ st = 1 ∨ st = 2 ∨ st = 3
  · exact .inl ⟨.inl h1, if_pos h1⟩
  · by_cases h2 : st = 4 ∧ (xs.getD k.toNat zeroCh).is = false
    · exact .inl ⟨.inr h2, by rw [if_neg h1, if_pos h2]⟩
    · exact .inr ⟨h1, h2, by rw [if_neg h1, if_neg h2]⟩
theorem portC_four {me : Sett} {xs : List Cho} {k st : Int} (h : portC me xs k st = 4) : leadsC me = false ∧ betterC ⟨me, true⟩ (bestC xs) = false ∧ allC xs = k := by
  rcases portC_cases me xs k st with ⟨_, e⟩ | ⟨h0, _, e⟩
  · omega
  · rw [e] at h
    rcases codeC_cases me xs k.toNat with ⟨_, _, e⟩ | ⟨_, _, e⟩ | ⟨_, _, e⟩ | ⟨h1, h2, ⟨h3, _⟩ | e | e⟩ <;> first | omega | exact ⟨h1, h2, by omega⟩
theorem portC_two {me : Sett} {xs : List Cho} {k st : Int} (h : portC me xs k st = 2) : betterC ⟨me, true⟩ (bestC xs) = true := by
  rcases portC_cases me xs k st with ⟨_, e⟩ | ⟨h0, _, e⟩
  · omega
  · rw [e] at h
    rcases codeC_cases me xs k.toNat with ⟨_, _, e⟩ | ⟨_, _, e⟩ | ⟨_, h, _⟩ | ⟨_, _, ⟨_, e⟩ | e | e⟩ <;> first | omega | exact h
theorem one_law (me : Sett) (xs : List Cho) (ss : List Int) : cnt 4 (allP me xs ss xs.length) xs.length ≤ 1 ∧ (0 < cnt 2 (allP me xs ss xs.length) xs.length → cnt 4 (allP me xs ss xs.length) xs.length = 0) ∧ (cnt 4 (allP me xs ss xs.length) xs.length = 0 ∨ me.x < 1 ∨ 127 < me.x) := by
  have hle := allP_len me xs ss xs.length
  have hg := fun k h => allP_get me xs ss xs.length k h
  have pos : 0 < cnt 4 (allP me xs ss xs.length) xs.length → leadsC me = false ∧ betterC ⟨me, true⟩ (bestC xs) = false := fun h => by
    obtain ⟨k, hk, hp⟩ := cnt_pos (by omega) h
    rw [hg k hk] at hp
    obtain ⟨h1, h2, _⟩ := portC_four hp
    exact ⟨h1, h2⟩
  refine ⟨cnt_one (fun i k hi hk h1 h2 => ?_) (by omega), fun h => ?_, ?_⟩
  · rw [hle] at hi hk
    rw [hg _ hi] at h1
    rw [hg _ hk] at h2
    have := (portC_four h1).2.2
    have := (portC_four h2).2.2
    omega
  · rcases Nat.eq_zero_or_pos (cnt 4 (allP me xs ss xs.length) xs.length) with h0 | h0
    · exact h0
    · obtain ⟨k, hk, hp⟩ := cnt_pos (by omega) h
      rw [hg k hk] at hp
      have := portC_two hp
      rw [(pos h0).2] at this
      cases this
  · rcases Nat.eq_zero_or_pos (cnt 4 (allP me xs ss xs.length) xs.length) with h0 | h0
    · exact .inl h0
    · have := (pos h0).1
      unfold leadsC at this
      simp only [Bool.and_eq_false_iff, decide_eq_false_iff_not] at this
      omega
set_option maxRecDepth 100000 in
set_option maxHeartbeats 2000000 in
theorem lone_fn (me : Sett) (xs : List Cho) (hl : xs.length ≤ 9223372036854775807) (hR : ∀ k, k < xs.length → inR (xs.getD k zeroCh).s.n) (hM : inR me.n) (ss : List Int) (hs : ss.length ≤ 9223372036854775807) (a a2 : Option Addr) (cap cap2 : Nat) (w : World) (hX : RowsIn cha zeroCh 33 w a xs) (hS : RowsIn i1 0 1 w a2 ss) :
    Calls Try.prog 5 #[.agg (sa me), .slice a xs.length cap, .slice a2 ss.length cap2] w fun e w' => e = .returned (.bool true) ∧ Below w.heap.size w w' := by
  have hX' := fun d => hX.gr (by decide) d
  have hS' := fun d => hS.gr (by decide) d
  clear hX hS
  have HX'_ := hid hX'
  clear hX'
  have HS'_ := hid hS'
  clear hS'
  have HR_ := hid hR
  clear hR
  have HM_ := hid hM
  clear hM
  go_enter Try.func5, Try.ntmps5
  rw [gr_self w]
  go_upto_region 1 with (fail)
  obtain ⟨W0, c, hE, ec, r3, u0⟩ := alloc1 w w (sa me) 29
  rw [hE]
  simp only [ec]
  clear hE ec
  have fin : ∀ d, Below (gr w w).heap.size (gr w w) (gr W0 d) := fun d => by
    obtain ⟨y, hy⟩ := u0 d
    rw [hy, ← gr_self w]
    exact gr_below w y
  by_cases q1 : 60 < xs.length
  · clear u0
    have FIN_ := hid fin
    clear fin
    go_wp2_with fail
    refine alive10_fn.c fun m => ?_
    dsimp only
    go_wp2
    go_ret
    exact ⟨rfl, FIN_.out _⟩
  by_cases q2 : 100 < ss.length
  · clear u0
    have FIN_ := hid fin
    clear fin
    go_wp2_with fail
    refine alive10_fn.c fun m => ?_
    dsimp only
    go_wp2
    go_ret
    exact ⟨rfl, FIN_.out _⟩
  clear fin
  have U0_ := hid u0
  clear u0
  go_upto_region 4 with (fail)
  go_cut [25, 26, 27] (fun v0 v1 v2 wr => ∃ V a' cap', v0 = .slice a' xs.length cap' ∧ v1 = .int .i64 xs.length ∧ v2 = .int .i64 0 ∧ (∀ d, RowsIn i1 0 1 (gr V d) a' (allP me xs ss xs.length)) ∧ (∀ d, ∃ d', gr V d = gr W0 d') ∧ wr = gr V V)
  case first =>
    refine wp_region_fork W0 [1, 3, 6] 0 2 [4, 5] (by kernel_rfl) (by kernel_rfl) (fun c a b w hd h => And.intro (hd.symm.trans (And.left h)) (And.right h)) ⟨_, rfl⟩ rfl rfl rfl ?_
    simp only [selL, List.filterMap_cons, List.filterMap_nil, List.getElem?_cons_zero, List.getElem?_cons_succ]
    refine (show wpQuiet _ _ _ _ [_, _, _] _ from ?_)
    repeat (go_big_quiet_step (fail))
    refine wpQuiet_nil ?_
    rintro _ ⟨y, rfl⟩
    constructor
    · go_wp2_with fail
      refine own_c xs (by omega) a cap (upX U0_.out HX'_.out) ?_
      intro W1 a' cap' hX1 u1
      dsimp only
      have r3 := upr u1 r3
      have hS1 := upI u1 (upI U0_.out HS'_.out)
      have HX1_ := hid hX1
      clear hX1
      have U1_ := hid u1
      clear u1
      have HS1_ := hid hS1
      clear hS1
      go_wp2_with fail
      refine Ints.c (dall_c me xs (by omega) HR_.out HM_.out ss (by omega) HX1_.out HS1_.out) fun W2 a3 cap3 hI u2 => ?_
      dsimp only
      simp only [allP_len]
      have u := up2 u2 U1_.out
      clear r3 u2
      have HI_ := hid hI
      clear hI
      have U_ := hid u
      clear u
      go_wp2
      go_meet
      case rel => exact ⟨W2, a3, cap3, rfl, rfl, rfl, HI_.out, U_.out, rfl⟩
    · go_wp2_with fail
      refine own_c xs (by omega) a cap (upX U0_.out HX'_.out) ?_
      intro W1 a' cap' hX1 u1
      dsimp only
      have r3 := upr u1 r3
      have hS1 := upI u1 (upI U0_.out HS'_.out)
      have HX1_ := hid hX1
      clear hX1
      have U1_ := hid u1
      clear u1
      have HS1_ := hid hS1
      clear hS1
      go_wp2_with fail
      refine Ints.c (dall_c me xs (by omega) HR_.out HM_.out ss (by omega) HX1_.out HS1_.out) fun W2 a3 cap3 hI u2 => ?_
      dsimp only
      simp only [allP_len]
      have u := up2 u2 U1_.out
      clear r3 u2
      have HI_ := hid hI
      clear hI
      have U_ := hid u
      clear u
      go_wp2
      go_meet
      case rel => exact ⟨W2, a3, cap3, rfl, rfl, rfl, HI_.out, U_.out, rfl⟩
  case rest =>
    obtain ⟨V, a', cap', rfl, rfl, rfl, hI, u, rfl⟩ := hcut
    have r3 := upr u r3
    have u := up2 u U0_.out
    have hx : ∀ d, (row? (gr V d) c)[2]? = some (.int .i64 me.x) := fun d => by rw [r3, sa_2]
    have hle := allP_len me xs ss xs.length
    obtain ⟨p1, p2, p3⟩ := one_law me xs ss
    generalize allP me xs ss xs.length = cs at *
    clear U0_ HX'_ HS'_ HR_ HM_ r3
    have U_ := hid u
    clear u
    have HI_ := hid hI
    clear hI
    go_wp2
    go_loopw [7, 8, 27] (fun v7 v8 i wr => ∃ (j : Nat), j ≤ xs.length ∧ i = .int .i64 j ∧ v7 = .int .i64 (cnt 4 cs j) ∧ v8 = .bool (decide (0 < cnt 2 cs j)) ∧ wr = gr V V) (fun _ _ i _ => xs.length - (intOf i).toNat)
    case atStart => exact ⟨0, by omega, rfl, rfl, rfl, rfl⟩
    case round =>
      obtain ⟨j, hj, rfl, rfl, rfl, rfl⟩ := hrel
      by_cases hjt : j < xs.length
      · obtain ⟨b, off, rfl, hc⟩ := i1_at HI_.out j (by omega)
        have hs4 := cnt_succ 4 cs j (by omega)
        have hs2 := cnt_succ 2 cs j (by omega)
        have hle4 := cnt_le 4 cs j
        generalize cs.getD j 0 = v at *
        generalize cnt 4 cs j = n4 at *
        generalize cnt 2 cs j = n2 at *
        clear p1 p2 p3
        by_cases h4 : v = 4
        · subst h4
          rw [if_pos rfl] at hs4
          rw [if_neg (by omega)] at hs2
          by_cases h0 : 0 < n2
          · have HS4_ := hid hs4
            clear hs4
            have HS2_ := hid hs2
            clear hs2
            go_wp2
            exact ⟨⟨j + 1, by omega, by go_num, by rw [HS4_.out]; go_num, by rw [HS2_.out]; simp [h0], by first | trivial | rfl⟩, by simp [intOf]; omega⟩
          · have HS4_ := hid hs4
            clear hs4
            have HS2_ := hid hs2
            clear hs2
            go_wp2
            exact ⟨⟨j + 1, by omega, by go_num, by rw [HS4_.out]; go_num, by rw [HS2_.out]; simp [h0], by first | trivial | rfl⟩, by simp [intOf]; omega⟩
        · rw [if_neg h4] at hs4
          by_cases h2 : v = 2
          · subst h2
            rw [if_pos rfl] at hs2
            by_cases h0 : 0 < n2
            · have HS4_ := hid hs4
              clear hs4
              have HS2_ := hid hs2
              clear hs2
              go_wp2
              exact ⟨⟨j + 1, by omega, by go_num, by rw [HS4_.out]; go_num, by rw [HS2_.out]; simp [h0], by first | trivial | rfl⟩, by simp [intOf]; omega⟩
            · have HS4_ := hid hs4
              clear hs4
              have HS2_ := hid hs2
              clear hs2
              go_wp2
              exact ⟨⟨j + 1, by omega, by go_num, by rw [HS4_.out]; go_num, by rw [HS2_.out]; simp, by first | trivial | rfl⟩, by simp [intOf]; omega⟩
          · rw [if_neg h2] at hs2
            by_cases h0 : 0 < n2
            · have HS4_ := hid hs4
              clear hs4
              have HS2_ := hid hs2
              clear hs2
              go_wp2
              exact ⟨⟨j + 1, by omega, by go_num, by rw [HS4_.out]; go_num, by rw [HS2_.out]; simp [h0], by first | trivial | rfl⟩, by simp [intOf]; omega⟩
            · have HS4_ := hid hs4
              clear hs4
              have HS2_ := hid hs2
              clear hs2
              go_wp2
              exact ⟨⟨j + 1, by omega, by go_num, by rw [HS4_.out]; go_num, by rw [HS2_.out]; simp [h0, h2], by first | trivial | rfl⟩, by simp [intOf]; omega⟩
      · obtain rfl : j = xs.length := by omega
        generalize cnt 4 cs xs.length = n4 at *
        generalize cnt 2 cs xs.length = n2 at *
        have fin : ∀ m, Below (gr w w).heap.size (gr w w) (gr V m) := fun m => by
          obtain ⟨y, hy⟩ := U_.out m
          rw [hy, ← gr_self w]
          exact gr_below w y
        clear HI_ U_
        have FIN_ := hid fin
        clear fin
        by_cases z : n4 = 0
        · subst z
          clear p1 p2 p3
          by_cases h0 : 0 < n2
          · go_wp2_with fail
            refine alive10_fn.c fun m => ?_
            dsimp only
            go_wp2
            go_ret
            exact ⟨rfl, FIN_.out _⟩
          · go_wp2_with fail
            refine alive10_fn.c fun m => ?_
            dsimp only
            go_wp2
            go_ret
            exact ⟨rfl, FIN_.out _⟩
        · obtain rfl : n4 = 1 := by omega
          have h0 : ¬ 0 < n2 := fun h => by have := p2 h; omega
          have h1 := p3.resolve_left (by omega)
          clear p1 p2 p3 z
          rcases h1 with h1 | h1
          · go_wp2_with fail
            refine alive10_fn.c fun m => ?_
            dsimp only
            go_wp2
            go_ret
            exact ⟨rfl, FIN_.out _⟩
          · have h2 : ¬ me.x < 1 := by omega
            go_wp2_with fail
            refine alive10_fn.c fun m => ?_
            dsimp only
            go_wp2
            go_ret
            exact ⟨rfl, FIN_.out _⟩
end Go.Proofs.Ytmibpmijcghpaaa
