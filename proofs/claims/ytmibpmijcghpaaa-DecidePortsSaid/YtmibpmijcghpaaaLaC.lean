/-
  The law DecideGrand: it answers true. No condition.
-/
import Derived.Test.YtmibpmijcghpaaaLaD
namespace Go.Proofs.Ytmibpmijcghpaaa
open Go.RowKit

theorem allocO (W d : World) (A : Array Value) (S : TypeId) :
    ∃ W1 c, (gr W d).alloc (.cells A S) = gr W1 W1 ∧ (gr W d).heap.size = c ∧ (∀ d, row? (gr W1 d) c = A) ∧ (∀ d, own? (gr W1 d) c = true) ∧ W.heap.size ≤ c ∧ (∀ d, ∃ d', gr W1 d = gr W d') :=
  ⟨(gr W d).alloc (.cells A S), _, gr_self _, rfl, gr_row (by simp [row_alloc, rowOf]) (by simp), gr_own (by simp [own_alloc, ownOf]), (gr_below W d).size, fun e => gr_ex (((gr_below W d).alloc (gr_below W d).size _).trans ((gr_below _ e).mono (by have := (gr_below W d).size; simp; omega)))⟩
theorem newcell (W0 W3 : World) {b k : Nat} {A : Array Value} {v : Value} (hlo : W0.heap.size ≤ b) (hr : ∀ d, row? (gr W3 d) b = A) (ho : ∀ d, own? (gr W3 d) b = true) (hA : A ≠ #[]) (u : ∀ d, ∃ d', gr W3 d = gr W0 d') :
    ∃ W4, (gr W3 W3).setCell ⟨b, k, none⟩ v = gr W4 W4 ∧ (∀ d, row? (gr W4 d) b = A.setIfInBounds k v) ∧ (∀ d, own? (gr W4 d) b = true) ∧ (∀ d, ∃ d', gr W4 d = gr W0 d') := by
  obtain ⟨d0, e0⟩ := u W3
  have hb : Below W0.heap.size W0 ((gr W3 W3).setCell ⟨b, k, none⟩ v) := by
    rw [e0]
    exact (gr_below W0 d0).setCell hlo _
  have lt : b < (gr W3 W3).heap.size := row_lt (by rw [hr]; exact hA)
  refine ⟨_, gr_self _, gr_row ?_ (by simpa using lt), gr_own ?_, fun d => gr_ex (hb.trans ((gr_below _ d).mono (by rw [e0]; simpa using (gr_below W0 d0).size)))⟩
  · simp [go_sem, hr]
  · simp [go_sem, ho]
theorem sa_setX (p : Sett) (x : Int) : (sa p).setIfInBounds 2 (.int .i64 x) = sa { p with x := x } := by
  unfold sa
  obtain ⟨l, hl, hr⟩ := p.g
  match l, hl with
  | [a, b, c, d, e, f, g, h], _ => simp [ca, cl]
theorem and127 (x : Int) : 0 ≤ bits BinOp.and .i64 x 127 ∧ bits BinOp.and .i64 x 127 ≤ 127 := by
  show 0 ≤ IntKind.i64.wrap ((BitVec.ofInt 64 x &&& BitVec.ofInt 64 127).toNat : Int) ∧ IntKind.i64.wrap ((BitVec.ofInt 64 x &&& BitVec.ofInt 64 127).toNat : Int) ≤ 127
  rw [BitVec.toNat_and]
  have f2 : (BitVec.ofInt 64 (127 : Int)).toNat = 127 := by decide
  rw [f2]
  have h : (BitVec.ofInt 64 x).toNat &&& 127 ≤ 127 := Nat.and_le_right
  generalize (BitVec.ofInt 64 x).toNat &&& 127 = n at *
  simp [IntKind.wrap, IntKind.bits, IntKind.signed]
  omega
theorem class127 (x : Int) : 1 ≤ wrap64 (1 + (bits BinOp.and .i64 x 127).tmod 127) ∧ wrap64 (1 + (bits BinOp.and .i64 x 127).tmod 127) ≤ 127 := by
  obtain ⟨h1, h2⟩ := and127 x
  generalize bits BinOp.and .i64 x 127 = n at *
  have e : n.tmod 127 = n % 127 := Int.tmod_eq_emod_of_nonneg h1
  rw [e]
  unfold wrap64
  omega
theorem grand_law (me : Sett) (xs : List Cho) (ss : List Int) (h : leadsC me = true) (k : Nat) : portC me xs k (stC ss k) = 0 ∨ portC me xs k (stC ss k) = 1 ∨ (portC me xs k (stC ss k) = 5 ∧ (xs.getD k zeroCh).is = true) := by
  rcases portC_cases me xs k (stC ss k) with ⟨_, e⟩ | ⟨_, _, e⟩
  · exact .inl e
  · rw [Int.toNat_natCast] at e
    rw [e]
    rcases codeC_cases me xs k with ⟨_, _, e⟩ | ⟨_, hb, e⟩ | ⟨h1, _, _⟩ | ⟨h1, _, _⟩
    · exact .inr (.inl e)
    · refine .inr (.inr ⟨e, ?_⟩)
      unfold betterC at hb
      cases hi : (xs.getD k zeroCh).is with
      | true => rfl
      | false => rw [hi] at hb; simp at hb
    · rw [h] at h1; cases h1
    · rw [h] at h1; cases h1
set_option maxRecDepth 100000 in
set_option maxHeartbeats 2000000 in
theorem lgrand_fn (me : Sett) (xs : List Cho) (hl : xs.length ≤ 9223372036854775807) (hR : ∀ k, k < xs.length → inR (xs.getD k zeroCh).s.n) (hM : inR me.n) (ss : List Int) (hs : ss.length ≤ 9223372036854775807) (a a2 : Option Addr) (cap cap2 : Nat) (w : World) (hX : RowsIn cha zeroCh 33 w a xs) (hS : RowsIn i1 0 1 w a2 ss) :
    Calls Try.prog 7 #[.agg (sa me), .slice a xs.length cap, .slice a2 ss.length cap2] w fun e w' => e = .returned (.bool true) ∧ Below w.heap.size w w' := by
  have hX' := fun d => hX.gr (by decide) d
  have hS' := fun d => hS.gr (by decide) d
  clear hX hS
  have HX'_ := hid hX'
  clear hX'
  have HS'_ := hid hS'
  clear hS'
  have HR_ := hid hR
  clear hR
  have HM_ := hid hM
  clear hM
  go_enter Try.func7, Try.ntmps7
  rw [gr_self w]
  go_upto_region 1 with (fail)
  obtain ⟨W0, c, hE, ec, r3, o3, hc, u0⟩ := allocO w w (sa me) 29
  rw [hE]
  simp only [ec]
  clear hE ec
  have fin : ∀ d, Below (gr w w).heap.size (gr w w) (gr W0 d) := fun d => by
    obtain ⟨y, hy⟩ := u0 d
    rw [hy, ← gr_self w]
    exact gr_below w y
  by_cases q1 : 60 < xs.length
  · clear u0
    have FIN_ := hid fin
    clear fin
    go_wp2_with fail
    refine alive10_fn.c fun m => ?_
    dsimp only
    go_wp2
    go_ret
    exact ⟨rfl, FIN_.out _⟩
  by_cases q2 : 100 < ss.length
  · clear u0
    have FIN_ := hid fin
    clear fin
    go_wp2_with fail
    refine alive10_fn.c fun m => ?_
    dsimp only
    go_wp2
    go_ret
    exact ⟨rfl, FIN_.out _⟩
  clear fin
  go_upto_region 4 with (fail)
  have hz := class127 me.x
  generalize wrap64 (1 + (bits BinOp.and IntKind.i64 me.x 127).tmod 127) = z at *
  obtain ⟨W5, hE, r3', _, u5⟩ := newcell w W0 (k := 2) (v := .int .i64 z) hc r3 o3 (by simp) u0
  rw [hE]
  rw [sa_setX] at r3'
  clear hE r3 o3 u0 hc
  have u0 := u5
  have hld : leadsC { me with x := z } = true := by simp [leadsC, hz.1, hz.2]
  have hM : inR { me with x := z }.n := HM_.out
  clear HM_ u5 hz
  generalize hme : ({ me with x := z } : Sett) = me' at *
  have U0_ := hid u0
  clear u0
  have HM_ := hid hM
  clear hM
  go_upto_region 4 with (fail)
  go_cut [30, 31, 32] (fun v0 v1 v2 wr => ∃ V a' cap', v0 = .slice a' xs.length cap' ∧ v1 = .int .i64 xs.length ∧ v2 = .int .i64 0 ∧ (∀ d, RowsIn i1 0 1 (gr V d) a' (allP me' xs ss xs.length)) ∧ (∀ d, ∃ d', gr V d = gr W5 d') ∧ wr = gr V V)
  case first =>
    refine wp_region_fork W5 [1, 3, 6] 0 2 [4, 5] (by kernel_rfl) (by kernel_rfl) (fun c a b w hd h => And.intro (hd.symm.trans (And.left h)) (And.right h)) ⟨_, rfl⟩ rfl rfl rfl ?_
    simp only [selL, List.filterMap_cons, List.filterMap_nil, List.getElem?_cons_zero, List.getElem?_cons_succ]
    refine (show wpQuiet _ _ _ _ [_, _, _] _ from ?_)
    repeat (go_big_quiet_step (fail))
    refine wpQuiet_nil ?_
    rintro _ ⟨y, rfl⟩
    constructor
    · go_wp2_with fail
      refine own_c xs (by omega) a cap (upX U0_.out HX'_.out) ?_
      intro W1 a' cap' hX1 u1
      dsimp only
      have r3' := upr u1 r3'
      have hS1 := upI u1 (upI U0_.out HS'_.out)
      have HX1_ := hid hX1
      clear hX1
      have U1_ := hid u1
      clear u1
      have HS1_ := hid hS1
      clear hS1
      go_wp2_with fail
      refine Ints.c (dall_c me' xs (by omega) HR_.out HM_.out ss (by omega) HX1_.out HS1_.out) fun W2 a3 cap3 hI u2 => ?_
      dsimp only
      simp only [allP_len]
      have u := up2 u2 U1_.out
      clear r3' u2
      have HI_ := hid hI
      clear hI
      have U_ := hid u
      clear u
      go_wp2
      go_meet
      case rel => exact ⟨W2, a3, cap3, rfl, rfl, rfl, HI_.out, U_.out, rfl⟩
    · go_wp2_with fail
      refine own_c xs (by omega) a cap (upX U0_.out HX'_.out) ?_
      intro W1 a' cap' hX1 u1
      dsimp only
      have r3' := upr u1 r3'
      have hS1 := upI u1 (upI U0_.out HS'_.out)
      have HX1_ := hid hX1
      clear hX1
      have U1_ := hid u1
      clear u1
      have HS1_ := hid hS1
      clear hS1
      go_wp2_with fail
      refine Ints.c (dall_c me' xs (by omega) HR_.out HM_.out ss (by omega) HX1_.out HS1_.out) fun W2 a3 cap3 hI u2 => ?_
      dsimp only
      simp only [allP_len]
      have u := up2 u2 U1_.out
      clear r3' u2
      have HI_ := hid hI
      clear hI
      have U_ := hid u
      clear u
      go_wp2
      go_meet
      case rel => exact ⟨W2, a3, cap3, rfl, rfl, rfl, HI_.out, U_.out, rfl⟩
  case rest =>
    obtain ⟨V, a', cap', rfl, rfl, rfl, hI, u, rfl⟩ := hcut
    have hX1 := upX u (upX U0_.out HX'_.out)
    have u := up2 u U0_.out
    have hle := allP_len me' xs ss xs.length
    have hg := fun k h => allP_get me' xs ss xs.length k h
    have hlaw := grand_law me' xs ss hld
    have fin : ∀ m, Below (gr w w).heap.size (gr w w) (gr V m) := fun m => by
      obtain ⟨y, hy⟩ := u m
      rw [hy, ← gr_self w]
      exact gr_below w y
    clear U0_ HX'_ HS'_ HR_ HM_ r3' u hld
    have FIN_ := hid fin
    clear fin
    have HI_ := hid hI
    clear hI
    have HX1_ := hid hX1
    clear hX1
    have HG_ := hid hg
    clear hg
    have HLAW_ := hid hlaw
    clear hlaw
    go_wp2
    go_loopw [32] (fun i wr => ∃ (j : Nat), j ≤ xs.length ∧ i = .int .i64 j ∧ wr = gr V V) (fun i _ => xs.length - (intOf i).toNat)
    case atStart => exact ⟨0, by omega, rfl, rfl⟩
    case round =>
      obtain ⟨j, hj, rfl, rfl⟩ := hrel
      by_cases hjt : j < xs.length
      · have hne : xs ≠ [] := by intro e; rw [e] at hjt; simp at hjt
        obtain ⟨b, off, rfl, hc⟩ := i1_at HI_.out j (by omega)
        obtain ⟨b1, off1, rfl, _⟩ := (HX1_.out V).at hne
        have s1 := fun d => ((show RowsAt cha zeroCh 33 (gr V d) b1 off1 xs from by obtain ⟨c', off', e, hs⟩ := (HX1_.out d).at hne; cases e; exact hs) j hjt).1
        have s2 := fun d => ((show RowsAt cha zeroCh 33 (gr V d) b1 off1 xs from by obtain ⟨c', off', e, hs⟩ := (HX1_.out d).at hne; cases e; exact hs) j hjt).2
        have s3 : ∀ d, (row? (gr V d) b1)[off1 + j * 33 + 32]? = some (.bool (xs.getD j zeroCh).is) := fun d => by rw [sub_get (s2 d) (s1 d) 32 (by omega), cha_32]
        rw [HG_.out j hjt] at hc
        have hl2 := HLAW_.out j
        have hjt2 : (j : Int) < (xs.length : Int) := by omega
        clear s1 s2 HG_ HLAW_ HX1_ HI_
        generalize portC me' xs j (stC ss j) = v at *
        generalize (xs.getD j zeroCh).is = bi at *
        rcases hl2 with rfl | rfl | ⟨rfl, rfl⟩
        · go_wp2
          exact ⟨⟨j + 1, by omega, by go_num, by first | trivial | rfl⟩, by simp [intOf]; omega⟩
        · go_wp2
          exact ⟨⟨j + 1, by omega, by go_num, by first | trivial | rfl⟩, by simp [intOf]; omega⟩
        · go_wp2
          exact ⟨⟨j + 1, by omega, by go_num, by first | trivial | rfl⟩, by simp [intOf]; omega⟩
      · obtain rfl : j = xs.length := by omega
        clear HI_ HX1_ HG_ HLAW_
        go_wp2_with fail
        refine alive10_fn.c fun m => ?_
        dsimp only
        go_wp2
        go_ret
        exact ⟨rfl, FIN_.out _⟩
end Go.Proofs.Ytmibpmijcghpaaa
