/-
  The law DecidePorts: it answers true. No condition.
-/
import Derived.Test.YtmibpmijcghpaaaLaC
import Derived.Laws.MakeOwn
namespace Go.Proofs.Ytmibpmijcghpaaa
open Go.RowKit

abbrev x2 (k st : Int) : Array Value := #[.int .i64 k, .int .i64 st]
theorem made_ints (n : Nat) : madeCells (Value.int .i64 0).cells (n * 1) = Array.replicate n (.int .i64 0) := by
  unfold madeCells
  apply Array.ext
  · simp
  · intro i h1 h2
    have : i % 1 = 0 := Nat.mod_one i
    simp [Value.cells, this]
theorem mkInts (w : World) (n : Nat) (h : n ≤ 1000) : (Instr.makeSlice 31 (.int .i64 n) (.int .i64 n)).run Try.prog w = .ok (.slice (some ⟨w.heap.size, 0, none⟩) n n) (w.alloc (.cells (Array.replicate n (.int .i64 0)) 3)) := by
  obtain ⟨j0, hj0, jz0, jz1, jz2⟩ := info_parts infoI
  have hr := run_makeSlice (P := Try.prog) w 31 3 j0 (.int .i64 0) Try.underlying31 hj0 jz0 .i64 .i64 n n (by omega) (by omega) (by rw [jz1]; simp; omega) (by rw [jz2]; omega) (by omega)
  rw [jz1, Int.toNat_natCast, made_ints] at hr
  exact hr
def setI (n k : Nat) (st : Int) : List Int := (List.replicate n 0).set k st
@[simp] theorem setI_len (n k : Nat) (st : Int) : (setI n k st).length = n := by simp [setI]
theorem setI_stC (n k : Nat) (st : Int) (h : k < n) : stC (setI n k st) k = st := by
  unfold stC
  rw [if_pos (by rw [setI_len]; exact h)]
  simp [setI, h]
theorem rowsL_i1 (ys : List Int) : rowsL i1 ys = ys.map (Value.int .i64) := by
  unfold rowsL
  induction ys with
  | nil => rfl
  | cons y ys ih => rw [List.flatMap_cons, ih]; rfl
theorem rows_setI {W : World} {b n k : Nat} {st : Int} (h : ∀ d, row? (gr W d) b = (Array.replicate n (.int .i64 0)).setIfInBounds k (.int .i64 st)) (d : World) : RowsIn i1 0 1 (gr W d) (some ⟨b, 0, none⟩) (setI n k st) := by
  refine .inr ⟨b, 0, rfl, rowsAt_of_cur (f := i1) (n := 1) (fun _ => rfl) 0 (h d) ?_⟩
  rw [rowsL_i1, setI_len, List.take_of_length_le (by simp)]
  unfold setI
  rw [List.map_set, List.map_replicate]
  simp
set_option maxRecDepth 100000 in
set_option maxHeartbeats 2000000 in
theorem lports_fn (me : Sett) (xs : List Cho) (hl : xs.length ≤ 9223372036854775807) (hR : ∀ k, k < xs.length → inR (xs.getD k zeroCh).s.n) (hM : inR me.n) (k st : Int) (a : Option Addr) (cap : Nat) (w : World) (hX : RowsIn cha zeroCh 33 w a xs) :
    Calls Try.prog 4 #[.agg (sa me), .slice a xs.length cap, .agg (x2 k st)] w fun e w' => e = .returned (.bool true) ∧ Below w.heap.size w w' := by
  have hX' := fun d => hX.gr (by decide) d
  clear hX
  have HX'_ := hid hX'
  clear hX'
  have HR_ := hid hR
  clear hR
  have HM_ := hid hM
  clear hM
  go_enter Try.func4, Try.ntmps4
  rw [gr_self w]
  go_upto_region 1 with (fail)
  obtain ⟨W0, c, hE, ec, r3, r5, _, u0⟩ := alloc2 w w (sa me) (x2 k st) 29 40
  rw [hE]
  simp only [ec]
  clear hE ec
  by_cases q1 : 60 < xs.length
  · have fin : ∀ d, Below (gr w w).heap.size (gr w w) (gr W0 d) := fun d => by
      obtain ⟨y, hy⟩ := u0 d
      rw [hy, ← gr_self w]
      exact gr_below w y
    clear u0
    have FIN_ := hid fin
    clear fin
    go_wp2_with fail
    refine alive10_fn.c fun m => ?_
    dsimp only
    go_wp2
    go_ret
    exact ⟨rfl, FIN_.out _⟩
  have g0 : ∀ d, (row? (gr W0 d) (c + 1))[0]? = some (.int .i64 k) := fun d => by rw [r5]; rfl
  have g1 : ∀ d, (row? (gr W0 d) (c + 1))[1]? = some (.int .i64 st) := fun d => by rw [r5]; rfl
  have U0_ := hid u0
  clear u0
  go_upto_region 3 with (fail)
  refine wp_region_gr W0 (by kernel_rfl) (by kernel_rfl) ⟨_, rfl⟩ ?_
  repeat (go_big_quiet_step (fail))
  refine wpQuiet_nil ?_
  rintro _ ⟨z, rfl⟩
  clear g0 g1
  go_upto_region 4 with (fail)
  go_cut [9] (fun v9 wr => ∃ V, v9 = .int .i64 (portC me xs k st) ∧ (∀ d, ∃ d', gr V d = gr W0 d') ∧ wr = gr V V)
  case first =>
    refine wp_region_fork W0 [1, 3, 4] 0 2 [5, 6] (by kernel_rfl) (by kernel_rfl) (fun c a b w hd h => And.intro (hd.symm.trans (And.left h)) (And.right h)) ⟨_, rfl⟩ rfl rfl rfl ?_
    simp only [selL, List.filterMap_cons, List.filterMap_nil, List.getElem?_cons_zero, List.getElem?_cons_succ]
    refine (show wpQuiet _ _ _ _ [_, _, _] _ from ?_)
    repeat (go_big_quiet_step (fail))
    refine wpQuiet_nil ?_
    rintro _ ⟨y, rfl⟩
    constructor
    · go_wp2_with fail
      refine own_c xs (by omega) a cap (upX U0_.out HX'_.out) ?_
      intro W1 a' cap' hX1 u1
      dsimp only
      have r3 := upr u1 r3
      have HX1_ := hid hX1
      clear hX1
      have U1_ := hid u1
      clear u1
      go_wp2_with fail
      refine (port_fn me xs (by omega) HR_.out HM_.out HX1_.out k st).c fun m => ?_
      dsimp only
      clear r3
      go_wp2
      go_meet
      case rel => exact ⟨gr W1 m, rfl, fun d => by
        obtain ⟨y1, hy1⟩ := gr_gr W1 m d
        obtain ⟨y2, hy2⟩ := U1_.out y1
        exact ⟨y2, by rw [hy1, hy2]⟩, gr_self _⟩
    · go_wp2_with fail
      refine own_c xs (by omega) a cap (upX U0_.out HX'_.out) ?_
      intro W1 a' cap' hX1 u1
      dsimp only
      have r3 := upr u1 r3
      have HX1_ := hid hX1
      clear hX1
      have U1_ := hid u1
      clear u1
      go_wp2_with fail
      refine (port_fn me xs (by omega) HR_.out HM_.out HX1_.out k st).c fun m => ?_
      dsimp only
      clear r3
      go_wp2
      go_meet
      case rel => exact ⟨gr W1 m, rfl, fun d => by
        obtain ⟨y1, hy1⟩ := gr_gr W1 m d
        obtain ⟨y2, hy2⟩ := U1_.out y1
        exact ⟨y2, by rw [hy1, hy2]⟩, gr_self _⟩
  case rest =>
    obtain ⟨V, rfl, u, rfl⟩ := hcut
    have r3 := upr u r3
    have u := up2 u U0_.out
    have hX1 := upX u HX'_.out
    have hf := rport_fn me xs (by omega) HR_.out HM_.out hX1 k st (cap := cap)
    have fin : ∀ m, Below (gr w w).heap.size (gr w w) (gr V m) := fun m => by
      obtain ⟨y, hy⟩ := u m
      rw [hy, ← gr_self w]
      exact gr_below w y
    clear U0_ r5
    by_cases h1 : k < 0
    · have hv : portC me xs k st = 0 := by unfold portC; rw [if_pos (.inl h1)]
      rw [hv] at hf ⊢
      clear hv u hX1 HR_ HM_ HX'_
      have HF_ := hid hf
      clear hf
      have FIN_ := hid fin
      clear fin
      go_wp2_with fail
      refine HF_.out.c fun m => ?_
      dsimp only
      go_wp2_with fail
      refine alive10_fn.c fun m => ?_
      dsimp only
      go_wp2
      go_ret
      exact ⟨rfl, FIN_.out _⟩
    by_cases h2 : (xs.length : Int) ≤ k
    · have hv : portC me xs k st = 0 := by unfold portC; rw [if_pos (.inr (.inl h2))]
      rw [hv] at hf ⊢
      clear hv u hX1 HR_ HM_ HX'_
      have HF_ := hid hf
      clear hf
      have FIN_ := hid fin
      clear fin
      go_wp2_with fail
      refine HF_.out.c fun m => ?_
      dsimp only
      go_wp2_with fail
      refine alive10_fn.c fun m => ?_
      dsimp only
      go_wp2
      go_ret
      exact ⟨rfl, FIN_.out _⟩
    obtain ⟨n, rfl⟩ : ∃ n : Nat, k = n := ⟨k.toNat, by omega⟩
    have hn : n < xs.length := by omega
    have hn2 : (n : Int) < (xs.length : Int) := by omega
    clear fin
    generalize hpv : portC me xs n st = v at *
    have hmk := fun w => mkInts w xs.length (by omega)
    have HF_ := hid hf
    clear hf
    have U_ := hid u
    clear u
    have HX1_ := hid hX1
    clear hX1
    have HPV_ := hid hpv
    clear hpv
    go_wp2_with fail
    refine HF_.out.c fun m => ?_
    dsimp only
    go_upto_region 10 with (fail)
    obtain ⟨W5, hE, r10, o10, u5⟩ := newA V m (Array.replicate xs.length (.int .i64 0)) 3
    have hlo : V.heap.size ≤ (gr V m).heap.size := (gr_below V m).size
    rw [hE]
    clear hE
    generalize (gr V m).heap.size = b at *
    have hsz : ∀ d, n < (row? (gr W5 d) b).size := fun d => by rw [r10]; simpa using hn
    go_upto_region 11 with (fail)
    obtain ⟨W6, hE, r11, _, u6⟩ := newcell V W5 (k := n) (v := .int .i64 st) hlo r10 o10 (fun e => by have h9 : xs.length = 0 := (Array.size_replicate ..).symm.trans (congrArg Array.size e); omega) u5
    rw [hE]
    clear hE r10 o10 u5 hlo hsz HF_ hmk
    have r3 := upr u6 r3
    have hX1 := upX u6 HX1_.out
    have u := up2 u6 U_.out
    have hS1 := rows_setI r11
    have hstc := setI_stC xs.length n st hn
    have hsl := setI_len xs.length n st
    generalize setI xs.length n st = ss at *
    clear HX1_ U_ u6 r11 HX'_
    have U_ := hid u
    clear u
    have HX1_ := hid hX1
    clear hX1
    have HS1_ := hid hS1
    clear hS1
    go_cut [11] (fun v11 wr => ∃ V9 a' cap', v11 = .slice a' xs.length cap' ∧ (∀ d, RowsIn i1 0 1 (gr V9 d) a' (allP me xs ss xs.length)) ∧ (∀ d, ∃ d', gr V9 d = gr W6 d') ∧ wr = gr V9 V9)
    case first =>
      refine wp_region_fork W6 [1, 3] 0 2 [4, 5] (by kernel_rfl) (by kernel_rfl) (fun c a b w hd h => And.intro (hd.symm.trans (And.left h)) (And.right h)) ⟨_, rfl⟩ rfl rfl rfl ?_
      simp only [selL, List.filterMap_cons, List.filterMap_nil, List.getElem?_cons_zero, List.getElem?_cons_succ]
      refine (show wpQuiet _ _ _ _ [_, _] _ from ?_)
      repeat (go_big_quiet_step (fail))
      refine wpQuiet_nil ?_
      rintro _ ⟨y, rfl⟩
      constructor
      · go_wp2_with fail
        refine own_c xs (by omega) a cap HX1_.out ?_
        intro W1 a' cap' hX2 u1
        dsimp only
        have r3 := upr u1 r3
        have hS2 := upI u1 HS1_.out
        have hc := fun (d : World) (c2 : Nat) => dall_c me xs (by omega) HR_.out HM_.out ss (by omega) (d := d) (cap2 := c2) (cap := cap') hX2 hS2
        rw [hsl] at hc
        have U1_ := hid u1
        clear u1
        have HC_ := hid hc
        clear hc
        go_wp2_with fail
        refine Ints.c (HC_.out _ _) fun W2 a3 cap3 hI u2 => ?_
        dsimp only
        simp only [allP_len]
        have u := up2 u2 U1_.out
        clear r3 u2
        have HI_ := hid hI
        clear hI
        have U_ := hid u
        clear u
        go_wp2
        go_meet
        case rel => exact ⟨W2, a3, cap3, rfl, HI_.out, U_.out, rfl⟩
      · go_wp2_with fail
        refine own_c xs (by omega) a cap HX1_.out ?_
        intro W1 a' cap' hX2 u1
        dsimp only
        have r3 := upr u1 r3
        have hS2 := upI u1 HS1_.out
        have hc := fun (d : World) (c2 : Nat) => dall_c me xs (by omega) HR_.out HM_.out ss (by omega) (d := d) (cap2 := c2) (cap := cap') hX2 hS2
        rw [hsl] at hc
        have U1_ := hid u1
        clear u1
        have HC_ := hid hc
        clear hc
        go_wp2_with fail
        refine Ints.c (HC_.out _ _) fun W2 a3 cap3 hI u2 => ?_
        dsimp only
        simp only [allP_len]
        have u := up2 u2 U1_.out
        clear r3 u2
        have HI_ := hid hI
        clear hI
        have U_ := hid u
        clear u
        go_wp2
        go_meet
        case rel => exact ⟨W2, a3, cap3, rfl, HI_.out, U_.out, rfl⟩
    case rest =>
      obtain ⟨V9, a', cap', rfl, hI, u2, rfl⟩ := hcut
      have u := up2 u2 U_.out
      have hle := allP_len me xs ss xs.length
      have hg := allP_get me xs ss xs.length n hn
      rw [hstc, HPV_.out] at hg
      obtain ⟨b3, off3, rfl, hc⟩ := i1_at hI n (by omega)
      rw [hg] at hc
      have fin : ∀ m, Below (gr w w).heap.size (gr w w) (gr V9 m) := fun m => by
        obtain ⟨y, hy⟩ := u m
        rw [hy, ← gr_self w]
        exact gr_below w y
      clear U_ HX1_ HS1_ HR_ HM_ r3 hI u2 u hg HPV_
      have FIN_ := hid fin
      clear fin
      go_wp2_with fail
      refine alive10_fn.c fun m => ?_
      dsimp only
      go_wp2
      go_ret
      exact ⟨rfl, FIN_.out _⟩
end Go.Proofs.Ytmibpmijcghpaaa
