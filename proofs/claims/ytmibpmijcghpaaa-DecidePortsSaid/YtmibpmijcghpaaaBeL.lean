/-
  The walks of decide.All and of the reference's All: the numbers, in a slice of one's own. No condition but the numbers' range, and that there are at most 1000.
-/
import Derived.Test.YtmibpmijcghpaaaBeK
namespace Go.Proofs.Ytmibpmijcghpaaa
open Go.RowKit

/-- What all are to be. -/
def stC (ss : List Int) (k : Nat) : Int := if k < ss.length then ss.getD k 0 else 3
def allP (me : Sett) (xs : List Cho) (ss : List Int) (m : Nat) : List Int := (List.range m).map fun k : Nat => portC me xs k (stC ss k)
theorem allP_succ (me : Sett) (xs : List Cho) (ss : List Int) (m : Nat) : allP me xs ss (m + 1) = allP me xs ss m ++ [portC me xs m (stC ss m)] := by
  unfold allP
  rw [List.range_succ, List.map_append]
  rfl
@[simp] theorem allP_len (me : Sett) (xs : List Cho) (ss : List Int) (m : Nat) : (allP me xs ss m).length = m := by simp [allP]
theorem allP_get (me : Sett) (xs : List Cho) (ss : List Int) (m k : Nat) (h : k < m) : (allP me xs ss m).getD k 0 = portC me xs k (stC ss k) := by
  unfold allP
  simp [h]
theorem Dec.up {W W1 : World} {me : Sett} {xs : List Cho} {a : Option Addr} {cap c3 c8 c5 c7 c6 : Nat} (h : Dec W me xs a cap c3 c8 c5 c7 c6) (u : ∀ d, ∃ d', gr W1 d = gr W d') : Dec W1 me xs a cap c3 c8 c5 c7 c6 :=
  ⟨upr u h.r3, upr u h.r8, upr u h.r5, upr u h.r7, upr u h.r6, upX u h.rx⟩
theorem upI {W0 W1 : World} (u : ∀ d, ∃ d', gr W1 d = gr W0 d') {a : Option Addr} {cs : List Int} (h : ∀ d, RowsIn i1 0 1 (gr W0 d) a cs) : ∀ d, RowsIn i1 0 1 (gr W1 d) a cs := fun d => by
  obtain ⟨d', e⟩ := u d
  rw [e]
  exact h d'
/-- What an appending walk hands back. -/
def Ints (W : World) (cs : List Int) (e : Ending) (w' : World) : Prop := ∃ v V B, e = .returned v ∧ V.ownsRow B 3 1 v cs.length (rowsL i1 cs) ∧ (∀ d, ∃ d', gr V d = gr W d') ∧ w' = gr V V
theorem Ints.c {W : World} {cs : List Int} {f : FuncId} {args : Array Value} {d : World} {R : Ending → World → Prop} (h : Calls Try.prog f args (gr W d) (Ints W cs))
    (kk : ∀ W1 a' cap', (∀ d, RowsIn i1 0 1 (gr W1 d) a' cs) → (∀ d, ∃ d', gr W1 d = gr W d') → R (.returned (.slice a' cs.length cap')) (gr W1 W1)) : Calls Try.prog f args (gr W d) R := by
  refine h.mono ?_
  rintro e w' ⟨v, V, B, rfl, ho, hu, rfl⟩
  obtain ⟨_, a', cap', rfl, hX'⟩ := own_rows (f := i1) (m := 1) (fun _ => rfl) (by decide) 0 ho
  exact kk V a' cap' (fun d => hX'.gr (by decide) d) hu
set_option maxRecDepth 100000 in
set_option maxHeartbeats 2000000 in
theorem dall_c (me : Sett) (xs : List Cho) (hl : xs.length ≤ 1000) (hR : ∀ k, k < xs.length → inR (xs.getD k zeroCh).s.n) (hM : inR me.n) (ss : List Int) (hs : ss.length ≤ 1000) {W d : World} {a a2 : Option Addr} {cap cap2 : Nat} (hX : ∀ d, RowsIn cha zeroCh 33 (gr W d) a xs) (hS : ∀ d, RowsIn i1 0 1 (gr W d) a2 ss) :
    Calls Try.prog 10 #[.agg (sa me), .slice a xs.length cap, .slice a2 ss.length cap2] (gr W d) (Ints W (allP me xs ss xs.length)) := by
  obtain ⟨j0, hj0, jz0, jz1, jz2⟩ := info_parts infoI
  have hsu := allP_succ me xs ss
  have hle := allP_len me xs ss
  have HX_ := hid hX
  clear hX
  have HR_ := hid hR
  clear hR
  have HM_ := hid hM
  clear hM
  have HS_ := hid hS
  clear hS
  have HSU_ := hid hsu
  clear hsu
  have HLE_ := hid hle
  clear hle
  go_enter Try.func10, Try.ntmps10
  go_upto_region 1 with (fail)
  obtain ⟨W0, c, hE, ec, r4, u0⟩ := alloc1 W d (sa me) 29
  rw [hE]
  simp only [ec]
  clear hE ec
  go_wp2_with fail
  refine decider_c me xs hl HR_.out a cap (upX u0 HX_.out) ?_
  intro W1 c3 c8 c5 c7 c6 hd hu
  dsimp only
  have hu := up2 hu u0
  clear HX_ u0 r4
  have HD_ := hid hd
  clear hd
  have HU_ := hid hu
  clear hu
  go_wp2
  go_loopw [8, 16] (fun v8 i wr => ∃ (j : Nat) (V : World), j ≤ xs.length ∧ i = .int .i64 j ∧ V.ownsRow W1.heap.size 3 1 v8 j (rowsL i1 (allP me xs ss j)) ∧ Below W1.heap.size W1 V ∧ wr = gr V V) (fun _ i _ => xs.length - (intOf i).toNat)
  case atStart => exact ⟨0, gr W1 W1, by omega, rfl, by simpa [rowsL, allP] using World.ownsRow_nil _ _ _ _, gr_below W1 W1, gr_self _⟩
  case round =>
    obtain ⟨j, V, hj, rfl, h3, hb, rfl⟩ := hrel
    by_cases hjt : j < xs.length
    · have uV : ∀ d, ∃ d', gr V d = gr W1 d' := fun d => gr_ex (hb.trans ((gr_below V d).mono hb.size))
      have hf := dec_fn me xs hl HR_.out HM_.out (HD_.out.up uV) j (stC ss j)
      have es := HSU_.out j
      have hap := fun m => ownsRow_gr h3 m
      have hbm : ∀ m, Below W1.heap.size W1 (gr V m) := fun m => hb.trans ((gr_below V m).mono hb.size)
      clear h3 hb
      have HF_ := hid hf
      clear hf
      have ES_ := hid es
      clear es
      have HAP_ := hid hap
      clear hap
      have HBM_ := hid hbm
      clear hbm
      have UV_ := hid uV
      clear uV
      by_cases ht : j < ss.length
      · have hst : stC ss j = ss.getD j 0 := by unfold stC; rw [if_pos ht]
        obtain ⟨b2, off2, rfl, hc⟩ := i1_at (upI UV_.out (upI HU_.out HS_.out)) j ht
        have ht2 : (j : Int) < (ss.length : Int) := by omega
        rw [← hst] at hc
        generalize stC ss j = st at *
        generalize portC me xs j st = v at *
        clear hst
        go_wp2_with fail
        refine HF_.out.c fun m => ?_
        dsimp only
        clear HF_ HD_ HR_ HM_ HS_
        have hap := HAP_.out m
        have hbm := HBM_.out m
        have hz1 := hbm.size
        clear HAP_ HBM_
        have HAP_ := hid hap
        clear hap
        have HBM_ := hid hbm
        clear hbm
        go_wp2_with (at_builtin; refine wpList_append_own_at _ rfl _ _ 31 rfl W1.heap.size 3 j0 (.int .i64 0) 1 8 Try.underlying31 hj0 jz0 jz1 jz2 rfl (by decide) _ _ _ rfl (HAP_.out.alloc _) ⟨(gr V m).heap.size, 0, none⟩ 1 1 [.int .i64 v] rfl rfl (cell_one_new _ _ _) (by simp [Value.oneCell']) ?d3 ?d4 ?d5 ?_)
        case d3 => unfold maxLen; omega
        case d4 => omega
        case d5 => simp; omega
        intro v3' w1 h3' hg3 _ hl3
        have hb3 := (HBM_.out.alloc hz1 _).grown hg3 (by simp; omega) (own_block_le HAP_.out)
        clear HAP_ HBM_ hg3 hl3
        have H3'_ := hid h3'
        clear h3'
        have HB3_ := hid hb3
        clear hb3
        go_wp2
        refine ⟨⟨j + 1, w1, by omega, by go_num, ?_, HB3_.out, gr_self _⟩, by simp [intOf]; omega⟩
        rw [ES_.out, rowsL_snoc]
        exact H3'_.out
      · have hst : stC ss j = 3 := by unfold stC; rw [if_neg ht]
        have ht2 : ¬ (j : Int) < (ss.length : Int) := by omega
        rw [hst] at HF_ ES_
        generalize portC me xs j 3 = v at *
        clear hst
        go_wp2_with fail
        refine HF_.out.c fun m => ?_
        dsimp only
        clear HF_ HD_ HR_ HM_ HS_
        have hap := HAP_.out m
        have hbm := HBM_.out m
        have hz1 := hbm.size
        clear HAP_ HBM_
        have HAP_ := hid hap
        clear hap
        have HBM_ := hid hbm
        clear hbm
        go_wp2_with (at_builtin; refine wpList_append_own_at _ rfl _ _ 31 rfl W1.heap.size 3 j0 (.int .i64 0) 1 8 Try.underlying31 hj0 jz0 jz1 jz2 rfl (by decide) _ _ _ rfl (HAP_.out.alloc _) ⟨(gr V m).heap.size, 0, none⟩ 1 1 [.int .i64 v] rfl rfl (cell_one_new _ _ _) (by simp [Value.oneCell']) ?d3 ?d4 ?d5 ?_)
        case d3 => unfold maxLen; omega
        case d4 => omega
        case d5 => simp; omega
        intro v3' w1 h3' hg3 _ hl3
        have hb3 := (HBM_.out.alloc hz1 _).grown hg3 (by simp; omega) (own_block_le HAP_.out)
        clear HAP_ HBM_ hg3 hl3
        have H3'_ := hid h3'
        clear h3'
        have HB3_ := hid hb3
        clear hb3
        go_wp2
        refine ⟨⟨j + 1, w1, by omega, by go_num, ?_, HB3_.out, gr_self _⟩, by simp [intOf]; omega⟩
        rw [ES_.out, rowsL_snoc]
        exact H3'_.out
    · obtain rfl : j = xs.length := by omega
      have uV : ∀ d, ∃ d', gr V d = gr W d' := up2 (fun d => gr_ex (hb.trans ((gr_below V d).mono hb.size))) HU_.out
      clear HD_ HR_ HM_ HS_ hb
      have H3_ := hid h3
      clear h3
      have UV_ := hid uV
      clear uV
      go_wp2
      go_ret
      exact ⟨_, V, W1.heap.size, rfl, by rw [HLE_.out]; exact H3_.out, UV_.out, rfl⟩
set_option maxRecDepth 100000 in
set_option maxHeartbeats 2000000 in
theorem rall10_c (me : Sett) (xs : List Cho) (hl : xs.length ≤ 1000) (hR : ∀ k, k < xs.length → inR (xs.getD k zeroCh).s.n) (hM : inR me.n) (ss : List Int) (hs : ss.length ≤ 1000) {W d : World} {a a2 : Option Addr} {cap cap2 : Nat} (hX : ∀ d, RowsIn cha zeroCh 33 (gr W d) a xs) (hS : ∀ d, RowsIn i1 0 1 (gr W d) a2 ss) :
    Calls Try.prog 12 #[.agg (sa me), .slice a xs.length cap, .slice a2 ss.length cap2] (gr W d) (Ints W (allP me xs ss xs.length)) := by
  obtain ⟨j0, hj0, jz0, jz1, jz2⟩ := info_parts infoI
  have hsu := allP_succ me xs ss
  have hle := allP_len me xs ss
  have HX_ := hid hX
  clear hX
  have HR_ := hid hR
  clear hR
  have HM_ := hid hM
  clear hM
  have HS_ := hid hS
  clear hS
  have HSU_ := hid hsu
  clear hsu
  have HLE_ := hid hle
  clear hle
  go_enter Try.func12, Try.ntmps12
  go_upto_region 1 with (fail)
  obtain ⟨W0, c, hE, ec, r4, u0⟩ := alloc1 W d (sa me) 29
  rw [hE]
  simp only [ec]
  clear hE ec
  have r4' := r4
  have U0_ := hid u0
  clear u0
  have R4'_ := hid r4'
  clear r4'
  go_wp2
  go_loopw [7, 8] (fun v8 i wr => ∃ (j : Nat) (V : World), j ≤ xs.length ∧ i = .int .i64 j ∧ V.ownsRow W0.heap.size 3 1 v8 j (rowsL i1 (allP me xs ss j)) ∧ Below W0.heap.size W0 V ∧ wr = gr V V) (fun _ i _ => xs.length - (intOf i).toNat)
  case atStart => exact ⟨0, gr W0 W0, by omega, rfl, by simpa [rowsL, allP] using World.ownsRow_nil _ _ _ _, gr_below W0 W0, gr_self _⟩
  case round =>
    obtain ⟨j, V, hj, rfl, h3, hb, rfl⟩ := hrel
    by_cases hjt : j < xs.length
    · have uV : ∀ d, ∃ d', gr V d = gr W0 d' := fun d => gr_ex (hb.trans ((gr_below V d).mono hb.size))
      have hf := rport_fn me xs hl HR_.out HM_.out (upX uV (upX U0_.out HX_.out)) j (stC ss j) (cap := cap)
      have r4 := upr uV R4'_.out
      have es := HSU_.out j
      have hap := fun m => ownsRow_gr h3 m
      have hbm : ∀ m, Below W0.heap.size W0 (gr V m) := fun m => hb.trans ((gr_below V m).mono hb.size)
      clear h3 hb
      have HF_ := hid hf
      clear hf
      have ES_ := hid es
      clear es
      have HAP_ := hid hap
      clear hap
      have HBM_ := hid hbm
      clear hbm
      have UV_ := hid uV
      clear uV
      by_cases ht : j < ss.length
      · have hst : stC ss j = ss.getD j 0 := by unfold stC; rw [if_pos ht]
        obtain ⟨b2, off2, rfl, hc⟩ := i1_at (upI UV_.out (upI U0_.out HS_.out)) j ht
        have ht2 : (j : Int) < (ss.length : Int) := by omega
        rw [← hst] at hc
        generalize stC ss j = st at *
        generalize portC me xs j st = v at *
        clear hst
        go_wp2_with fail
        refine HF_.out.c fun m => ?_
        dsimp only
        clear HF_ HR_ HM_ HS_
        have hap := HAP_.out m
        have hbm := HBM_.out m
        have hz1 := hbm.size
        clear HAP_ HBM_
        have HAP_ := hid hap
        clear hap
        have HBM_ := hid hbm
        clear hbm
        go_wp2_with (at_builtin; refine wpList_append_own_at _ rfl _ _ 31 rfl W0.heap.size 3 j0 (.int .i64 0) 1 8 Try.underlying31 hj0 jz0 jz1 jz2 rfl (by decide) _ _ _ rfl (HAP_.out.alloc _) ⟨(gr V m).heap.size, 0, none⟩ 1 1 [.int .i64 v] rfl rfl (cell_one_new _ _ _) (by simp [Value.oneCell']) ?d3 ?d4 ?d5 ?_)
        case d3 => unfold maxLen; omega
        case d4 => omega
        case d5 => simp; omega
        intro v3' w1 h3' hg3 _ hl3
        have hb3 := (HBM_.out.alloc hz1 _).grown hg3 (by simp; omega) (own_block_le HAP_.out)
        clear HAP_ HBM_ hg3 hl3
        have H3'_ := hid h3'
        clear h3'
        have HB3_ := hid hb3
        clear hb3
        go_wp2
        refine ⟨⟨j + 1, w1, by omega, by go_num, ?_, HB3_.out, gr_self _⟩, by simp [intOf]; omega⟩
        rw [ES_.out, rowsL_snoc]
        exact H3'_.out
      · have hst : stC ss j = 3 := by unfold stC; rw [if_neg ht]
        have ht2 : ¬ (j : Int) < (ss.length : Int) := by omega
        rw [hst] at HF_ ES_
        generalize portC me xs j 3 = v at *
        clear hst
        go_wp2_with fail
        refine HF_.out.c fun m => ?_
        dsimp only
        clear HF_ HR_ HM_ HS_
        have hap := HAP_.out m
        have hbm := HBM_.out m
        have hz1 := hbm.size
        clear HAP_ HBM_
        have HAP_ := hid hap
        clear hap
        have HBM_ := hid hbm
        clear hbm
        go_wp2_with (at_builtin; refine wpList_append_own_at _ rfl _ _ 31 rfl W0.heap.size 3 j0 (.int .i64 0) 1 8 Try.underlying31 hj0 jz0 jz1 jz2 rfl (by decide) _ _ _ rfl (HAP_.out.alloc _) ⟨(gr V m).heap.size, 0, none⟩ 1 1 [.int .i64 v] rfl rfl (cell_one_new _ _ _) (by simp [Value.oneCell']) ?d3 ?d4 ?d5 ?_)
        case d3 => unfold maxLen; omega
        case d4 => omega
        case d5 => simp; omega
        intro v3' w1 h3' hg3 _ hl3
        have hb3 := (HBM_.out.alloc hz1 _).grown hg3 (by simp; omega) (own_block_le HAP_.out)
        clear HAP_ HBM_ hg3 hl3
        have H3'_ := hid h3'
        clear h3'
        have HB3_ := hid hb3
        clear hb3
        go_wp2
        refine ⟨⟨j + 1, w1, by omega, by go_num, ?_, HB3_.out, gr_self _⟩, by simp [intOf]; omega⟩
        rw [ES_.out, rowsL_snoc]
        exact H3'_.out
    · obtain rfl : j = xs.length := by omega
      have uV : ∀ d, ∃ d', gr V d = gr W d' := up2 (fun d => gr_ex (hb.trans ((gr_below V d).mono hb.size))) U0_.out
      clear HR_ HM_ HS_ hb
      have H3_ := hid h3
      clear h3
      have UV_ := hid uV
      clear uV
      go_wp2
      go_ret
      exact ⟨_, V, W0.heap.size, rfl, by rw [HLE_.out]; exact H3_.out, UV_.out, rfl⟩
end Go.Proofs.Ytmibpmijcghpaaa
