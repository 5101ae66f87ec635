/-
  What a port is to be, as plain data; the walks of the program's decider and of what it hands back. No condition but the numbers' range, and that there are at most 1000.
-/
import Derived.Test.YtmibpmijcghpaaaBeF
namespace Go.Proofs.Ytmibpmijcghpaaa
open Go.RowKit

theorem infoRC : (Try.prog.info? 45).map (fun i => (i.zero, i.size, i.bytes)) = some (some (.agg (cha zeroCh)), 33, 96) := by kernel_rfl
@[go_sem] theorem bldCh (w : World) (s : Sett) (v : Bool) : (bld 47 #[(0, .agg (sa s)), (1, .bool v)]).run Try.prog w = .ok (.agg (cha ⟨s, v⟩)) w := by
  refine run_bld w ?_
  unfold Program.built
  rw [Try.underlying47]
  obtain ⟨i0, hi0, hz0, hz1, hz2⟩ := info_parts infoC
  obtain ⟨j0, hj0, jz0, jz1, jz2⟩ := info_parts infoS
  obtain ⟨k0, hk0⟩ := Option.isSome_iff_exists.1 (show (Try.prog.info? 4).isSome = true by kernel_rfl)
  have hks : k0.size = 1 := by
    have h : (Try.prog.info? 4).map (·.size) = some 1 := by kernel_rfl
    rw [hk0] at h
    simpa using h
  have h1 := wrK_get (sa s).toList 0 (cha zeroCh) (by simp)
  have e1 : Array.foldl (fun cs x => cs.setIfInBounds x.snd x.fst) (cha zeroCh) (sa s).zipIdx 0 (sa s).size = ((sa s).toList.zipIdx 0).foldl (fun c x => c.setIfInBounds x.2 x.1) (cha zeroCh) := by
    rw [← Array.toList_zipIdx, Array.foldl_toList]
    simp
  have e2 : (Value.bool v).cells = #[.bool v] := rfl
  have e3 : (Value.agg (sa s)).cells = sa s := rfl
  have e4 : (Value.agg (cha zeroCh)).cells = cha zeroCh := rfl
  simp [hi0, hz0, hj0, hk0, jz1, hks, Instr.fill, e2, e3, e4]
  simp only [sa_size] at e1
  rw [e1]
  obtain ⟨g1, g2⟩ := h1
  refine ⟨by rw [g1]; simp, ?_⟩
  apply Array.ext_getElem?
  intro j
  rw [Array.getElem?_setIfInBounds]
  by_cases h32 : 32 = j
  · subst h32
    rw [if_pos rfl, if_pos (by rw [g1]; simp), cha_32]
  · rw [if_neg h32, g2 j]
    by_cases hj : j < 32
    · rw [if_pos (by simp; omega)]
      unfold cha
      rw [Array.getElem?_append_left (by simp; omega)]
      simp
    · rw [if_neg (by simp; omega), Array.getElem?_eq_none (by simp; omega), Array.getElem?_eq_none (by simp; omega)]
@[go_sem] theorem bldRCh (w : World) (s : Sett) (v : Bool) : (bld 45 #[(0, .agg (sa s)), (1, .bool v)]).run Try.prog w = .ok (.agg (cha ⟨s, v⟩)) w := by
  refine run_bld w ?_
  unfold Program.built
  rw [Try.underlying45]
  obtain ⟨i0, hi0, hz0, hz1, hz2⟩ := info_parts infoRC
  obtain ⟨j0, hj0, jz0, jz1, jz2⟩ := info_parts infoS
  obtain ⟨k0, hk0⟩ := Option.isSome_iff_exists.1 (show (Try.prog.info? 4).isSome = true by kernel_rfl)
  have hks : k0.size = 1 := by
    have h : (Try.prog.info? 4).map (·.size) = some 1 := by kernel_rfl
    rw [hk0] at h
    simpa using h
  have h1 := wrK_get (sa s).toList 0 (cha zeroCh) (by simp)
  have e1 : Array.foldl (fun cs x => cs.setIfInBounds x.snd x.fst) (cha zeroCh) (sa s).zipIdx 0 (sa s).size = ((sa s).toList.zipIdx 0).foldl (fun c x => c.setIfInBounds x.2 x.1) (cha zeroCh) := by
    rw [← Array.toList_zipIdx, Array.foldl_toList]
    simp
  have e2 : (Value.bool v).cells = #[.bool v] := rfl
  have e3 : (Value.agg (sa s)).cells = sa s := rfl
  have e4 : (Value.agg (cha zeroCh)).cells = cha zeroCh := rfl
  simp [hi0, hz0, hj0, hk0, jz1, hks, Instr.fill, e2, e3, e4]
  simp only [sa_size] at e1
  rw [e1]
  obtain ⟨g1, g2⟩ := h1
  refine ⟨by rw [g1]; simp, ?_⟩
  apply Array.ext_getElem?
  intro j
  rw [Array.getElem?_setIfInBounds]
  by_cases h32 : 32 = j
  · subst h32
    rw [if_pos rfl, if_pos (by rw [g1]; simp), cha_32]
  · rw [if_neg h32, g2 j]
    by_cases hj : j < 32
    · rw [if_pos (by simp; omega)]
      unfold cha
      rw [Array.getElem?_append_left (by simp; omega)]
      simp
    · rw [if_neg (by simp; omega), Array.getElem?_eq_none (by simp; omega), Array.getElem?_eq_none (by simp; omega)]
@[go_sem] theorem bldCh0 (w : World) : (bld 47 #[]).run Try.prog w = .ok (.agg (cha zeroCh)) w := run_bld w (by kernel_rfl)
def leadsC (me : Sett) : Bool := decide (1 ≤ me.x) && decide (me.x ≤ 127)
def bestC (xs : List Cho) : Cho := if allC xs < 0 then zeroCh else xs.getD (allC xs).toNat zeroCh
/-- What it is to be, where it is there and heard enough. -/
def codeC (me : Sett) (xs : List Cho) (k : Nat) : Int :=
  if leadsC me then (if betterC ⟨me, true⟩ (xs.getD k zeroCh) then 1 else 5)
  else if betterC ⟨me, true⟩ (bestC xs) then 2
  else if allC xs = (k : Int) then 4
  else if byWayC (bestC xs) (xs.getD k zeroCh) then 6 else 3
def portC (me : Sett) (xs : List Cho) (k st : Int) : Int :=
  if k < 0 ∨ (xs.length : Int) ≤ k ∨ st = 1 ∨ st = 2 ∨ st = 3 then 0
  else if st = 4 ∧ (xs.getD k.toNat zeroCh).is = false then 0
  else codeC me xs k.toNat
/-- What the decider has captured. -/
structure Dec (W : World) (me : Sett) (xs : List Cho) (a : Option Addr) (cap : Nat) (c3 c8 c5 c7 c6 : Nat) : Prop where
  r3 : ∀ d, row? (gr W d) c3 = #[.slice a xs.length cap]
  r8 : ∀ d, row? (gr W d) c8 = #[.bool (leadsC me)]
  r5 : ∀ d, row? (gr W d) c5 = cha ⟨me, true⟩
  r7 : ∀ d, row? (gr W d) c7 = cha (bestC xs)
  r6 : ∀ d, row? (gr W d) c6 = #[.int .i64 (allC xs)]
  rx : ∀ d, RowsIn cha zeroCh 33 (gr W d) a xs
abbrev pt (b : Nat) : Value := .pointer (some ⟨b, 0, none⟩)
theorem upX {W0 W1 : World} (u : ∀ d, ∃ d', gr W1 d = gr W0 d') {a : Option Addr} {xs : List Cho} (h : ∀ d, RowsIn cha zeroCh 33 (gr W0 d) a xs) : ∀ d, RowsIn cha zeroCh 33 (gr W1 d) a xs := fun d => by
  obtain ⟨d', e⟩ := u d
  rw [e]
  exact h d'
/-- Three blocks at a function's begin, the third one written. -/
theorem begin3 (W d : World) (A B Z C : Array Value) (S T U : TypeId) (hZ : Z ≠ #[]) :
    ∃ W1 c, ((((gr W d).alloc (.cells A S)).alloc (.cells B T)).alloc (.cells Z U)).setRow ((gr W d).heap.size + 1 + 1) C = gr W1 W1 ∧ (gr W d).heap.size = c ∧
      (∀ d, row? (gr W1 d) c = A) ∧ (∀ d, row? (gr W1 d) (c + 1) = B) ∧ (∀ d, row? (gr W1 d) (c + 2) = C) ∧ (∀ d, ∃ d', gr W1 d = gr W d') ∧ c + 3 ≤ W1.heap.size := by
  obtain ⟨W1, h1, r1, u1⟩ : ∃ W1, (gr W d).alloc (.cells A S) = gr W1 W1 ∧ (∀ e, row? (gr W1 e) (gr W d).heap.size = A) ∧ (∀ e, ∃ d', gr W1 e = gr W d') :=
    ⟨(gr W d).alloc (.cells A S), gr_self _, gr_row (by simp [row_alloc, rowOf]) (by simp), fun e => gr_ex (((gr_below W d).alloc (gr_below W d).size _).trans ((gr_below _ e).mono (by have := (gr_below W d).size; simp; omega)))⟩
  obtain ⟨W2, h2, r2, u2⟩ : ∃ W2, (gr W1 W1).alloc (.cells B T) = gr W2 W2 ∧ (∀ e, row? (gr W2 e) (gr W1 W1).heap.size = B) ∧ (∀ e, ∃ d', gr W2 e = gr W1 d') :=
    ⟨(gr W1 W1).alloc (.cells B T), gr_self _, gr_row (by simp [row_alloc, rowOf]) (by simp), fun e => gr_ex (((gr_below W1 W1).alloc (gr_below W1 W1).size _).trans ((gr_below _ e).mono (by have := (gr_below W1 W1).size; simp; omega)))⟩
  obtain ⟨W3, h3, r3, _, u3, _⟩ := newblk W2 W2 Z C U hZ
  have e1 : (gr W1 W1).heap.size = (gr W d).heap.size + 1 := by rw [← h1]; simp
  have e2 : (gr W2 W2).heap.size = (gr W d).heap.size + 1 + 1 := by rw [← h2, ← e1]; simp
  refine ⟨W3, _, ?_, rfl, upr u3 (upr u2 r1), ?_, ?_, fun e => ?_, ?_⟩
  · rw [h1, h2, ← e2, h3]
  · rw [← e1]; exact upr u3 r2
  · rw [show (gr W d).heap.size + 2 = (gr W d).heap.size + 1 + 1 from rfl, ← e2]; exact r3
  · obtain ⟨x, hx⟩ := u3 e
    obtain ⟨y, hy⟩ := u2 x
    obtain ⟨z, hz⟩ := u1 y
    exact ⟨z, by rw [hx, hy, hz]⟩
  · have h : _ = (gr W3 W3).heap.size := congrArg (fun w : World => w.heap.size) h3
    rw [← gr_self W3] at h
    simp [World.setRow] at h
    omega
/-- Two new blocks. -/
theorem alloc2 (W d : World) (A B : Array Value) (S T : TypeId) :
    ∃ W2 c, ((gr W d).alloc (.cells A S)).alloc (.cells B T) = gr W2 W2 ∧ (gr W d).heap.size = c ∧ (∀ d, row? (gr W2 d) c = A) ∧ (∀ d, row? (gr W2 d) (c + 1) = B) ∧ (∀ d, own? (gr W2 d) (c + 1) = true) ∧ (∀ d, ∃ d', gr W2 d = gr W d') := by
  have hb : Below W.heap.size W (((gr W d).alloc (.cells A S)).alloc (.cells B T)) := ((gr_below W d).alloc (gr_below W d).size _).alloc (by have := (gr_below W d).size; simp; omega) _
  exact ⟨_, _, gr_self _, rfl, gr_row (by simp [row_alloc, rowOf]) (by simp; omega), gr_row (by simp [row_alloc, rowOf]) (by simp), gr_own (by simp [own_alloc, ownOf]), fun e => gr_ex (hb.trans ((gr_below _ e).mono hb.size))⟩
theorem set1 {W d : World} {b : Nat} {A B : Array Value} (hr : ∀ d, row? (gr W d) b = A) (ho : ∀ d, own? (gr W d) b = true) (hA : A ≠ #[]) {W0 : World} (h0 : W0.heap.size ≤ b) (hu : ∀ d, ∃ d', gr W d = gr W0 d') :
    ∃ W1, (gr W d).setRow b B = gr W1 W1 ∧ (∀ d, row? (gr W1 d) b = B) ∧ (∀ c C, c ≠ b → C ≠ #[] → (∀ d, row? (gr W d) c = C) → ∀ d, row? (gr W1 d) c = C) ∧ (∀ d, ∃ d', gr W1 d = gr W0 d') := by
  have hlt : b < (gr W d).heap.size := row_lt (by rw [hr]; exact hA)
  have hbl : Below W0.heap.size W0 (gr W d) := by
    obtain ⟨d', e⟩ := hu d
    rw [e]
    exact gr_below W0 d'
  have hb : Below W0.heap.size W0 ((gr W d).setRow b B) := ⟨hbl.os, hbl.tape, hbl.output, by have := hbl.size; simpa [World.setRow] using this, fun k hk => (setRow_other _ _ k _ (by omega)).trans (hbl.block k hk)⟩
  refine ⟨_, gr_self _, gr_row ?_ (by simpa [World.setRow] using hlt), fun c C hne hC hc => gr_row ?_ ?_, fun e => gr_ex (hb.trans ((gr_below _ e).mono hb.size))⟩
  · rw [row_setRow _ _ _ _ (by rw [hr]; exact hA), if_pos rfl]
  · rw [row_setRow _ _ _ _ (by rw [hr]; exact hA), if_neg hne, hc]
  · have : c < (gr W d).heap.size := row_lt (by rw [hc]; exact hC)
    simpa [World.setRow] using this
theorem up2 {W0 W1 W2 : World} (u2 : ∀ d, ∃ d', gr W2 d = gr W1 d') (u1 : ∀ d, ∃ d', gr W1 d = gr W0 d') : ∀ d, ∃ d', gr W2 d = gr W0 d' := fun d => by
  obtain ⟨x, hx⟩ := u2 d
  obtain ⟨y, hy⟩ := u1 x
  exact ⟨y, by rw [hx, hy]⟩
/-- The end of the decider's walk: the last block is new. -/
theorem dec_end {W0 W2 : World} {me : Sett} {xs : List Cho} {a : Option Addr} {cap c3 c5 c7 c6 : Nat} (l : Bool) (hl : leadsC me = l)
    (hD : ∀ W3 c8, (∀ d, row? (gr W3 d) c8 = #[.bool (leadsC me)]) → (∀ d, ∃ d', gr W3 d = gr W2 d') → Dec W3 me xs a cap c3 c8 c5 c7 c6) (hu : ∀ d, ∃ d', gr W2 d = gr W0 d') (d : World) :
    ∃ W1 x3 x8 x5 x7 x6, Ending.returned (Value.func (.func 24) #[] #[pt c3, pt (gr W2 d).heap.size, pt c5, pt c7, pt c6]) = .returned (.func (.func 24) #[] #[pt x3, pt x8, pt x5, pt x7, pt x6]) ∧ Dec W1 me xs a cap x3 x8 x5 x7 x6 ∧ (∀ d, ∃ d', gr W1 d = gr W0 d') ∧ (gr W2 d).alloc (.cells #[.bool l] 4) = gr W1 W1 := by
  have hb : Below W2.heap.size W2 ((gr W2 d).alloc (.cells #[.bool l] 4)) := (gr_below W2 d).alloc (gr_below W2 d).size _
  have u : ∀ e, ∃ d', gr ((gr W2 d).alloc (.cells #[.bool l] 4)) e = gr W2 d' := fun e => gr_ex (hb.trans ((gr_below _ e).mono hb.size))
  refine ⟨(gr W2 d).alloc (.cells #[.bool l] 4), c3, (gr W2 d).heap.size, c5, c7, c6, rfl, hD _ _ ?_ u, up2 u hu, gr_self _⟩
  rw [hl]
  exact gr_row (by simp [row_alloc, rowOf]) (by simp)
set_option maxRecDepth 100000 in
set_option maxHeartbeats 2000000 in
theorem decider_c (me : Sett) (xs : List Cho) (hl : xs.length ≤ 1000) (hR : ∀ k, k < xs.length → inR (xs.getD k zeroCh).s.n) (a : Option Addr) (cap : Nat) {W d : World} (hX : ∀ d, RowsIn cha zeroCh 33 (gr W d) a xs) {R : Ending → World → Prop}
    (kk : ∀ W1 c3 c8 c5 c7 c6, Dec W1 me xs a cap c3 c8 c5 c7 c6 → (∀ d, ∃ d', gr W1 d = gr W d') → R (.returned (.func (.func 24) #[] #[pt c3, pt c8, pt c5, pt c7, pt c6])) (gr W1 W1)) :
    Calls Try.prog 19 #[.agg (sa me), .slice a xs.length cap] (gr W d) R := by
  suffices h : Calls Try.prog 19 #[.agg (sa me), .slice a xs.length cap] (gr W d) fun e w' => ∃ W1 c3 c8 c5 c7 c6, e = .returned (.func (.func 24) #[] #[pt c3, pt c8, pt c5, pt c7, pt c6]) ∧ Dec W1 me xs a cap c3 c8 c5 c7 c6 ∧ (∀ d, ∃ d', gr W1 d = gr W d') ∧ w' = gr W1 W1 from by
    refine h.mono ?_
    rintro e w' ⟨W1, c3, c8, c5, c7, c6, rfl, hd, hu, rfl⟩
    exact kk W1 c3 c8 c5 c7 c6 hd hu
  clear kk
  have HR_ := hid hR
  clear hR
  have HX_ := hid hX
  clear hX
  go_enter Try.func19, Try.ntmps19
  go_wp2_with fail
  obtain ⟨W1, c, hE, ec, r2, r3, r5, u1, hz⟩ := begin3 W d (sa me) #[.slice a xs.length cap] (cha zeroCh) (cha ⟨me, true⟩) 29 34 47 (by simp)
  rw [hE]
  simp only [ec]
  clear hE ec
  have hf := all_fn xs hl HR_.out a cap (upX u1 HX_.out)
  have hlead : leadsC me = (decide (1 ≤ me.x) && decide (me.x ≤ 127)) := rfl
  rcases allC_spec xs with ⟨e1, _⟩ | ⟨n, hn, e1, _⟩
  · have eb : bestC xs = zeroCh := by unfold bestC; rw [if_pos (by omega)]
    rw [e1] at hf
    have HF_ := hid hf
    clear hf
    refine HF_.out.c fun m => ?_
    dsimp only
    go_upto_region 6 with (fail)
    obtain ⟨W2, c', hE, ec, r6, r7, _, u2⟩ := alloc2 W1 m #[.int .i64 (-1)] (cha zeroCh) 3 47
    rw [hE]
    simp only [ec]
    clear hE ec
    have hD : ∀ W3 c8, (∀ d, row? (gr W3 d) c8 = #[.bool (leadsC me)]) → (∀ d, ∃ d', gr W3 d = gr W2 d') → Dec W3 me xs a cap (c + 1) c8 (c + 1 + 1) (c' + 1) c' := fun W3 c8 h8 u3 =>
      ⟨upr u3 (upr u2 r3), h8, upr u3 (upr u2 r5), by rw [eb]; exact upr u3 r7, by rw [e1]; exact upr u3 r6, upX u3 (upX u2 (upX u1 HX_.out))⟩
    have g2 : ∀ d, (row? (gr W2 d) c)[2]? = some (.int .i64 me.x) := fun d => by rw [upr u2 r2, sa_2]
    have hu := up2 u2 u1
    have hend := fun l hl => dec_end l hl hD hu
    clear r2 r3 r5 r6 r7 e1 eb HR_ u1 u2 hD hu
    have HEND_ := hid hend
    clear hend
    by_cases h1 : 1 ≤ me.x
    · by_cases h2 : me.x ≤ 127
      · have el : leadsC me = true := by rw [hlead]; simp [h1, h2]
        clear hlead
        go_wp2
        go_ret
        exact HEND_.out true el W2
      · have el : leadsC me = false := by rw [hlead]; simp [h2]
        clear hlead
        go_wp2
        go_ret
        exact HEND_.out false el W2
    · have el : leadsC me = false := by rw [hlead]; simp [h1]
      clear hlead
      go_wp2
      go_ret
      exact HEND_.out false el W2
  · have eb : bestC xs = xs.getD n zeroCh := by unfold bestC; rw [e1, if_neg (by omega)]; rfl
    rw [e1] at hf
    have HF_ := hid hf
    clear hf
    refine HF_.out.c fun m => ?_
    dsimp only
    go_upto_region 4 with (fail)
    obtain ⟨W2, c', hE, ec, r6, r7, q7, u2⟩ := alloc2 W1 m #[.int .i64 n] (cha zeroCh) 3 47
    rw [hE]
    simp only [ec]
    have ec' := ec
    clear hE ec
    have hX2 := upX u2 (upX u1 HX_.out)
    have h0 : xs ≠ [] := by intro e; rw [e] at hn; simp at hn
    obtain ⟨b, off, rfl, _⟩ := (hX2 W).at h0
    have hA : ∀ d, RowsAt cha zeroCh 33 (gr W2 d) b off xs := fun d => by
      obtain ⟨c', off', e, hs⟩ := (hX2 d).at h0
      cases e
      exact hs
    have s1 := fun d => (hA d n hn).1
    have s2 := fun d => (hA d n hn).2
    have hn2 : (n : Int) < (xs.length : Int) := by omega
    have r3' := upr u2 r3
    have g7 : ∀ d, (row? (gr W2 d) (c' + 1)).size = 33 := fun d => by rw [r7, cha_size]
    have hWc := (hz : c + 3 ≤ W1.heap.size)
    have hc' : W1.heap.size ≤ c' := ec' ▸ (gr_below W1 m).size
    generalize xs.getD n zeroCh = p at *
    have HLEAD_ := hid hlead
    clear hlead
    have EB_ := hid eb
    clear eb
    have HX2_ := hid hX2
    clear hX2
    clear hA
    go_upto_region 6 with (fail)
    obtain ⟨W3, hE, s7, up3, u3⟩ := set1 (d := W2) r7 q7 (B := cha p) (by simp) (W0 := W1) (by omega) u2
    rw [hE]
    clear hE
    have k2 := up3 c _ (by omega) (by simp) (upr u2 r2)
    have k3 := up3 (c + 1) _ (by omega) (by simp) (upr u2 r3)
    have k5 := up3 (c + 1 + 1) _ (by omega) (by simp) (upr u2 r5)
    have k6 := up3 c' _ (by omega) (by simp) r6
    have hD : ∀ W4 c8, (∀ d, row? (gr W4 d) c8 = #[.bool (leadsC me)]) → (∀ d, ∃ d', gr W4 d = gr W3 d') → Dec W4 me xs (some ⟨b, off, none⟩) cap (c + 1) c8 (c + 1 + 1) (c' + 1) c' := fun W4 c8 h8 u4 =>
      ⟨upr u4 k3, h8, upr u4 k5, by rw [EB_.out]; exact upr u4 s7, by rw [e1]; exact upr u4 k6, upX u4 (upX u3 (upX u1 HX_.out))⟩
    have g2 : ∀ d, (row? (gr W3 d) c)[2]? = some (.int .i64 me.x) := fun d => by rw [k2, sa_2]
    have hu := up2 u3 u1
    have hend := fun l hl => dec_end l hl hD hu
    have hlead := HLEAD_.out
    clear r2 r3 r5 r6 r7 e1 EB_ HR_ u1 u2 u3 hD hu s7 up3 k2 k3 k5 k6 g7 s1 s2 r3' hn2 HX2_ HLEAD_ q7
    have HEND_ := hid hend
    clear hend
    by_cases h1 : 1 ≤ me.x
    · by_cases h2 : me.x ≤ 127
      · have el : leadsC me = true := by rw [hlead]; simp [h1, h2]
        clear hlead
        go_wp2
        go_ret
        exact HEND_.out true el W3
      · have el : leadsC me = false := by rw [hlead]; simp [h2]
        clear hlead
        go_wp2
        go_ret
        exact HEND_.out false el W3
    · have el : leadsC me = false := by rw [hlead]; simp [h1]
      clear hlead
      go_wp2
      go_ret
      exact HEND_.out false el W3
end Go.Proofs.Ytmibpmijcghpaaa
