/-
  The walk of round, for every closure of this form. No condition.
-/
import Derived.Test.YtbdpnmocbpplbaaQuD
import Derived.Deep.DeepCutAuto
import Derived.Deep.CutBlock
namespace Go.Proofs.Ytbdpnmocbpplbaa
open Go.RowKit Go.Conc

/-- What is kept of the first n. -/
def keptN (keep : Nat → Bool) (xs : List Itm) : Nat → List Itm
  | 0 => []
  | k + 1 => keptN keep xs k ++ if keep k then [xs.getD k zeroI] else []
theorem keptN_len (keep : Nat → Bool) (xs : List Itm) : ∀ n, (keptN keep xs n).length ≤ n
  | 0 => Nat.le_refl _
  | n + 1 => by
    have := keptN_len keep xs n
    unfold keptN
    split <;> simp <;> omega
/-- A closure that goes through items: what it keeps to itself lies in C, and is J. -/
structure Clo (F : Nat) (caps : Array Value) (C : Nat → Prop) (J : Nat → World → Prop) (xs : List Itm) (keep : Nat → Bool) : Prop where
  run : ∀ args w, (callFunc F args).run Try.prog w = .ok (.enter F args) w
  call : ∀ k, k < xs.length → ∀ v W, J k W → ItmIn W v (xs.getD k zeroI) → (∀ b, blkOf v = some b → ¬ C b) →
    Calls Try.prog F (#[.int .i64 k, v] ++ caps) W fun e W' => e = .returned (.tuple #[v, .bool (keep k)]) ∧ J (k + 1) W' ∧ Chg C W W'
  own : ∀ k W W' S, J k W → Chg S W W' → (∀ b, S b → row? W b = #[]) → J k W'
  cells : ∀ k W b, J k W → C b → b < W.heap.size ∧ row? W b ≠ #[]
def Fresh (N : Nat) (w : World) (vs : List Value) : Prop := ∀ v ∈ vs, ∀ b, blkOf v = some b → N ≤ b ∧ own? w b = true
theorem Fresh.kept {N : Nat} {w w' : World} {vs : List Value} (h : Fresh N w vs) {S : Nat → Prop} (hc : Chg S w w') (hS : ∀ v ∈ vs, ∀ b, blkOf v = some b → ¬ S b) : Fresh N w' vs := fun v hv b hb =>
  ⟨(h v hv b hb).1, by rw [hc.own (own_lt (h v hv b hb).2) (hS v hv b hb)]; exact (h v hv b hb).2⟩
theorem Fresh.snoc {N : Nat} {w : World} {vs : List Value} (h : Fresh N w vs) {v : Value} (hv : ∀ b, blkOf v = some b → N ≤ b ∧ own? w b = true) : Fresh N w (vs ++ [v]) := fun u hu b hb => by
  rcases List.mem_append.1 hu with h1 | h1
  · exact h u h1 b hb
  · obtain rfl : u = v := by simpa using h1
    exact hv b hb
theorem Its.drop {w : World} {vs : List Value} {xs : List Itm} (h : Its w vs xs) (k : Nat) (hk : k < xs.length) : ∃ v, vs.drop k = v :: vs.drop (k + 1) ∧ v ∈ vs ∧ ItmIn w v (xs.getD k zeroI) := by
  have hk' : k < vs.length := by rw [h.1]; exact hk
  refine ⟨vs[k], List.drop_eq_getElem_cons hk', List.getElem_mem hk', ?_⟩
  have := h.2 k hk
  rwa [List.getD_eq_getElem?_getD, List.getElem?_eq_getElem hk'] at this
/-- What a round keeps. -/
structure InvR (w : World) (b ch most : Nat) (C : Nat → Prop) (J : Nat → World → Prop) (vs : List Value) (xs : List Itm) (keep : Nat → Bool) (k : Nat) (wr : World) : Prop where
  ex : ∃ us, Que wr b ch most (vs.drop k ++ us) ∧ Its wr us (keptN keep xs k) ∧ Fresh w.heap.size wr us ∧ (∀ v ∈ us, ∀ b, blkOf v = some b → ¬ C b)
  its : Its wr vs xs
  j : J k wr
  chg : Chg (fun b => b = ch ∨ C b) w wr
theorem newb (w : World) (A B : Array Value) (S : TypeId) (hA : A ≠ #[]) : ∃ W1, (w.alloc (.cells A S)).setRow w.heap.size B = W1 ∧ row? W1 w.heap.size = B ∧ own? W1 w.heap.size = true ∧ Below w.heap.size w W1 ∧ w.heap.size < W1.heap.size := by
  have hr : row? (w.alloc (.cells A S)) w.heap.size = A := by simp [row_alloc, rowOf]
  refine ⟨_, rfl, ?_, ?_, ((Below.refl _ w).alloc (Nat.le_refl _) _).trans ⟨rfl, rfl, rfl, by simp [World.setRow], fun k hk => setRow_other _ _ k _ (by omega)⟩, by simp⟩
  · rw [row_setRow _ _ _ _ (by rw [hr]; exact hA), if_pos rfl]
  · rw [own_setRow, own_alloc, if_pos rfl]; rfl
theorem Que.ownc {w : World} {b ch most : Nat} {vs : List Value} (h : Que w b ch most vs) : own? w ch = false := by
  obtain ⟨s, r, hc⟩ := h.c
  unfold own?; rw [hc]; rfl
/-- One item on: what the steps of a round come to. -/
theorem InvR.next {w : World} {b ch most : Nat} {C : Nat → Prop} {J : Nat → World → Prop} {vs : List Value} {xs : List Itm} {keep : Nat → Bool} {k : Nat} {wr w5 : World} {us ps : List Value} {ys : List Itm}
    (hoff : ∀ v ∈ vs, ∀ b, blkOf v = some b → ¬ C b) (q1 : Que wr b ch most ps) (i1 : Its wr us ys) (f1 : Fresh w.heap.size wr us) (c1 : ∀ v ∈ us, ∀ b, blkOf v = some b → ¬ C b) (its1 : Its wr vs xs)
    (h5 : Chg (fun b => b = ch ∨ C b) wr w5) : Its w5 us ys ∧ Fresh w.heap.size w5 us ∧ Its w5 vs xs :=
  ⟨i1.kept h5 (fun v hv b hb hs => by
      rcases hs with rfl | hs
      · exact q1.rowc
      · exact absurd hs (c1 v hv b hb)),
    f1.kept h5 (fun v hv b hb hs => by
      rcases hs with rfl | hs
      · have := (f1 v hv b hb).2
        rw [q1.ownc] at this
        cases this
      · exact absurd hs (c1 v hv b hb)),
    its1.kept h5 (fun v hv b hb hs => by
      rcases hs with rfl | hs
      · exact q1.rowc
      · exact absurd hs (hoff v hv b hb))⟩
set_option maxRecDepth 100000 in
set_option maxHeartbeats 1000000 in
theorem round_c {F : Nat} {caps : Array Value} {C : Nat → Prop} {J : Nat → World → Prop} {xs : List Itm} {keep : Nat → Bool} (hf : Clo F caps C J xs keep) {b ch most : Nat} {vs : List Value} (w : World) (hq : Que w b ch most vs) (hI : Its w vs xs) (hm : most ≤ 1000) (hn : xs.length ≤ most) (hl : ∀ k, k < xs.length → (xs.getD k zeroI).bs.length ≤ 140737488351232)
    (hoff : ∀ v ∈ vs, ∀ b, blkOf v = some b → ¬ C b) (hb : ¬ C b) (hc : ¬ C ch) (hJ : J 0 w) :
    Calls Try.prog 23 #[.pointer (some ⟨b, 0, none⟩), .func (.func F) #[] caps] w fun e w' => (∃ v, e = .returned v) ∧ InvR w b ch most C J vs xs keep xs.length w' := by
  have h0 : InvR w b ch most C J vs xs keep 0 w := ⟨⟨[], by simpa using hq, Its.nil w, fun v hv => absurd hv (by simp), fun v hv => absurd hv (by simp)⟩, hI, hJ, Chg.refl _ _⟩
  have hlen := hI.1
  have HF_ := hid hf
  clear hf
  have HL_ := hid hl
  clear hl
  have HOFF_ := hid hoff
  clear hoff
  have HB_ := hid hb
  clear hb
  have HC_ := hid hc
  clear hc
  have HI_ := hid hI
  clear hI
  have HJ_ := hid hJ
  clear hJ
  have H0_ := hid h0
  clear h0
  go_enter Try.func23, Try.ntmps23
  go_wp2_with fail
  refine (len_c hq).mono ?_
  rintro e w' ⟨rfl, rfl⟩
  dsimp only
  rw [hlen]
  go_wp2
  go_loopw [11] (fun i wr => ∃ k : Nat, k ≤ xs.length ∧ i = .int .i64 k ∧ InvR w' b ch most C J vs xs keep k wr) (fun i _ => xs.length - (intOf i).toNat)
  case atStart => exact ⟨0, by omega, rfl, H0_.out⟩
  case round =>
    obtain ⟨k, hk, rfl, hR⟩ := hrel
    by_cases hkt : k < xs.length
    · obtain ⟨⟨us, q1, i1, f1, c1⟩, its1, j1, ch1⟩ := hR
      obtain ⟨v, hv, hvm, hx⟩ := its1.drop k hkt
      rw [hv] at q1
      have hoffv := HOFF_.out v hvm
      have hkn : keptN keep xs (k + 1) = keptN keep xs k ++ if keep k then [xs.getD k zeroI] else [] := rfl
      have hlk := HL_.out k hkt
      have hcl := HF_.out.call k hkt v
      have hul : us.length ≤ k := by rw [i1.1]; exact keptN_len keep xs k
      have hxx := hx
      generalize hxk : xs.getD k zeroI = x at *
      obtain ⟨a, c, rfl, _⟩ := hxx
      have I1_ := hid i1
      clear i1
      have F1_ := hid f1
      clear f1
      have C1_ := hid c1
      clear c1
      have ITS1_ := hid its1
      clear its1
      have J1_ := hid j1
      clear j1
      have CH1_ := hid ch1
      clear ch1
      have HVM_ := hid hvm
      clear hvm
      have HX_ := hid hx
      clear hx
      have Q1_ := hid q1
      clear q1
      have HXK_ := hid hxk
      clear hxk
      have HOFFV_ := hid hoffv
      clear hoffv
      have HKN_ := hid hkn
      clear hkn
      have HCL_ := hid hcl
      clear hcl
      have HV_ := hid hv
      clear hv
      go_wp2_with fail
      refine (take_ok _ x wr Q1_.out HX_.out).mono ?_
      rintro e w2 ⟨rfl, q2, c2⟩
      dsimp only
      go_upto_region 4 with (fail)
      obtain ⟨w3, hE, r3, _, b3, z3⟩ := newb w2 (ic 0 none 0 0) (ic x.k a x.bs.length c) 32 (by simp)
      rw [hE]
      clear hE
      have t3 : Chg (fun b => b = ch ∨ C b) wr w3 := (c2.mono (fun _ _ h => .inl h)).trans (.of_below b3)
      have j3 : J k w3 := HF_.out.own k w2 w3 (fun _ => False) (HF_.out.own k wr w2 _ J1_.out c2 (fun b e => by rw [e]; exact Q1_.out.rowc)) (.of_below b3) (fun _ h => h.elim)
      have q3 := q2.below b3
      have x3 : ItmIn w3 (.agg (ic x.k a x.bs.length c)) x := HX_.out.kept t3 (fun b hb hs => by
        rcases hs with rfl | hs
        · exact Q1_.out.rowc
        · exact absurd hs (HOFFV_.out b hb))
      have call := HCL_.out w3 j3 x3 HOFFV_.out
      generalize w2.heap.size = n2 at *
      clear c2 b3 q2 j3 x3
      have T3_ := hid t3
      clear t3
      have Q3_ := hid q3
      clear q3
      have CALL_ := hid call
      clear call
      go_wp2_with fail
      rw [HF_.out.run, Oper.upon_enter]
      refine CALL_.out.mono ?_
      rintro e w4 ⟨rfl, j4, c4⟩
      dsimp only
      go_upto_region 5 with (fail)
      obtain ⟨w5, hE, r5, _, b5, z5⟩ := newb w4 (ic 0 none 0 0) (ic x.k a x.bs.length c) 32 (by simp)
      rw [hE]
      clear hE r3
      have t5 : Chg (fun b => b = ch ∨ C b) wr w5 := (T3_.out.trans (c4.mono (fun _ _ h => .inr h))).trans (.of_below b5)
      have j5 : J (k + 1) w5 := HF_.out.own (k + 1) w4 w5 (fun _ => False) j4 (.of_below b5) (fun _ h => h.elim)
      have q5 := (Q3_.out.kept c4 HB_.out HC_.out).below b5
      have x5 : ItmIn w5 (.agg (ic x.k a x.bs.length c)) x := HX_.out.kept t5 (fun b hb hs => by
        rcases hs with rfl | hs
        · exact Q1_.out.rowc
        · exact absurd hs (HOFFV_.out b hb))
      have hcc := fun b hb => (HF_.out.cells (k + 1) w5 b j5 hb).1
      obtain ⟨i5, f5, s5⟩ := InvR.next (w := w') (keep := keep) (J := J) (k := k) (most := most) HOFF_.out Q1_.out I1_.out F1_.out C1_.out ITS1_.out t5
      generalize w4.heap.size = n4 at *
      clear j4 c4 b5 T3_ Q3_ CALL_
      cases hkeep : keep k with
      | false =>
        have hkn := HKN_.out
        rw [hkeep, if_neg (by simp), List.append_nil] at hkn
        have hR : InvR w' b ch most C J vs xs keep (k + 1) w5 := ⟨⟨us, q5, by rw [hkn]; exact i5, f5, C1_.out⟩, s5, j5, CH1_.out.trans t5⟩
        clear i5 f5 s5 x5 j5 q5 t5 hcc hkn
        have HR_ := hid hR
        clear hR
        have HKEEP_ := hid hkeep
        clear hkeep
        go_wp2
        exact ⟨⟨k + 1, by omega, by go_num, HR_.out⟩, by simp [intOf]; omega⟩
      | true =>
        have hkn := HKN_.out
        rw [hkeep, if_pos rfl] at hkn
        have hroom : (vs.drop (k + 1) ++ us).length < most := by
          rw [List.length_append, List.length_drop]
          omega
        have I5_ := hid i5
        clear i5
        have F5_ := hid f5
        clear f5
        have S5_ := hid s5
        clear s5
        have X5_ := hid x5
        clear x5
        have J5_ := hid j5
        clear j5
        have Q5_ := hid q5
        clear q5
        have T5_ := hid t5
        clear t5
        have HCC_ := hid hcc
        clear hcc
        have HKN_ := hid hkn
        clear hkn
        have HKEEP_ := hid hkeep
        clear hkeep
        have HROOM_ := hid hroom
        clear hroom
        go_wp2_with fail
        refine (put_ok _ x hlk w5 Q5_.out X5_.out HROOM_.out).mono ?_
        rintro e w6 ⟨rfl, v', q6, n6, c6⟩
        dsimp only
        have hR : InvR w' b ch most C J vs xs keep (k + 1) w6 := by
          have t6 : Chg (fun b => b = ch ∨ C b) w5 w6 := c6.mono (fun _ _ h => .inl h)
          obtain ⟨i6, f6, s6⟩ := InvR.next (w := w') (keep := keep) (J := J) (k := k) (most := most) HOFF_.out Q5_.out I5_.out F5_.out C1_.out S5_.out t6
          refine ⟨⟨us ++ [v'], by rw [← List.append_assoc]; exact q6, by rw [HKN_.out]; exact i6.snoc n6.itm, f6.snoc (fun b hb => ⟨Nat.le_trans (CH1_.out.trans T5_.out).size (n6.blk hb).1, (n6.blk hb).2⟩), fun v hv b hb hC => ?_⟩, s6, HF_.out.own (k + 1) w5 w6 _ J5_.out c6 (fun b e => by rw [e]; exact Q5_.out.rowc), (CH1_.out.trans T5_.out).trans t6⟩
          rcases List.mem_append.1 hv with h1 | h1
          · exact C1_.out v h1 b hb hC
          · obtain rfl : v = v' := by simpa using h1
            have := (n6.blk hb).1
            have := HCC_.out b hC
            omega
        clear q6 n6 c6 I5_ F5_ S5_ X5_ J5_ Q5_ T5_ HCC_ HROOM_
        have HR_ := hid hR
        clear hR
        go_wp2
        exact ⟨⟨k + 1, by omega, by go_num, HR_.out⟩, by simp [intOf]; omega⟩
    · obtain rfl : k = xs.length := by omega
      have HR_ := hid hR
      clear hR
      go_wp2
      exact ⟨rfl, _, results_none rfl _ _ _, ⟨_, rfl⟩, HR_.out⟩
end Go.Proofs.Ytbdpnmocbpplbaa
