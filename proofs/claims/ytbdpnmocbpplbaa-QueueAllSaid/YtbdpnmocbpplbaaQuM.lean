/-
  A queue and its items as one state; Put and Take on it; round, for every closure that may write into the item that it is shown. No condition.
-/
import Derived.Test.YtbdpnmocbpplbaaQuI
namespace Go.Proofs.Ytbdpnmocbpplbaa
open Go.RowKit Go.Conc

def Apart (vs : List Value) : Prop := vs.Pairwise fun u v => ∀ b, blkOf u = some b → blkOf v ≠ some b
/-- The blocks of items' bytes. -/
def Bl (vs : List Value) (b : Nat) : Prop := ∃ v ∈ vs, blkOf v = some b
structure QS (w : World) (b ch most : Nat) (vs : List Value) (xs : List Itm) : Prop where
  que : Que w b ch most vs
  its : Its w vs xs
  own : ∀ b', Bl vs b' → own? w b' = true
  apart : Apart vs
  nb : ¬ Bl vs b
theorem QS.lt {w : World} {b ch most : Nat} {vs : List Value} {xs : List Itm} (h : QS w b ch most vs xs) {b' : Nat} (hb : Bl vs b') : b' < w.heap.size := own_lt (h.own b' hb)
theorem QS.nch {w : World} {b ch most : Nat} {vs : List Value} {xs : List Itm} (h : QS w b ch most vs xs) {b' : Nat} (hb : Bl vs b') : b' ≠ ch := fun e => by
  have := h.own b' hb
  rw [e, h.que.ownc] at this
  cases this
theorem QS.kept {w w' : World} {b ch most : Nat} {vs : List Value} {xs : List Itm} (h : QS w b ch most vs xs) {S : Nat → Prop} (hc : Chg S w w') (h1 : ¬ S b) (h2 : ¬ S ch) (h3 : ∀ b', Bl vs b' → ¬ S b') : QS w' b ch most vs xs :=
  ⟨h.que.kept hc h1 h2, h.its.kept hc (fun v hv b' hb hs => absurd hs (h3 b' ⟨v, hv, hb⟩)), fun b' hb => by rw [hc.own (own_lt (h.own b' hb)) (h3 b' hb)]; exact h.own b' hb, h.apart, h.nb⟩
theorem QS.below {w w' : World} {b ch most : Nat} {vs : List Value} {xs : List Itm} (h : QS w b ch most vs xs) (hb : Below w.heap.size w w') : QS w' b ch most vs xs := h.kept (S := fun _ => False) (.of_below hb) id id (fun _ _ => id)
theorem QS.nil {w : World} {b ch most : Nat} (h : Que w b ch most []) : QS w b ch most [] [] := ⟨h, Its.nil _, fun b' ⟨v, hv, _⟩ => absurd hv (by simp), List.Pairwise.nil, fun ⟨v, hv, _⟩ => absurd hv (by simp)⟩
theorem Bl.snoc {vs : List Value} {v : Value} {b : Nat} : Bl (vs ++ [v]) b ↔ Bl vs b ∨ blkOf v = some b := by
  constructor
  · rintro ⟨u, hu, hb⟩
    rcases List.mem_append.1 hu with h | h
    · exact .inl ⟨u, h, hb⟩
    · obtain rfl : u = v := by simpa using h
      exact .inr hb
  · rintro (⟨u, hu, hb⟩ | hb)
    · exact ⟨u, List.mem_append_left _ hu, hb⟩
    · exact ⟨v, by simp, hb⟩
theorem Bl.cons {vs : List Value} {v : Value} {b : Nat} : Bl (v :: vs) b ↔ blkOf v = some b ∨ Bl vs b := by
  constructor
  · rintro ⟨u, hu, hb⟩
    rcases List.mem_cons.1 hu with rfl | h
    · exact .inl hb
    · exact .inr ⟨u, h, hb⟩
  · rintro (hb | ⟨u, hu, hb⟩)
    · exact ⟨v, List.mem_cons_self .., hb⟩
    · exact ⟨u, List.mem_cons_of_mem _ hu, hb⟩
theorem Bl.drop {vs : List Value} {k b : Nat} (h : Bl (vs.drop k) b) : Bl vs b := by
  obtain ⟨u, hu, hb⟩ := h
  exact ⟨u, List.mem_of_mem_drop hu, hb⟩
theorem Apart.snoc {vs : List Value} (h : Apart vs) {v : Value} (hv : ∀ b, Bl vs b → blkOf v ≠ some b) : Apart (vs ++ [v]) := by
  refine List.pairwise_append.2 ⟨h, List.pairwise_singleton _ _, fun u hu x hx b hb => ?_⟩
  obtain rfl : x = v := by simpa using hx
  exact hv b ⟨u, hu, hb⟩
theorem put_q {b ch most : Nat} {vs : List Value} {xs : List Itm} (v : Value) (x : Itm) (hl : x.bs.length ≤ 140737488351232) (w : World) (hq : QS w b ch most vs xs) (hx : ItmIn w v x) (hr : vs.length < most) :
    Calls Try.prog 11 #[.pointer (some ⟨b, 0, none⟩), v] w fun e w' => e = .returned (.int .i64 0) ∧ ∃ v', QS w' b ch most (vs ++ [v']) (xs ++ [x]) ∧ NewI w.heap.size w' v' x ∧ Chg (· = ch) w w' :=
  (put_ok v x hl w hq.que hx hr).mono fun e w' ⟨he, v', hq', hn, hc⟩ => ⟨he, v', ⟨hq', (hq.its.kept hc (fun u hu g hg e => by rw [e]; exact hq.que.rowc)).snoc hn.itm, fun b' hb => by
      rcases Bl.snoc.1 hb with h | h
      · rw [hc.own (own_lt (hq.own b' h)) (hq.nch h)]
        exact hq.own b' h
      · exact (hn.blk h).2, hq.apart.snoc (fun b' hb e => by
      have h1 := hq.lt hb
      have h2 := (hn.blk e).1
      omega), fun hb => by
      rcases Bl.snoc.1 hb with h | h
      · exact hq.nb h
      · have h1 := (hn.blk h).1
        have h2 := hq.que.ltb
        omega⟩, hn, hc⟩
theorem put_qf {b ch most : Nat} {vs : List Value} {xs : List Itm} (v : Value) (x : Itm) (hl : x.bs.length ≤ 140737488351232) (w : World) (hq : QS w b ch most vs xs) (hx : ItmIn w v x) (hr : most ≤ vs.length) :
    Calls Try.prog 11 #[.pointer (some ⟨b, 0, none⟩), v] w fun e w' => e = .returned (.int .i64 180) ∧ QS w' b ch most vs xs ∧ Below w.heap.size w w' :=
  (put_full v x hl w hq.que hx hr).mono fun e w' ⟨he, hb⟩ => ⟨he, hq.below hb, hb⟩
theorem take_q {b ch most : Nat} {v : Value} {vs : List Value} {x : Itm} {xs : List Itm} (w : World) (hq : QS w b ch most (v :: vs) (x :: xs)) :
    Calls Try.prog 12 #[.pointer (some ⟨b, 0, none⟩)] w fun e w' => e = .returned (.tuple #[v, .int .i64 0]) ∧ QS w' b ch most vs xs ∧ ItmIn w' v x ∧ (∀ b', blkOf v = some b' → own? w' b' = true ∧ ¬ Bl vs b') ∧ Chg (· = ch) w w' := by
  have hi := Its.cons.1 hq.its
  refine (take_ok v x w hq.que hi.1).mono ?_
  rintro e w' ⟨he, hq', hc⟩
  have ho : ∀ b', Bl (v :: vs) b' → own? w' b' = true := fun b' hb => by
    rw [hc.own (own_lt (hq.own b' hb)) (hq.nch hb)]
    exact hq.own b' hb
  have hp := List.pairwise_cons.1 hq.apart
  exact ⟨he, ⟨hq', hi.2.kept hc (fun u hu g hg e => by rw [e]; exact hq.que.rowc), fun b' hb => ho b' (Bl.cons.2 (.inr hb)), hp.2, fun hb => hq.nb (Bl.cons.2 (.inr hb))⟩, hi.1.kept hc (fun g hg e => by rw [e]; exact hq.que.rowc),
    fun b' hb => ⟨ho b' (Bl.cons.2 (.inl hb)), fun ⟨u, hu, hub⟩ => hp.1 u hu b' hb hub⟩, hc⟩
/-- What is kept of the first n, as the closure leaves it. -/
def keptG (keep : Nat → Bool) (g : Nat → Itm → Itm) (xs : List Itm) : Nat → List Itm
  | 0 => []
  | k + 1 => keptG keep g xs k ++ if keep k then [g k (xs.getD k zeroI)] else []
theorem keptG_len (keep : Nat → Bool) (g : Nat → Itm → Itm) (xs : List Itm) : ∀ n, (keptG keep g xs n).length ≤ n
  | 0 => Nat.le_refl _
  | n + 1 => by
    have := keptG_len keep g xs n
    unfold keptG
    split <;> simp <;> omega
structure CloG (F : Nat) (caps : Array Value) (C : Nat → Prop) (J : Nat → World → Prop) (K : Nat → World → Nat → Prop) (xs : List Itm) (keep : Nat → Bool) (g : Nat → Itm → Itm) : Prop where
  run : ∀ args w, (callFunc F args).run Try.prog w = .ok (.enter F args) w
  call : ∀ k, k < xs.length → ∀ v W, J k W → ItmIn W v (xs.getD k zeroI) → (∀ b, blkOf v = some b → ¬ C b ∧ own? W b = true) →
    Calls Try.prog F (#[.int .i64 k, v] ++ caps) W fun e W' => e = .returned (.tuple #[v, .bool (keep k)]) ∧ J (k + 1) W' ∧ ItmIn W' v (g k (xs.getD k zeroI)) ∧ Chg (fun b => C b ∨ blkOf v = some b) W W' ∧ (∀ b, K (k + 1) W' b → K k W b ∨ W.heap.size ≤ b)
  own : ∀ k W W' S, J k W → Chg S W W' → (∀ b, S b → row? W b = #[] ∧ own? W b = false) → J k W' ∧ ∀ b, K k W' b → K k W b
  cells : ∀ k W b, J k W → C b ∨ K k W b → b < W.heap.size
structure InvG (w : World) (b ch most : Nat) (C : Nat → Prop) (J : Nat → World → Prop) (K : Nat → World → Nat → Prop) (vs : List Value) (xs : List Itm) (keep : Nat → Bool) (g : Nat → Itm → Itm) (k : Nat) (wr : World) : Prop where
  ex : ∃ us, Que wr b ch most (vs.drop k ++ us) ∧ Its wr us (keptG keep g xs k) ∧ (∀ b', Bl us b' → w.heap.size ≤ b' ∧ own? wr b' = true ∧ ¬ C b' ∧ ¬ K k wr b') ∧ Apart us
  its : Its wr (vs.drop k) (xs.drop k)
  own : ∀ b', Bl (vs.drop k) b' → own? wr b' = true
  j : J k wr
  chg : Chg (fun b' => b' = ch ∨ C b' ∨ Bl vs b') w wr
set_option maxRecDepth 100000 in
set_option maxHeartbeats 1000000 in
theorem round_g {F : Nat} {caps : Array Value} {C : Nat → Prop} {J : Nat → World → Prop} {K : Nat → World → Nat → Prop} {xs : List Itm} {keep : Nat → Bool} {g : Nat → Itm → Itm} (hf : CloG F caps C J K xs keep g) {b ch most : Nat} {vs : List Value} (w : World) (hq : QS w b ch most vs xs) (hm : most ≤ 1000) (hn : xs.length ≤ most) (hl : ∀ k, k < xs.length → (g k (xs.getD k zeroI)).bs.length ≤ 140737488351232)
    (hoff : ∀ b', Bl vs b' → ¬ C b') (hb : ¬ C b) (hc : ¬ C ch) (hJ : J 0 w) :
    Calls Try.prog 23 #[.pointer (some ⟨b, 0, none⟩), .func (.func F) #[] caps] w fun e w' => (∃ v, e = .returned v) ∧ InvG w b ch most C J K vs xs keep g xs.length w' := by
  have h0 : InvG w b ch most C J K vs xs keep g 0 w := ⟨⟨[], by simpa using hq.que, Its.nil w, fun b' ⟨v, hv, _⟩ => absurd hv (by simp), List.Pairwise.nil⟩, hq.its, hq.own, hJ, Chg.refl _ _⟩
  have hlen := hq.its.1
  have hque := hq.que
  have hdis : ∀ b', Bl vs b' → b' < w.heap.size ∧ b' ≠ b ∧ b' ≠ ch := fun b' hb' => ⟨hq.lt hb', fun e => hq.nb (e ▸ hb'), hq.nch hb'⟩
  have hap := hq.apart
  have hltb := hque.ltb
  have hltc := hque.ltc
  have HF_ := hid hf
  clear hf
  have HL_ := hid hl
  clear hl
  have HOFF_ := hid hoff
  clear hoff
  have HB_ := hid hb
  clear hb
  have HC_ := hid hc
  clear hc
  have HJ_ := hid hJ
  clear hJ
  have H0_ := hid h0
  clear h0
  have HDIS_ := hid hdis
  clear hdis
  have HAP_ := hid hap
  clear hap
  have HQ_ := hid hq
  clear hq
  go_enter Try.func23, Try.ntmps23
  go_wp2_with fail
  refine (len_c hque).mono ?_
  rintro e w' ⟨rfl, rfl⟩
  dsimp only
  rw [hlen]
  go_wp2
  go_loopw [11] (fun i wr => ∃ k : Nat, k ≤ xs.length ∧ i = .int .i64 k ∧ InvG w' b ch most C J K vs xs keep g k wr) (fun i _ => xs.length - (intOf i).toNat)
  case atStart => exact ⟨0, by omega, rfl, H0_.out⟩
  case round =>
    obtain ⟨k, hk, rfl, hR⟩ := hrel
    by_cases hkt : k < xs.length
    · obtain ⟨⟨us, q1, i1, f1, a1⟩, its1, own1, j1, ch1⟩ := hR
      have hkv : k < vs.length := by rw [hlen]; exact hkt
      have hdv : vs.drop k = vs[k] :: vs.drop (k + 1) := List.drop_eq_getElem_cons hkv
      have hdx : xs.drop k = xs.getD k zeroI :: xs.drop (k + 1) := itms_drop xs k hkt
      have hvm : vs[k] ∈ vs := List.getElem_mem hkv
      have happ : ∀ b', blkOf vs[k] = some b' → ¬ Bl (vs.drop (k + 1)) b' := fun b' hb' ⟨u, hu, hub⟩ => by
        have hp : (vs.drop k).Pairwise fun u v => ∀ b, blkOf u = some b → blkOf v ≠ some b := HAP_.out.sublist (List.drop_sublist ..)
        rw [hdv] at hp
        exact (List.pairwise_cons.1 hp).1 u hu b' hb' hub
      generalize vs[k] = v at *
      rw [hdv, hdx] at its1
      rw [hdv] at q1 own1
      obtain ⟨hx, itsd⟩ := Its.cons.1 its1
      clear its1
      have hvb : ∀ b', blkOf v = some b' → Bl vs b' := fun b' hb' => ⟨v, hvm, hb'⟩
      have hkn : keptG keep g xs (k + 1) = keptG keep g xs k ++ if keep k then [g k (xs.getD k zeroI)] else [] := rfl
      have hlk := HL_.out k hkt
      have hcl := HF_.out.call k hkt v
      have hul : us.length ≤ k := by rw [i1.1]; exact keptG_len keep g xs k
      have hxx := hx
      generalize hgx : g k (xs.getD k zeroI) = y at *
      generalize xs.getD k zeroI = x at *
      obtain ⟨a, c, rfl, _⟩ := hxx
      clear hdv hdx hvm
      have I1_ := hid i1
      clear i1
      have F1_ := hid f1
      clear f1
      have A1_ := hid a1
      clear a1
      have ITSD_ := hid itsd
      clear itsd
      have OWN1_ := hid own1
      clear own1
      have J1_ := hid j1
      clear j1
      have CH1_ := hid ch1
      clear ch1
      have HX_ := hid hx
      clear hx
      have Q1_ := hid q1
      clear q1
      have HVB_ := hid hvb
      clear hvb
      have HKN_ := hid hkn
      clear hkn
      have HCL_ := hid hcl
      clear hcl
      have HAPP_ := hid happ
      clear happ
      go_wp2_with fail
      refine (take_ok _ x wr Q1_.out HX_.out).mono ?_
      rintro e w2 ⟨rfl, q2, c2⟩
      dsimp only
      go_upto_region 4 with (fail)
      obtain ⟨w3, hE, r3, _, b3, z3⟩ := newb w2 (ic 0 none 0 0) (ic x.k a x.bs.length c) 32 (by simp)
      rw [hE]
      clear hE
      have t3 : Chg (· = ch) wr w3 := c2.trans (.of_below b3)
      obtain ⟨j2, kk2⟩ := HF_.out.own k wr w2 _ J1_.out c2 (fun b e => by rw [e]; exact ⟨Q1_.out.rowc, Q1_.out.ownc⟩)
      obtain ⟨j3, kk3⟩ := HF_.out.own k w2 w3 (fun _ => False) j2 (.of_below b3) (fun _ h => h.elim)
      have q3 := q2.below b3
      have x3 : ItmIn w3 (.agg (ic x.k a x.bs.length c)) x := HX_.out.kept t3 (fun b hb hs => by rw [hs]; exact Q1_.out.rowc)
      have o3 : ∀ b', Bl (.agg (ic x.k a x.bs.length c) :: vs.drop (k + 1)) b' → own? w3 b' = true := fun b' hb' => by
        have h1 := OWN1_.out b' hb'
        rw [t3.own (own_lt h1) (fun e => by rw [e, Q1_.out.ownc] at h1; cases h1)]
        exact h1
      have call := HCL_.out w3 j3 x3 (fun b' hb' => ⟨HOFF_.out b' (HVB_.out b' hb'), o3 b' (Bl.cons.2 (.inl hb'))⟩)
      have i3 : Its w3 (vs.drop (k + 1)) (xs.drop (k + 1)) := ITSD_.out.kept t3 (fun _ _ g _ e => by rw [e]; exact Q1_.out.rowc)
      have u3 : Its w3 us (keptG keep g xs k) := I1_.out.kept t3 (fun _ _ g _ e => by rw [e]; exact Q1_.out.rowc)
      have f3 : ∀ b', Bl us b' → w'.heap.size ≤ b' ∧ own? w3 b' = true ∧ ¬ C b' ∧ ¬ K k w3 b' := fun b' hb' => by
        obtain ⟨h1, h2, h3, h4⟩ := F1_.out b' hb'
        refine ⟨h1, ?_, h3, fun h => h4 (kk2 b' (kk3 b' h))⟩
        rw [t3.own (own_lt h2) (fun e => by rw [e, Q1_.out.ownc] at h2; cases h2)]
        exact h2
      generalize w2.heap.size = n2 at *
      clear c2 b3 q2 j3 x3 j2 kk2 kk3
      have T3_ := hid t3
      clear t3
      have Q3_ := hid q3
      clear q3
      have CALL_ := hid call
      clear call
      have O3_ := hid o3
      clear o3
      have I3_ := hid i3
      clear i3
      have U3_ := hid u3
      clear u3
      have F3_ := hid f3
      clear f3
      go_wp2_with fail
      rw [HF_.out.run, Oper.upon_enter]
      refine CALL_.out.mono ?_
      rintro e w4 ⟨rfl, j4, y4, c4, kk4⟩
      dsimp only
      go_upto_region 5 with (fail)
      obtain ⟨w5, hE, r5, _, b5, z5⟩ := newb w4 (ic 0 none 0 0) (ic x.k a x.bs.length c) 32 (by simp)
      rw [hE]
      clear hE r3
      have t5 : Chg (fun b' => C b' ∨ blkOf (.agg (ic x.k a x.bs.length c)) = some b') w3 w5 := c4.trans (.of_below b5)
      obtain ⟨j5, kk5⟩ := HF_.out.own (k + 1) w4 w5 (fun _ => False) j4 (.of_below b5) (fun _ h => h.elim)
      have q5 := Q3_.out.kept t5 (by
        rintro (h | h)
        · exact HB_.out h
        · exact (HDIS_.out _ (HVB_.out _ h)).2.1 rfl) (by
        rintro (h | h)
        · exact HC_.out h
        · exact (HDIS_.out _ (HVB_.out _ h)).2.2 rfl)
      have y5 := y4.below b5
      have hcc := fun b hb => HF_.out.cells (k + 1) w5 b j5 hb
      have hd5 : ∀ b', Bl (vs.drop (k + 1)) b' → ¬ (C b' ∨ blkOf (.agg (ic x.k a x.bs.length c)) = some b') := fun b' hb' h => by
        rcases h with h | h
        · exact HOFF_.out b' hb'.drop h
        · exact HAPP_.out b' h hb'
      have hu5 : ∀ b', Bl us b' → ¬ (C b' ∨ blkOf (.agg (ic x.k a x.bs.length c)) = some b') := fun b' hb' h => by
        obtain ⟨h1, _, h3, _⟩ := F3_.out b' hb'
        rcases h with h | h
        · exact h3 h
        · have := (HDIS_.out _ (HVB_.out _ h)).1
          omega
      have i5 : Its w5 (vs.drop (k + 1)) (xs.drop (k + 1)) := I3_.out.kept t5 (fun v hv b' hb' hs => absurd hs (hd5 b' ⟨v, hv, hb'⟩))
      have u5 : Its w5 us (keptG keep g xs k) := U3_.out.kept t5 (fun v hv b' hb' hs => absurd hs (hu5 b' ⟨v, hv, hb'⟩))
      have o5 : ∀ b', Bl (vs.drop (k + 1)) b' → own? w5 b' = true := fun b' hb' => by
        have h1 := O3_.out b' (Bl.cons.2 (.inr hb'))
        rw [t5.own (own_lt h1) (hd5 b' hb')]
        exact h1
      have f5 : ∀ b', Bl us b' → w'.heap.size ≤ b' ∧ own? w5 b' = true ∧ ¬ C b' ∧ ¬ K (k + 1) w5 b' := fun b' hb' => by
        obtain ⟨h1, h2, h3, h4⟩ := F3_.out b' hb'
        refine ⟨h1, ?_, h3, fun h => ?_⟩
        case refine_2 =>
          rcases kk4 b' (kk5 b' h) with h5 | h5
          · exact h4 h5
          · have := own_lt h2
            omega
        rw [t5.own (own_lt h2) (hu5 b' hb')]
        exact h2
      have cg5 : Chg (fun b' => b' = ch ∨ C b' ∨ Bl vs b') w' w5 := (CH1_.out.trans (T3_.out.mono (fun _ _ h => .inl h))).trans (t5.mono (fun b' _ h => .inr (h.imp id (HVB_.out b'))))
      generalize w4.heap.size = n4 at *
      clear j4 c4 b5 T3_ Q3_ CALL_ O3_ I3_ U3_ F3_ t5 y4 hd5 hu5 kk4 kk5
      cases hkeep : keep k with
      | false =>
        have hkn := HKN_.out
        rw [hkeep, if_neg (by simp), List.append_nil] at hkn
        have hR : InvG w' b ch most C J K vs xs keep g (k + 1) w5 := ⟨⟨us, q5, by rw [hkn]; exact u5, f5, A1_.out⟩, i5, o5, j5, cg5⟩
        clear i5 f5 u5 o5 j5 q5 cg5 hcc hkn y5
        have HR_ := hid hR
        clear hR
        have HKEEP_ := hid hkeep
        clear hkeep
        go_wp2
        exact ⟨⟨k + 1, by omega, by go_num, HR_.out⟩, by simp [intOf]; omega⟩
      | true =>
        have hkn := HKN_.out
        rw [hkeep, if_pos rfl] at hkn
        have hroom : (vs.drop (k + 1) ++ us).length < most := by
          rw [List.length_append, List.length_drop]
          omega
        have I5_ := hid i5
        clear i5
        have F5_ := hid f5
        clear f5
        have U5_ := hid u5
        clear u5
        have O5_ := hid o5
        clear o5
        have J5_ := hid j5
        clear j5
        have Q5_ := hid q5
        clear q5
        have CG5_ := hid cg5
        clear cg5
        have HCC_ := hid hcc
        clear hcc
        have HKN_ := hid hkn
        clear hkn
        have HKEEP_ := hid hkeep
        clear hkeep
        have HROOM_ := hid hroom
        clear hroom
        have Y5_ := hid y5
        clear y5
        go_wp2_with fail
        refine (put_ok _ y hlk w5 Q5_.out Y5_.out HROOM_.out).mono ?_
        rintro e w6 ⟨rfl, v', q6, n6, c6⟩
        dsimp only
        have hR : InvG w' b ch most C J K vs xs keep g (k + 1) w6 := by
          have hkeptO : ∀ b', own? w5 b' = true → own? w6 b' = true := fun b' h1 => by
            rw [c6.own (own_lt h1) (fun e => by rw [e, Q5_.out.ownc] at h1; cases h1)]
            exact h1
          obtain ⟨j6, kk6⟩ := HF_.out.own (k + 1) w5 w6 _ J5_.out c6 (fun b e => by rw [e]; exact ⟨Q5_.out.rowc, Q5_.out.ownc⟩)
          refine ⟨⟨us ++ [v'], by rw [← List.append_assoc]; exact q6, by rw [HKN_.out]; exact (U5_.out.kept c6 (fun _ _ g _ e => by rw [e]; exact Q5_.out.rowc)).snoc n6.itm, fun b' hb' => ?_, A1_.out.snoc (fun b' hb' e => ?_)⟩, I5_.out.kept c6 (fun _ _ g _ e => by rw [e]; exact Q5_.out.rowc), fun b' hb' => hkeptO b' (O5_.out b' hb'), j6, CG5_.out.trans (c6.mono (fun _ _ h => .inl h))⟩
          · rcases Bl.snoc.1 hb' with h1 | h1
            · obtain ⟨h2, h3, h4, h5⟩ := F5_.out b' h1
              exact ⟨h2, hkeptO b' h3, h4, fun h => h5 (kk6 b' h)⟩
            · have h2 := n6.blk h1
              have h3 := CG5_.out.size
              exact ⟨by omega, h2.2, fun hC => by have := HCC_.out b' (.inl hC); omega, fun hK => by have := HCC_.out b' (.inr (kk6 b' hK)); omega⟩
          · have h2 := own_lt (F5_.out b' hb').2.1
            have h3 := (n6.blk e).1
            omega
        clear q6 n6 c6 I5_ F5_ U5_ O5_ J5_ Q5_ CG5_ HCC_ HROOM_ Y5_
        have HR_ := hid hR
        clear hR
        go_wp2
        exact ⟨⟨k + 1, by omega, by go_num, HR_.out⟩, by simp [intOf]; omega⟩
    · obtain rfl : k = xs.length := by omega
      have HR_ := hid hR
      clear hR
      go_wp2
      exact ⟨rfl, _, results_none rfl _ _ _, ⟨_, rfl⟩, HR_.out⟩
end Go.Proofs.Ytbdpnmocbpplbaa
