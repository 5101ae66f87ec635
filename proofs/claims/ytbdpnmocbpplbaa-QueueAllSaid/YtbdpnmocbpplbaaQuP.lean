/-
  The walks of Turn and Twice. No condition.
-/
import Derived.Test.YtbdpnmocbpplbaaQuO
namespace Go.Proofs.Ytbdpnmocbpplbaa
open Go.RowKit Go.Conc Go.Shelf

theorem turn_clo {kc ac dc : Nat} (p at_ : Int) (xs : List Itm) (hok : ∀ k, k < xs.length → okI (xs.getD k zeroI)) : CloG 27 #[.pointer (some ⟨kc, 0, none⟩), .pointer (some ⟨ac, 0, none⟩), .pointer (some ⟨dc, 0, none⟩)] (fun b => b = dc ∨ b = kc ∨ b = ac) (JT kc ac dc p at_ xs) (fun _ _ _ => False) xs (fun _ => true) (gT p at_) where
  run := enters_of Try.func27 (by kernel_rfl) rfl
  call := fun k hk v W hJ hx hoff => by
    have h := (turn1_c k hk (hok k hk) v W hJ hx hoff).mono (R' := fun e W' => e = .returned (.tuple #[v, .bool true]) ∧ JT kc ac dc p at_ xs (k + 1) W' ∧ ItmIn W' v (gT p at_ k (xs.getD k zeroI)) ∧ Chg (fun b => (b = dc ∨ b = kc ∨ b = ac) ∨ blkOf v = some b) W W' ∧ (∀ b, False → False ∨ W.heap.size ≤ b)) fun e W' ⟨h1, h2, h3, h4⟩ => ⟨h1, h2, h3, h4.mono (fun b _ hb => hb.imp .inl id), fun _ h => h.elim⟩
    exact h
  own := fun k W W' S hJ hc hS => by
    have hn : ∀ b, own? W b = true → ¬ S b := fun b hb s => by rw [(hS b s).2] at hb; cases hb
    exact ⟨hJ.kept hc (hn _ hJ.ok) (hn _ hJ.oa) (hn _ hJ.od), fun _ h => h.elim⟩
  cells := fun k W b hJ hC => by
    rcases hC with (rfl | rfl | rfl) | hK
    · exact own_lt hJ.od
    · exact own_lt hJ.ok
    · exact own_lt hJ.oa
    · exact hK.elim
/-- The items behind a turn. -/
def turnL (p at_ : Int) (xs : List Itm) : List Itm := if doneT p at_ xs xs.length = true then xs.set p.toNat (turnI (xs.getD p.toNat zeroI) at_) else xs
theorem turnL_len (p at_ : Int) (xs : List Itm) : (turnL p at_ xs).length = xs.length := by
  unfold turnL
  split <;> simp
theorem turnL_getD (p at_ : Int) (xs : List Itm) (k : Nat) (hk : k < xs.length) : (turnL p at_ xs).getD k zeroI = gT p at_ k (xs.getD k zeroI) := by
  unfold turnL gT
  by_cases hd : doneT p at_ xs xs.length = true
  · rw [if_pos hd]
    unfold doneT at hd
    rw [Bool.and_eq_true, decide_eq_true_eq] at hd
    by_cases hp : (k : Int) = p
    · rw [← hp, Int.toNat_natCast] at hd ⊢
      rw [if_pos ⟨rfl, hd.2⟩]
      simp [hk]
    · rw [if_neg (fun h => hp h.1)]
      have : p.toNat ≠ k := by omega
      simp [List.getElem?_set, this]
  · rw [if_neg hd]
    unfold doneT at hd
    rw [if_neg (fun h => hd (by rw [Bool.and_eq_true, decide_eq_true_eq]; rw [← h.1, Int.toNat_natCast]; exact ⟨by omega, h.2⟩))]
theorem keptG_T (p at_ : Int) (xs : List Itm) : ∀ n, n ≤ xs.length → keptG (fun _ => true) (gT p at_) xs n = (turnL p at_ xs).take n
  | 0, _ => rfl
  | n + 1, h => by
    rw [keptG, keptG_T p at_ xs n (by omega), if_pos rfl, List.take_add_one, ← turnL_getD p at_ xs n (by omega)]
    congr 1
    have : n < (turnL p at_ xs).length := by rw [turnL_len]; omega
    simp [this]
set_option maxRecDepth 100000 in
set_option maxHeartbeats 1000000 in
theorem turn_c {b ch most : Nat} {vs : List Value} {xs : List Itm} (p at_ : Int) (w : World) (hq : QS w b ch most vs xs) (hm : most ≤ 1000) (hn : xs.length ≤ most) (hl : ∀ k, k < xs.length → (xs.getD k zeroI).bs.length ≤ 140737488351232) (hok : ∀ k, k < xs.length → okI (xs.getD k zeroI)) :
    Calls Try.prog 19 #[.pointer (some ⟨b, 0, none⟩), .int .i64 p, .int .i64 at_] w fun e w' => e = .returned (.bool (doneT p at_ xs xs.length)) ∧ ∃ us, QS w' b ch most us (turnL p at_ xs) ∧ (∀ b', Bl us b' → w.heap.size ≤ b') ∧ Chg (fun b' => b' = ch ∨ Bl vs b') w w' := by
  have lb := hq.que.ltb
  have lc := hq.que.ltc
  have hlt := fun b' (h : Bl vs b') => hq.lt h
  have hlen := hq.its.1
  have HLT_ := hid hlt
  clear hlt
  have HOK_ := hid hok
  clear hok
  go_enter Try.func19, Try.ntmps19
  go_upto_region 2 with (fail)
  obtain ⟨W1, hW1⟩ : ∃ W1, ((w.alloc (.cells #[.int .i64 p] 3)).alloc (.cells #[.int .i64 at_] 3)).alloc (.cells #[.bool false] 4) = W1 := ⟨_, rfl⟩
  have b1' : Below w.heap.size w W1 := by rw [← hW1]; exact (((Below.refl _ _).alloc (Nat.le_refl _) _).alloc (by simp) _).alloc (by simp; omega) _
  have hJ : JT w.heap.size (w.heap.size + 1) (w.heap.size + 1 + 1) p at_ xs 0 W1 := by
    rw [← hW1]
    refine ⟨?_, by simp [own_alloc, ownOf], ?_, by simp [own_alloc, ownOf], ?_, by simp [own_alloc, ownOf], by omega⟩
    · simp [row_alloc, rowOf]
      intro h
      omega
    · simp [row_alloc, rowOf]
    · have : doneT p at_ xs 0 = false := by
        unfold doneT
        rw [decide_eq_false (by omega)]
        rfl
      rw [this]
      simp [row_alloc, rowOf]
  have hs1 : w.heap.size + 3 ≤ W1.heap.size := by rw [← hW1]; simp
  rw [hW1]
  clear hW1
  have q1 := hq.below b1'
  have hoff : ∀ b', Bl vs b' → ¬ (b' = w.heap.size + 1 + 1 ∨ b' = w.heap.size ∨ b' = w.heap.size + 1) := fun b' hb' h => by
    have := HLT_.out b' hb'
    omega
  have hrd := round_g (turn_clo (kc := w.heap.size) (ac := w.heap.size + 1) (dc := w.heap.size + 1 + 1) p at_ xs HOK_.out) W1 q1 hm hn (fun k hk => by rw [gT_len]; exact hl k hk) hoff (by show ¬ (_ ∨ _ ∨ _); omega) (by show ¬ (_ ∨ _ ∨ _); omega) hJ
  clear hoff
  have HRD_ := hid hrd
  clear hrd
  have B1'_ := hid b1'
  clear b1'
  have Q1_ := hid q1
  clear q1
  go_wp2_with fail
  refine HRD_.out.mono ?_
  rintro e w2 ⟨⟨rv, rfl⟩, hR⟩
  dsimp only
  obtain ⟨⟨us, q2, i2, f2, a2⟩, _, _, j2, c2⟩ := hR
  rw [keptG_T p at_ xs _ (Nat.le_refl _), List.take_of_length_le (by rw [turnL_len]; exact Nat.le_refl _)] at i2
  rw [List.drop_of_length_le (by rw [hlen]; exact Nat.le_refl _), List.nil_append] at q2
  have rd := j2.rd
  have cw : Chg (fun b' => b' = ch ∨ Bl vs b') w w2 := (Chg.of_below B1'_.out).then' c2 (fun i hi hlt => by
    rcases hi with h | h | h
    · exact .inl h
    · omega
    · exact .inr h)
  have hfin : ∃ us, QS w2 b ch most us (turnL p at_ xs) ∧ (∀ b', Bl us b' → w.heap.size ≤ b') ∧ Chg (fun b' => b' = ch ∨ Bl vs b') w w2 :=
    ⟨us, ⟨q2, i2, fun b' hb' => (f2 b' hb').2.1, a2, fun hb' => by have := (f2 b hb').1; omega⟩, fun b' hb' => by have := (f2 b' hb').1; omega, cw⟩
  clear j2 c2 HRD_ f2 q2 i2 a2 cw
  have HFIN_ := hid hfin
  clear hfin
  go_wp2
  go_ret
  exact ⟨rfl, HFIN_.out⟩
/-- The items behind a doubling, and whether there was one. -/
def twiceB (most : Nat) (p : Int) (xs : List Itm) : Bool := decide (0 ≤ p ∧ p < xs.length) && decide (xs.length < most)
def twiceL (most : Nat) (p : Int) (xs : List Itm) : List Itm := if twiceB most p xs = true then xs ++ [xs.getD p.toNat zeroI] else xs
set_option maxRecDepth 100000 in
set_option maxHeartbeats 1000000 in
theorem twice_c {b ch most : Nat} {vs : List Value} {xs : List Itm} (p : Int) (w : World) (hq : QS w b ch most vs xs) (hm : most ≤ 1000) (hn : xs.length ≤ most) (hl : ∀ k, k < xs.length → (xs.getD k zeroI).bs.length ≤ 140737488351232) :
    Calls Try.prog 18 #[.pointer (some ⟨b, 0, none⟩), .int .i64 p] w fun e w' => e = .returned (.bool (twiceB most p xs)) ∧ ∃ us, QS w' b ch most us (twiceL most p xs) ∧ (∀ b', Bl us b' → w.heap.size ≤ b') ∧ Chg (fun b' => b' = ch ∨ Bl vs b') w w' := by
  have hlk := look_c p w hq hm hn hl
  have HLK_ := hid hlk
  clear hlk
  go_enter Try.func18, Try.ntmps18
  go_wp2_with fail
  refine HLK_.out.mono ?_
  rintro e w1 ⟨v, us, rfl, q1, f1, hit, hmiss, c1⟩
  dsimp only
  clear HLK_
  by_cases hp : 0 ≤ p ∧ p < (xs.length : Int)
  · obtain ⟨a, c, rfl, hnb⟩ := hit hp
    have hlx := hl p.toNat (by omega)
    rw [decide_eq_true hp]
    have ht1 : xs.length < most → twiceB most p xs = true := fun hr => by unfold twiceB; rw [decide_eq_true hp, decide_eq_true hr]; rfl
    have ht0 : ¬ xs.length < most → twiceB most p xs = false := fun hr => by unfold twiceB; rw [decide_eq_false hr, Bool.and_false]
    have hl1 : twiceB most p xs = true → twiceL most p xs = xs ++ [xs.getD p.toNat zeroI] := fun h => if_pos h
    have hl0 : twiceB most p xs = false → twiceL most p xs = xs := fun h => if_neg (by rw [h]; simp)
    have HT1_ := hid ht1
    clear ht1
    have HT0_ := hid ht0
    clear ht0
    have HL1_ := hid hl1
    clear hl1
    have HL0_ := hid hl0
    clear hl0
    generalize xs.getD p.toNat zeroI = x at *
    clear hit hmiss
    have Q1_ := hid q1
    clear q1
    have F1_ := hid f1
    clear f1
    have C1_ := hid c1
    clear c1
    have HNB_ := hid hnb
    clear hnb
    go_upto_region 2 with (fail)
    obtain ⟨w2, hE, r2, _, b2, _⟩ := newb w1 (ic 0 none 0 0) (ic x.k a x.bs.length c) 32 (by simp)
    rw [hE]
    clear hE
    have q2 := Q1_.out.below b2
    have x2 : ItmIn w2 (.agg (ic x.k a x.bs.length c)) x := ⟨a, c, rfl, HNB_.out.1.below (by decide) b2⟩
    have cw2 := C1_.out.trans (.of_below b2)
    have hul : us.length = xs.length := q2.its.1
    generalize w1.heap.size = nb at *
    clear b2 Q1_ HNB_ C1_
    by_cases hr : xs.length < most
    · have hr' : us.length < most := by omega
      have Q2_ := hid q2
      clear q2
      have X2_ := hid x2
      clear x2
      have CW2_ := hid cw2
      clear cw2
      go_wp2_with fail
      refine (put_q _ x hlx w2 Q2_.out X2_.out hr').mono ?_
      rintro e w3 ⟨rfl, v', q3, n3, c3⟩
      dsimp only
      have hfin : ∃ us, QS w3 b ch most us (twiceL most p xs) ∧ (∀ b', Bl us b' → w.heap.size ≤ b') ∧ Chg (fun b' => b' = ch ∨ Bl vs b') w w3 := ⟨us ++ [v'], by rw [HL1_.out (HT1_.out hr)]; exact q3, fun b' hb' => by
        rcases Bl.snoc.1 hb' with h | h
        · exact (F1_.out b' h).1
        · have h1 := (n3.blk h).1
          have h2 := CW2_.out.size
          omega, CW2_.out.trans (c3.mono (fun _ _ h => .inl h))⟩
      clear q3 n3 c3 Q2_ X2_ CW2_ r2
      have HFIN_ := hid hfin
      clear hfin
      go_wp2
      go_ret
      exact ⟨by rw [HT1_.out hr]; rfl, HFIN_.out⟩
    · have hr' : most ≤ us.length := by omega
      have Q2_ := hid q2
      clear q2
      have X2_ := hid x2
      clear x2
      have CW2_ := hid cw2
      clear cw2
      go_wp2_with fail
      refine (put_qf _ x hlx w2 Q2_.out X2_.out hr').mono ?_
      rintro e w3 ⟨rfl, q3, b3⟩
      dsimp only
      have hfin : ∃ us, QS w3 b ch most us (twiceL most p xs) ∧ (∀ b', Bl us b' → w.heap.size ≤ b') ∧ Chg (fun b' => b' = ch ∨ Bl vs b') w w3 := ⟨us, by rw [HL0_.out (HT0_.out hr)]; exact q3, fun b' hb' => (F1_.out b' hb').1, CW2_.out.trans (.of_below b3)⟩
      clear q3 b3 Q2_ X2_ CW2_ r2
      have HFIN_ := hid hfin
      clear hfin
      go_wp2
      go_ret
      exact ⟨by rw [HT0_.out hr]; rfl, HFIN_.out⟩
  · obtain rfl := hmiss hp
    rw [decide_eq_false hp]
    have ht0 : twiceB most p xs = false := by unfold twiceB; rw [decide_eq_false hp, Bool.false_and]
    have hl0 : twiceL most p xs = xs := if_neg (by rw [ht0]; simp)
    have HT0_ := hid ht0
    clear ht0
    have HL0_ := hid hl0
    clear hl0
    clear hit hmiss
    have Q1_ := hid q1
    clear q1
    have F1_ := hid f1
    clear f1
    have C1_ := hid c1
    clear c1
    go_upto_region 2 with (fail)
    obtain ⟨w2, hE, r2, _, b2, _⟩ := newb w1 (ic 0 none 0 0) (ic 0 none 0 0) 32 (by simp)
    rw [hE]
    clear hE
    have hfin : ∃ us, QS w2 b ch most us (twiceL most p xs) ∧ (∀ b', Bl us b' → w.heap.size ≤ b') ∧ Chg (fun b' => b' = ch ∨ Bl vs b') w w2 := ⟨us, by rw [HL0_.out]; exact Q1_.out.below b2, fun b' hb' => (F1_.out b' hb').1, C1_.out.trans (.of_below b2)⟩
    generalize w1.heap.size = nb at *
    clear b2 Q1_ F1_ C1_ r2
    have HFIN_ := hid hfin
    clear hfin
    go_wp2
    go_ret
    exact ⟨by rw [HT0_.out]; rfl, HFIN_.out⟩
end Go.Proofs.Ytbdpnmocbpplbaa
