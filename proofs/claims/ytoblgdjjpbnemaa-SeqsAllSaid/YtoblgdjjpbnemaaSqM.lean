/-
  The law SeqsNexts: it answers true. No condition.
-/
import Derived.Test.YtoblgdjjpbnemaaSqJ
namespace Go.Proofs.Ytoblgdjjpbnemaa
open Go.RowKit

theorem fresh_nx (pb : PB) (p : Prt) (k q : Int) (g : Nat) : (freshB pb p k q g).1.nx = pb.nx := by
  unfold freshB
  split
  · cases getE pb.l p with
    | none => dsimp only; split <;> rfl
    | some e => dsimp only; split <;> rfl
  · rfl
theorem keep_nx (pb : PB) (p : Prt) (q : Int) (x : X3) : (keepB pb p q x).1.nx = pb.nx := by
  unfold keepB
  cases getE pb.l p with
  | none => rfl
  | some e => dsimp only; split <;> rfl
theorem take_nx (pb : PB) (p : Prt) (q : Int) : (takeQ pb p q).1.nx = pb.nx := by
  unfold takeQ
  cases getE pb.l p with
  | none => rfl
  | some e => dsimp only; split <;> rfl
theorem next_one (pb : PB) : nextB pb 1 = (⟨upd pb.nx 1 (headN (pb.nx 1)), pb.l⟩, pb.nx 1) := rfl
theorem headN_mod (n : Int) (h : 0 ≤ n) : headN (n % 65536) = (n + 1) % 65536 := by
  unfold headN
  split <;> omega
theorem do_nx {pb : PB} {o : OpQ} (g : Nat) (h : ¬ (o.kd = 0 ∧ o.ty = 1)) : (doB pb o g).1.nx 1 = pb.nx 1 := by
  unfold doB
  split
  · rename_i h0
    show (nextB pb o.ty).1.nx 1 = pb.nx 1
    unfold nextB
    split
    · rename_i hk
      obtain ⟨j, hj, _⟩ := kindB_nat hk
      show upd pb.nx o.ty.toNat _ 1 = _
      unfold upd
      rw [if_neg]
      intro e
      exact h ⟨h0, by omega⟩
    · rfl
  split
  · exact congrFun (fresh_nx _ _ _ _ _) 1
  split
  · exact congrFun (keep_nx _ _ _ _) 1
  split
  · exact congrFun (take_nx _ _ _) 1
  split
  · rfl
  · rfl
theorem do_one {pb : PB} {o : OpQ} (g : Nat) (h0 : o.kd = 0) (h1 : o.ty = 1) : (doB pb o g).1.nx 1 = headN (pb.nx 1) ∧ (doB pb o g).2.n = pb.nx 1 := by
  unfold doB
  rw [if_pos h0, h1]
  exact ⟨rfl, rfl⟩
theorem tmod_mod (n : Int) (h : 0 ≤ n) : n.tmod 65536 = n % 65536 := Int.tmod_eq_emod_of_nonneg h
set_option maxRecDepth 100000 in
set_option maxHeartbeats 8000000 in
theorem nexts_fn (xs : List OpQ) (hm : xs.length ≤ 9223372036854775807) (a : Option Addr) (cap : Nat) (n : Int) (w : World) (hX : RowsIn oq zeroOQ 15 w a xs) :
    Calls Try.prog 6 #[.slice a xs.length cap, .int .i64 n] w fun e w' => e = .returned (.bool true) ∧ Below w.heap.size w w' := by
  have hA : ∀ V, Below w.heap.size w V → RowsIn oq zeroOQ 15 V a xs := fun V hb => hX.below (by decide) hb
  clear hX
  have HA_ := hid hA
  clear hA
  go_enter Try.func6, Try.ntmps6
  go_wp2_with fail
  refine (new_g w).mono ?_
  rintro e w2 ⟨b, m, rfl, h2⟩
  dsimp only
  have H2_ := hid h2
  clear h2
  by_cases hbad : (400 : Int) < (xs.length : Int) ∨ n < 0 ∨ 70000 < n
  · have hbad' : (400 : Int) < (xs.length : Int) ∨ (¬ (400 : Int) < (xs.length : Int) ∧ n < 0) ∨ (¬ (400 : Int) < (xs.length : Int) ∧ ¬ n < 0 ∧ 70000 < n) := by omega
    clear hbad
    rcases hbad' with y | ⟨n0, y⟩ | ⟨n0, n1, y⟩ <;> (
      go_wp2_with fail
      refine (alive_c w2).mono ?_
      rintro e w3 ⟨rfl, h3⟩
      dsimp only
      have H3_ := hid h3
      clear h3
      go_wp2
      go_ret
      exact ⟨rfl, (H2_.out.below H3_.out).bel⟩)
  have n0 : ¬ (400 : Int) < (xs.length : Int) := by omega
  have n1 : ¬ n < 0 := by omega
  have n2 : ¬ 70000 < n := by omega
  have hlen : xs.length ≤ 400 := by omega
  obtain ⟨N, rfl⟩ : ∃ N : Nat, n = N := ⟨n.toNat, by omega⟩
  have hN : N ≤ 70000 := by omega
  clear hbad hm
  go_wp2
  go_loopw [33] (fun i wr => ∃ (j : Nat) (pb : PB), j ≤ N ∧ i = .int .i64 j ∧ BkG w wr b m pb ∧ pb.nx 1 = (j : Int) % 65536) (fun i _ => N - (intOf i).toNat)
  case atStart => exact ⟨0, zeroPB, by omega, rfl, H2_.out, rfl⟩
  case round =>
    clear H2_
    obtain ⟨j, pb, hj, rfl, hG, hn⟩ := hrel
    by_cases hjt : j < N
    · have hjt' : (j : Int) < (N : Int) := by omega
      have hc := next_g hG 1
      rw [next_one, hn, headN_mod _ (by omega)] at hc
      have hne : (((j : Int) % 65536) != ((j : Int).tmod 65536)) = false := by rw [tmod_mod _ (by omega)]; simp
      clear hG
      have HC_ := hid hc
      clear hc
      go_wp2_with fail
      refine HC_.out.mono ?_
      rintro e w3 ⟨rfl, h3, _⟩
      dsimp only
      clear HC_
      have H3_ := hid h3
      clear h3
      go_wp2
      exact ⟨⟨j + 1, _, by omega, by go_num, H3_.out, by simp [upd]⟩, by simp [intOf]; omega⟩
    · obtain rfl : j = N := by omega
      clear hjt hj
      have HG_ := hid hG
      clear hG
      have HN_ := hid hn
      clear hn
      go_wp2
      go_loopw [7, 45] (fun nv i wr => ∃ (k c : Nat) (pb : PB), k ≤ xs.length ∧ c ≤ j + k ∧ nv = .int .i64 c ∧ i = .int .i64 k ∧ BkG w wr b m pb ∧ pb.nx 1 = (c : Int) % 65536) (fun _ i _ => xs.length - (intOf i).toNat)
      case atStart => exact ⟨0, j, pb, by omega, by omega, rfl, rfl, HG_.out, HN_.out⟩
      case round =>
        clear HG_ HN_
        obtain ⟨k, c, pb, hk, hc, rfl, rfl, hG, hn⟩ := hrel
        by_cases hkt : k < xs.length
        · have hr := HA_.out _ hG.bel
          obtain ⟨g, off, rfl, hrow⟩ := hr.at (by intro e; rw [e] at hkt; simp at hkt)
          obtain ⟨s1, s2⟩ := hrow k hkt
          have hkt' : (k : Int) < (xs.length : Int) := by omega
          generalize xs.getD k zeroOQ = o at *
          clear hrow hr
          have HG_ := hid hG
          clear hG
          have HN_ := hid hn
          clear hn
          go_upto_region 14 with (fail)
          obtain ⟨w3, hE, r3, o3, b3, l3⟩ := newb _ (oq zeroOQ) (oq o) 38 (by simp)
          rw [oq_lit, hE]
          clear hE s1 s2
          have q3 := HG_.out.bk.fresh (Nat.le_refl _) o3
          have g3 := HG_.out.below b3
          clear b3 HG_ o3 l3
          generalize wr.heap.size = n9 at *
          have hcc := does_g g3 o
          have HCC_ := hid hcc
          clear hcc
          have Q3_ := hid q3
          clear q3
          go_wp2_with fail
          refine HCC_.out.mono ?_
          rintro e w4 ⟨g', rfl, g4, s4⟩
          dsimp only
          obtain ⟨q4, r4⟩ := s4.mine Q3_.out
          rw [r3] at r4
          have hno := fun h => do_nx (pb := pb) (o := o) g' h
          have hone := fun h0 h1 => do_one (pb := pb) (o := o) g' h0 h1
          generalize (doB pb o g').1 = pb' at *
          generalize (doB pb o g').2 = an at *
          obtain ⟨N, X, I⟩ := an
          dsimp only at *
          clear HCC_ Q3_ s4 r3 g3
          have G4_ := hid g4
          clear g4
          have Q4_ := hid q4
          clear q4
          go_upto_region 15 with (fail)
          obtain ⟨w5, hE, r10, o10, b5, l5⟩ := newb w4 (aq 0 zeroX false) (aq N X I) 40 (by simp)
          rw [aq_lit, hE]
          clear hE
          have r9 : row? w5 n9 = oq o := (row_of_block (b5.block _ (own_lt Q4_.out.1))).trans r4
          have g5 := G4_.out.below b5
          clear b5 G4_ Q4_ r4 o10 l5
          generalize w4.heap.size = n10 at *
          clear w4
          by_cases h0 : o.kd = 0
          · by_cases h1 : o.ty = 1
            · obtain ⟨e1, e2⟩ := hone h0 h1
              rw [HN_.out] at e1 e2
              rw [headN_mod _ (by omega)] at e1
              have hne : (((c : Int) % 65536) != ((c : Int).tmod 65536)) = false := by rw [tmod_mod _ (by omega)]; simp
              have hw : wrap64 ((c : Int) + 1) = (c : Int) + 1 := by unfold wrap64; omega
              rw [e2] at r10
              clear hone hno e2
              have G5_ := hid g5
              clear g5
              have E1_ := hid e1
              clear e1
              go_wp2
              exact ⟨⟨k + 1, c + 1, pb', by omega, by omega, by go_num, by go_num, G5_.out, by rw [E1_.out]; congr 1⟩, by simp [intOf]; omega⟩
            · have e1 := hno (fun e => h1 e.2)
              rw [HN_.out] at e1
              have h1' : (o.ty == 1) = false := by simpa using h1
              clear hone hno h1
              have G5_ := hid g5
              clear g5
              have E1_ := hid e1
              clear e1
              go_wp2
              exact ⟨⟨k + 1, c, pb', by omega, by omega, rfl, by go_num, G5_.out, E1_.out⟩, by simp [intOf]; omega⟩
          · have e1 := hno (fun e => h0 e.1)
            rw [HN_.out] at e1
            have h0' : (o.kd == 0) = false := by simpa using h0
            clear hone hno h0
            have G5_ := hid g5
            clear g5
            have E1_ := hid e1
            clear e1
            go_wp2
            exact ⟨⟨k + 1, c, pb', by omega, by omega, rfl, by go_num, G5_.out, E1_.out⟩, by simp [intOf]; omega⟩
        · obtain rfl : k = xs.length := by omega
          have heq : (((c : Int) % 65536) == ((c : Int).tmod 65536)) = true := by rw [tmod_mod _ (by omega)]; simp
          have HG_ := hid hG
          clear hG
          have HN_ := hid hn
          clear hn
          go_wp2_with fail
          refine (alive_c _).mono ?_
          rintro e w3 ⟨rfl, b3⟩
          dsimp only
          have hcc := next_g (HG_.out.below b3) 1
          rw [next_one, HN_.out] at hcc
          clear b3 HG_ HN_
          have HCC_ := hid hcc
          clear hcc
          go_wp2_with fail
          refine HCC_.out.mono ?_
          rintro e w4 ⟨rfl, g4, _⟩
          dsimp only
          clear HCC_
          have G4_ := hid g4
          clear g4
          go_wp2
          go_ret
          exact ⟨rfl, G4_.out.bel⟩
end Go.Proofs.Ytoblgdjjpbnemaa
