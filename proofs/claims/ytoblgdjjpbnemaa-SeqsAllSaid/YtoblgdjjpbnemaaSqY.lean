/-
  The law SeqsAll: it answers true. No condition.
-/
import Derived.Test.YtoblgdjjpbnemaaSqX
import Derived.Test.YtoblgdjjpbnemaaSqN
import Derived.Test.YtoblgdjjpbnemaaRegL
namespace Go.Proofs.Ytoblgdjjpbnemaa
open Go.RowKit

theorem sub_aqX (n : Int) (x : X3) (is : Bool) : sub (aq n x is) 1 3 = xc x := rfl
@[go_sem high] theorem eqAq (d : Nat) (n : Int) (x : X3) (is : Bool) (w : World) : (Op.equalIn (d + 3) 40 (.agg (aq n x is)) (.agg (aq n x is))).run Try.prog w = .ok true w := by
  rw [show d + 3 = (d + 2) + 1 from rfl, run_equalIn_agg w (d + 2) 40 _ _ (by kernel_rfl) (by kernel_rfl)]
  have hx : (aq n x is).extract 1 4 = xc x := rfl
  have h4 : (aq n x is)[4]? = some (.bool is) := rfl
  simp only [Program.fieldsOf, Try.underlying40]
  simp [go_sem, hx, h4]
theorem sd_nou (s : Sd) : ∀ v ∈ sd s, ∀ i, v ≠ .int .u8 i := by
  intro v hv i
  unfold sd at hv
  rcases Array.mem_append.1 hv with h | h
  · exact (i16_one _ v h).2 i
  · simp [hc] at h
    rcases h with rfl | rfl | rfl | rfl | rfl <;> simp
theorem ba_nou (nx : Nat → Int) (m : Nat) : ∀ v ∈ ba nx m, ∀ i, v ≠ .int .u8 i := by
  intro v hv i
  unfold ba at hv
  rcases Array.mem_append.1 hv with h | h
  · exact (i16_one _ v h).2 i
  · simp at h
    subst h
    simp
theorem bk_nou {w : World} {b m : Nat} {pb : PB} (h : BkW w b m pb) {g : Nat} (hg : InB b m pb.l g) : ∀ v ∈ row? w g, ∀ i, v ≠ .int .u8 i := by
  rcases hg with rfl | rfl | ⟨x, hx, rfl⟩
  · rw [h.row]
    exact ba_nou _ _
  · obtain ⟨es, c, hm, _⟩ := h.map
    have : row? w g = #[] := by
      unfold row?
      rw [hm]
      rfl
    rw [this]
    intro v hv
    simp at hv
  · rw [(h.snd x hx).1]
    exact sd_nou _
/-- The program's book and the reference's, in a world. -/
structure Lq (w wr : World) (b m : Nat) (pb : PB) (r : RB) (s1 s2 s3 : Sl) (rb : Nat) : Prop where
  g : BkG w wr b m pb
  mine : MineQ wr b m pb.l rb
  lo : w.heap.size ≤ rb
  row : row? wr rb = rc r s1 s2 s3
  rl : RL wr r s1 s2 s3
section
variable {w wr w' : World} {b m rb : Nat} {pb pb' : PB} {r r' : RB} {s1 s2 s3 t1 t2 t3 : Sl}
theorem Lq.step (h : Lq w wr b m pb r s1 s2 s3 rb) (hb : BkG w w' b m pb') (hs : Stq b m pb.l wr pb'.l w') : Lq w w' b m pb' r s1 s2 s3 rb := by
  obtain ⟨h1, h2⟩ := hs.mine h.mine
  exact ⟨hb, h1, h.lo, h2.trans h.row, h.rl.noU hs.chg (fun g _ hg => bk_nou h.g.bk hg)⟩
theorem Lq.below (h : Lq w wr b m pb r s1 s2 s3 rb) (hb : Below wr.heap.size wr w') : Lq w w' b m pb r s1 s2 s3 rb := h.step (h.g.below hb) (.below hb)
/-- The reference's book is set anew. -/
theorem Lq.put (h : Lq w wr b m pb r s1 s2 s3 rb) (hr : RL wr r' t1 t2 t3) : Lq w (wr.setRow rb (rc r' t1 t2 t3)) b m pb r' t1 t2 t3 rb := by
  have hch : Chg (fun g => g = rb) wr (wr.setRow rb (rc r' t1 t2 t3)) := (Chg.refl (fun g => g = rb) wr).setRow (.inr rfl) _
  refine ⟨⟨h.g.bk.kept hch (fun g hg e => h.mine.2 (e ▸ hg)), h.g.ok, h.g.bel.trans (hch.below h.g.bel.size (fun k hk e => by have := h.lo; omega)), h.g.lo⟩, ⟨by rw [own_setRow]; exact h.mine.1, h.mine.2⟩, h.lo, ?_, hr.noU hch (fun g _ hg => ?_)⟩
  · rw [row_setRow _ _ _ _ (by rw [h.row]; simp), if_pos rfl]
  · rw [show g = rb from hg, h.row]
    exact rc_nou _ _ _ _
theorem Lq.other (h : Lq w wr b m pb r s1 s2 s3 rb) {n : Nat} (hn : MineQ wr b m pb.l n) (hne : n ≠ rb) (cs : Array Value) : MineQ (wr.setRow rb cs) b m pb.l n ∧ row? (wr.setRow rb cs) n = row? wr n :=
  ⟨⟨by rw [own_setRow]; exact hn.1, hn.2⟩, by rw [row_setRow _ _ _ _ (by rw [h.row]; simp), if_neg hne]⟩
end
/-- The worlds in which what the test reads stays. -/
def K3 (n1 n2 n3 : Nat) (A B C : Array Value) (w : World) : Prop := row? w n1 = A ∧ row? w n2 = B ∧ row? w n3 = C
theorem newb2 (w : World) (A B A' B' : Array Value) (S T : TypeId) (hA : A ≠ #[]) (hA' : A' ≠ #[]) : ∃ W1, (((w.alloc (.cells A S)).alloc (.cells A' T)).setRow w.heap.size B).setRow (w.heap.size + 1) B' = W1 ∧ row? W1 w.heap.size = B ∧ own? W1 w.heap.size = true ∧ row? W1 (w.heap.size + 1) = B' ∧ own? W1 (w.heap.size + 1) = true ∧ Below w.heap.size w W1 ∧ w.heap.size + 2 ≤ W1.heap.size := by
  have hb : Below w.heap.size w ((w.alloc (.cells A S)).alloc (.cells A' T)) := ((Below.refl _ _).alloc (Nat.le_refl _) _).alloc (by simp) _
  have r0 : row? ((w.alloc (.cells A S)).alloc (.cells A' T)) w.heap.size = A := by simp [row_alloc, rowOf]
  have r1 : row? ((w.alloc (.cells A S)).alloc (.cells A' T)) (w.heap.size + 1) = A' := by simp [row_alloc, rowOf]
  have o0 : own? ((w.alloc (.cells A S)).alloc (.cells A' T)) w.heap.size = true := by simp [own_alloc, ownOf]
  have o1 : own? ((w.alloc (.cells A S)).alloc (.cells A' T)) (w.heap.size + 1) = true := by simp [own_alloc, ownOf]
  have hz : ((w.alloc (.cells A S)).alloc (.cells A' T)).heap.size = w.heap.size + 2 := by simp
  generalize (w.alloc (.cells A S)).alloc (.cells A' T) = V at *
  have c1 : Chg (fun b => b = w.heap.size ∨ b = w.heap.size + 1) V ((V.setRow w.heap.size B).setRow (w.heap.size + 1) B') := ((Chg.refl _ V).setRow (.inr (.inl rfl)) _).setRow (.inr (.inr rfl)) _
  have e1 : row? (V.setRow w.heap.size B) (w.heap.size + 1) = A' := by rw [row_setRow _ _ _ _ (by rw [r0]; exact hA), if_neg (by omega)]; exact r1
  have e0 : row? (V.setRow w.heap.size B) w.heap.size = B := by rw [row_setRow _ _ _ _ (by rw [r0]; exact hA), if_pos rfl]
  exact ⟨_, rfl, by rw [row_setRow _ _ _ _ (by rw [e1]; exact hA'), if_neg (by omega)]; exact e0, by rw [own_setRow, own_setRow]; exact o0, by rw [row_setRow _ _ _ _ (by rw [e1]; exact hA'), if_pos rfl], by rw [own_setRow, own_setRow]; exact o1, hb.trans (c1.below hb.size (fun k hk e => by omega)), by have := c1.size; omega⟩
set_option maxRecDepth 100000 in
set_option maxHeartbeats 8000000 in
theorem all11_fn (xs : List OpQ) (hm : xs.length ≤ 9223372036854775807) (a : Option Addr) (cap : Nat) (w : World) (hX : RowsIn oq zeroOQ 15 w a xs) :
    Calls Try.prog 3 #[.slice a xs.length cap] w fun e w' => e = .returned (.bool true) ∧ Below w.heap.size w w' := by
  have hA : ∀ V, Below w.heap.size w V → RowsIn oq zeroOQ 15 V a xs := fun V hb => hX.below (by decide) hb
  clear hX
  have HA_ := hid hA
  clear hA
  go_enter Try.func3, Try.ntmps3
  go_wp2_with fail
  refine (new_g w).mono ?_
  rintro e w2 ⟨b, m, rfl, h2⟩
  dsimp only
  have H2_ := hid h2
  clear h2
  by_cases y : (400 : Int) < (xs.length : Int)
  · go_wp2_with fail
    refine (alive_c w2).mono ?_
    rintro e w3 ⟨rfl, h3⟩
    dsimp only
    have H3_ := hid h3
    clear h3
    go_wp2
    go_ret
    exact ⟨rfl, (H2_.out.below H3_.out).bel⟩
  have hlen : xs.length ≤ 400 := by omega
  clear hm
  go_upto_region 5 with (fail)
  simp only [rc_lit]
  obtain ⟨w3, hE⟩ : ∃ w3, w2.alloc (.cells (rc zeroRB nilS nilS nilS) 31) = w3 := ⟨_, rfl⟩
  have b3 : Below w2.heap.size w2 w3 := by rw [← hE]; exact (Below.refl _ _).alloc (Nat.le_refl _) _
  have r3 : row? w3 w2.heap.size = rc zeroRB nilS nilS nilS := by rw [← hE]; simp [row_alloc, rowOf]
  have o3 : own? w3 w2.heap.size = true := by rw [← hE]; simp [own_alloc, ownOf]
  rw [hE]
  clear hE
  have h3 : Lq w w3 b m zeroPB zeroRB nilS nilS nilS w2.heap.size := ⟨H2_.out.below b3, H2_.out.bk.fresh (Nat.le_refl _) o3, H2_.out.bel.size, r3, .zero _⟩
  clear H2_ b3 r3 o3
  generalize w2.heap.size = rb at *
  clear w2
  have H3_ := hid h3
  clear h3
  go_wp2
  go_loopw [24] (fun i wr => ∃ (j : Nat) (pb : PB) (r : RB) (s1 s2 s3 : Sl), j ≤ xs.length ∧ i = .int .i64 j ∧ Lq w wr b m pb r s1 s2 s3 rb ∧ Sim pb r ∧ Szs r j) (fun i _ => xs.length - (intOf i).toNat)
  case atStart => exact ⟨0, zeroPB, zeroRB, nilS, nilS, nilS, by omega, rfl, H3_.out, .zero, .zero⟩
  case round =>
    clear H3_
    obtain ⟨j, pb, r, s1, s2, s3, hj, rfl, hG, hS, hZ⟩ := hrel
    by_cases hjt : j < xs.length
    · have hr := HA_.out wr hG.g.bel
      obtain ⟨g, off, rfl, hrow⟩ := hr.at (by intro e; rw [e] at hjt; simp at hjt)
      obtain ⟨q1, q2⟩ := hrow j hjt
      have hjt' : (j : Int) < (xs.length : Int) := by omega
      have hok := hZ.ok hS hG.g.ok (by omega)
      have hZ' := hZ.step (xs.getD j zeroOQ)
      have hSd := fun g => sim_do hS hG.g.ok hG.g.bk.nd (xs.getD j zeroOQ) g
      generalize xs.getD j zeroOQ = o at *
      clear hrow hr hS hZ
      have HG_ := hid hG
      clear hG
      have HSD_ := hid hSd
      clear hSd
      have HZ'_ := hid hZ'
      clear hZ'
      go_upto_region 8 with (fail)
      obtain ⟨w3, hE, r6, o6, b3, l3⟩ := newb wr (oq zeroOQ) (oq o) 38 (by simp)
      rw [oq_lit, hE]
      clear hE q1 q2
      have hn6 := HG_.out.g.bk.lt (.inl rfl)
      have h3 := HG_.out.below b3
      have m6 := HG_.out.g.bk.fresh (Nat.le_refl _) o6
      have n6 : wr.heap.size ≠ rb := fun e => by have := own_lt HG_.out.mine.1; omega
      have hcc := rdo_c r s1 s2 s3 o w3 h3.rl hok
      have rrb := h3.row
      clear b3 HG_ o6 l3 hn6 hok
      generalize wr.heap.size = a6 at *
      clear wr
      have HCC_ := hid hcc
      clear hcc
      have H3_ := hid h3
      clear h3
      have M6_ := hid m6
      clear m6
      go_wp2_with fail
      refine HCC_.out.mono ?_
      rintro e w4 ⟨⟨t1, t2, t3, rfl, rl4, b4⟩⟩
      dsimp only
      have h4 := H3_.out.below b4
      obtain ⟨m6', r6'⟩ := M6_.out.below b4
      rw [r6] at r6'
      clear HCC_ H3_ M6_ b4 r6 rrb
      have hSd := HSD_.out
      have hZ'' := HZ'_.out
      clear HSD_ HZ'_
      generalize (doRR r o).1 = r' at *
      generalize hAN : (doRR r o).2 = an at *
      obtain ⟨N, X, I⟩ := an
      clear hAN
      dsimp only
      have H4_ := hid h4
      clear h4
      have M6'_ := hid m6'
      clear m6'
      have HSD_ := hid hSd
      clear hSd
      have HZ''_ := hid hZ''
      clear hZ''
      go_upto_region 9 with (fail)
      obtain ⟨w5, hE, r7, o7, r8, o8, b5, l5⟩ := newb2 w4 (rc zeroRB nilS nilS nilS) (rc r' t1 t2 t3) (aq 0 zeroX false) (aq N X I) 31 40 (by simp) (by simp)
      simp only [rc_lit, aq_lit]
      rw [hE]
      clear hE
      have h5 := H4_.out.below b5
      obtain ⟨m6, r6⟩ := M6'_.out.below b5
      rw [r6'] at r6
      have m8 := H4_.out.g.bk.fresh (g := w4.heap.size + 1) (by omega) o8
      have n8 : w4.heap.size + 1 ≠ rb := fun e => by have := own_lt H4_.out.mine.1; omega
      have rl5 := rl4.below b5
      have o5 := h5.mine.1
      have r5 := h5.row
      clear H4_ M6'_ rl4 r6' b5 o7 o8 l5
      generalize w4.heap.size = a7 at *
      clear w4
      have H5_ := hid h5
      clear h5
      have M6_ := hid m6
      clear m6
      have M8_ := hid m8
      clear m8
      have RL5_ := hid rl5
      clear rl5
      go_upto_region 10 with (fail)
      have h6 := H5_.out.put RL5_.out
      obtain ⟨m6, r6'⟩ := H5_.out.other M6_.out n6 (rc r' t1 t2 t3)
      obtain ⟨m8, r8'⟩ := H5_.out.other M8_.out n8 (rc r' t1 t2 t3)
      rw [r6] at r6'
      rw [r8] at r8'
      clear H5_ RL5_ M6_ M8_ r5 o5 r6 r8 r7
      generalize w5.setRow rb (rc r' t1 t2 t3) = w6 at *
      clear w5
      have hK : K3 a6 (a7 + 1) rb (oq o) (aq N X I) (rc r' t1 t2 t3) w6 := ⟨r6', r8', h6.row⟩
      have hd : ∀ w', K3 a6 (a7 + 1) rb (oq o) (aq N X I) (rc r' t1 t2 t3) w' → ∃ d, w' = grK (K3 a6 (a7 + 1) rb (oq o) (aq N X I) (rc r' t1 t2 t3)) w6 d := fun w' h => ⟨w', grK_of h⟩
      have kr0 := fun d => (grK_is hK d).1
      have kr1 := fun d => (grK_is hK d).2.1
      have kr2 := fun d => (grK_is hK d).2.2
      have bd : Below w6.heap.size w6 w6.drew := (Below.refl _ _).drew
      have h7 := h6.below bd
      have m6d := (m6.below bd).1
      have m8d := (m8.below bd).1
      have hKd : K3 a6 (a7 + 1) rb (oq o) (aq N X I) (rc r' t1 t2 t3) w6.drew := hK
      clear h6 m6 m8 r6' r8' bd
      have H7_ := hid h7
      clear h7
      have M6D_ := hid m6d
      clear m6d
      have M8D_ := hid m8d
      clear m8d
      have HD_ := hid hd
      clear hd
      have HK_ := hid hK
      clear hK
      refine wp_region_segM (grK (K3 a6 (a7 + 1) rb (oq o) (aq N X I) (rc r' t1 t2 t3)) w6) [([0, 1, 3], 2), ([4, 5, 6, 8, 9, 10], 7), ([11], 12)] (by kernel_rfl) (by kernel_rfl) (fun c a b w hd h => And.intro (hd.symm.trans (And.left h)) (And.right h)) (HD_.out _ hKd) ?_
      simp only [wpSeg, selL, List.filterMap_cons, List.filterMap_nil, List.getElem?_cons_zero, List.getElem?_cons_succ]
      refine (show wpQuiet _ _ _ _ [_, _, _] _ from ?_)
      repeat (go_big_quiet_step (fail))
      refine wpQuiet_nil ?_
      generalize w6.drew = w7 at *
      have hcc := does_g H7_.out.g o
      have HCC_ := hid hcc
      clear hcc
      have HKD_ := hid hKd
      clear hKd
      go_wp2_with fail
      refine HCC_.out.mono ?_
      rintro e w8 ⟨g', rfl, g8, s8⟩
      dsimp only
      have h8 := H7_.out.step g8 s8
      obtain ⟨m6, r6⟩ := s8.mine M6D_.out
      obtain ⟨m8, r8⟩ := s8.mine M8D_.out
      obtain ⟨e1, e2⟩ := HSD_.out g'
      have hK8 : K3 a6 (a7 + 1) rb (oq o) (aq N X I) (rc r' t1 t2 t3) w8 := ⟨r6.trans HKD_.out.1, r8.trans HKD_.out.2.1, h8.row⟩
      rw [e1]
      clear HCC_ H7_ M6D_ M8D_ HSD_ HKD_ g8 s8 m6 r6 m8 r8 e1
      generalize (doB pb o g').1 = pb' at *
      have hl : pb'.l.length = r'.sn.length := by rw [e2.sn, List.length_map]
      have hdd := HD_.out _ hK8
      have hcl := len_g h8.g
      rw [hl] at hcl
      dsimp only
      have H8_ := hid h8
      clear h8
      have HDD_ := hid hdd
      clear hdd
      have HCL_ := hid hcl
      clear hcl
      have E2_ := hid e2
      clear e2
      go_wp2
      refine (show _ ∧ _ from ⟨HDD_.out, ?_⟩)
      refine (show wpQuiet _ _ _ _ [_, _, _, _, _, _] _ from ?_)
      repeat (go_big_quiet_step (fail))
      refine wpQuiet_nil ?_
      go_wp2_with fail
      refine HCL_.out.mono ?_
      rintro e w9 ⟨rfl, rfl⟩
      dsimp only
      go_wp2
      refine (show _ ∧ _ from ⟨HDD_.out, ?_⟩)
      refine (show wpQuiet _ _ _ _ [_] _ from ?_)
      repeat (go_big_quiet_step (fail))
      refine wpQuiet_nil ?_
      go_wp2
      refine (show _ ∧ _ from ⟨HDD_.out, ?_⟩)
      go_wp2
      exact ⟨⟨j + 1, pb', r', t1, t2, t3, by omega, by go_num, H8_.out, E2_.out, HZ''_.out⟩, by simp [intOf]; omega⟩
    · obtain rfl : j = xs.length := by omega
      have HG_ := hid hG
      clear hG
      go_wp2_with fail
      refine (alive_c _).mono ?_
      rintro e w3 ⟨rfl, b3⟩
      dsimp only
      have h9 := HG_.out.g.below b3
      clear b3 HG_
      have H9_ := hid h9
      clear h9
      go_wp2
      go_ret
      exact ⟨rfl, H9_.out.bel⟩
end Go.Proofs.Ytoblgdjjpbnemaa
