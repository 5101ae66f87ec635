/-
  The law QueueAll: it answers true. No condition.
-/
import Derived.Test.YtbdpnmocbpplbaaQvB
namespace Go.Proofs.Ytbdpnmocbpplbaa
open Go.RowKit Go.Conc

/-- Bytes that no item of the queue lies in. -/
structure BsI (w : World) (vs : List Value) (a : Option Addr) (bs : List Int) : Prop where
  row : RowsIn b1 0 1 w a bs
  off : ∀ b, a.map (·.block) = some b → bs = [] ∨ ¬ Bl vs b
/-- The reference's items, of which none lies in an item of the queue, nor in the block of the reference's queue. -/
structure RefI (w : World) (vs : List Value) (rb : Nat) (a : Option Addr) (zs : List ItR) : Prop where
  rl : RL w a zs
  row : ∀ b, a.map (·.block) = some b → zs = [] ∨ (¬ Bl vs b ∧ b ≠ rb)
  itm : ∀ z ∈ zs, ∀ b, z.a.map (·.block) = some b → z.x.bs = [] ∨ ¬ Bl vs b
theorem BsI.below {w w' : World} {vs : List Value} {a : Option Addr} {bs : List Int} (h : BsI w vs a bs) (hb : Below w.heap.size w w') : BsI w' vs a bs := ⟨h.row.below (by decide) hb, h.off⟩
theorem RefI.below {w w' : World} {vs : List Value} {rb : Nat} {a : Option Addr} {zs : List ItR} (h : RefI w vs rb a zs) (hb : Below w.heap.size w w') : RefI w' vs rb a zs := ⟨h.rl.below hb, h.row, h.itm⟩
theorem RefI.bs {w : World} {vs : List Value} {rb : Nat} {a : Option Addr} {zs : List ItR} (h : RefI w vs rb a zs) {z : ItR} (hz : z ∈ zs) : BsI w vs z.a z.x.bs := ⟨(h.rl.ok z hz).1, h.itm z hz⟩
theorem BsI.stp {ch b most : Nat} {vs us : List Value} {xs : List Itm} {w w' : World} {a : Option Addr} {bs : List Int} (h : BsI w vs a bs) (s : Stp ch vs w us w') (hq : QS w b ch most vs xs) : BsI w' us a bs := by
  by_cases h0 : bs = []
  · exact ⟨.inl h0, fun _ _ => .inl h0⟩
  · obtain ⟨g, off, rfl, hr⟩ := h.row.at h0
    have hl := hr.lt (by decide) h0
    have hn := (h.off g rfl).resolve_left h0
    refine ⟨h.row.kept (by decide) s.chg (fun b' hb e => ?_), fun b' hb => .inr (fun e => ?_)⟩
    · cases hb
      rcases e with e | e
      · rw [e]; exact hq.que.rowc
      · exact absurd e hn
    · obtain rfl : g = b' := by simpa using hb
      rcases s.blk g e with h1 | h1
      · omega
      · exact hn h1
theorem RefI.stp {ch b most rb : Nat} {vs us : List Value} {xs : List Itm} {w w' : World} {a : Option Addr} {zs : List ItR} (h : RefI w vs rb a zs) (s : Stp ch vs w us w') (hq : QS w b ch most vs xs) : RefI w' us rb a zs := by
  have hi : ∀ z ∈ zs, BsI w' us z.a z.x.bs := fun z hz => (h.bs hz).stp s hq
  refine ⟨⟨?_, fun z hz => ⟨(hi z hz).row, (h.rl.ok z hz).2⟩⟩, fun b' hb => ?_, fun z hz => (hi z hz).off⟩
  · by_cases h0 : zs = []
    · exact .inl h0
    · exact h.rl.row.kept (by decide) s.chg (fun b' hb e => by
        rcases e with e | e
        · rw [e]; exact hq.que.rowc
        · exact absurd e ((h.row b' hb).resolve_left h0).1)
  · by_cases h0 : zs = []
    · exact .inl h0
    · obtain ⟨g, off, rfl, hr⟩ := h.rl.row.at h0
      have hl := hr.lt (by decide) h0
      have hn := (h.row b' hb).resolve_left h0
      refine .inr ⟨fun e => ?_, hn.2⟩
      obtain rfl : g = b' := by simpa using hb
      rcases s.blk g e with h1 | h1
      · omega
      · exact hn.1 h1
/-- Behind a call of the reference. -/
theorem RefI.do {W w w' : World} {b ch n rb : Nat} {vs : List Value} {ys : List Itm} {a a' oad xa : Option Addr} {zs zs' : List ItR} {ox : Itm} {oc : Nat} {bs : List Int} (h : RefI w vs rb a zs) (hq : QG W w b ch n vs ys) (hrb : rb < w.heap.size) (ho : BsI w vs oad ox.bs)
    (rl : RL w' a' zs') (hx : RowsIn b1 0 1 w' xa bs) (org : Org w a zs a' zs') (mem : ∀ z ∈ zs', Src w zs ⟨ox, oad, oc⟩ z) (src : bs = [] ∨ ∃ z ∈ zs, z.a = xa ∧ z.x.bs = bs) : RefI w' vs rb a' zs' ∧ BsI w' vs xa bs := by
  have hnew : ∀ g, w.heap.size ≤ g → ¬ Bl vs g := fun g hg e => by have := hq.qs.lt e; omega
  refine ⟨⟨rl, fun g hg => ?_, fun z hz g hg => ?_⟩, hx, fun g hg => ?_⟩
  · rcases org g hg with h1 | h1 | ⟨_, h2, h3⟩
    · exact .inl h1
    · exact .inr ⟨hnew g h1, by omega⟩
    · exact .inr ((h.row g h3).resolve_left h2)
  · rcases mem z hz with h1 | h1 | h1
    · exact h.itm z h1 g hg
    · subst h1
      exact ho.off g hg
    · exact .inr (hnew g (h1 g hg))
  · rcases src with h1 | ⟨z, hz, rfl, rfl⟩
    · exact .inl h1
    · exact h.itm z hz g hg
/-- A block of its own, without bytes, is set anew. -/
theorem RefI.set {w w' : World} {vs : List Value} {rb : Nat} {a : Option Addr} {zs : List ItR} (h : RefI w vs rb a zs) (hc : Chg (· = rb) w w') (hno : ∀ v ∈ row? w rb, ∀ n, v ≠ .int .u8 n) : RefI w' vs rb a zs :=
  ⟨h.rl.keptU hc (fun b hb => by subst hb; exact hno) (fun b hb => (h.row b hb).imp id (fun h => h.2)), h.row, h.itm⟩
theorem BsI.set {w w' : World} {vs : List Value} {rb : Nat} {a : Option Addr} {bs : List Int} (h : BsI w vs a bs) (hc : Chg (· = rb) w w') (hno : ∀ v ∈ row? w rb, ∀ n, v ≠ .int .u8 n) : BsI w' vs a bs :=
  ⟨RowsIn.keptU h.row hc (fun b hb => by subst hb; exact hno), h.off⟩
theorem QG.set {w0 wr w' : World} {b ch n rb : Nat} {vs : List Value} {ys : List Itm} (h : QG w0 wr b ch n vs ys) (hc : Chg (· = rb) wr w') (h1 : b ≠ rb) (h2 : ch ≠ rb) (h3 : ¬ Bl vs rb) (h4 : w0.heap.size ≤ rb) : QG w0 w' b ch n vs ys :=
  ⟨h.qs.kept hc h1 h2 (fun b' hb e => by subst e; exact h3 hb), h.good, h.fr, h.bel.trans (hc.below h.bel.size (fun k hk e => by omega)), h.lch, h.le⟩
theorem newb2 (w : World) (A B A' B' : Array Value) (S T : TypeId) (hA : A ≠ #[]) (hA' : A' ≠ #[]) : ∃ W1, (((w.alloc (.cells A S)).alloc (.cells A' T)).setRow w.heap.size B).setRow (w.heap.size + 1) B' = W1 ∧ row? W1 w.heap.size = B ∧ own? W1 w.heap.size = true ∧ row? W1 (w.heap.size + 1) = B' ∧ own? W1 (w.heap.size + 1) = true ∧ Below w.heap.size w W1 ∧ w.heap.size + 2 ≤ W1.heap.size := by
  have hb : Below w.heap.size w ((w.alloc (.cells A S)).alloc (.cells A' T)) := ((Below.refl _ _).alloc (Nat.le_refl _) _).alloc (by simp) _
  have r0 : row? ((w.alloc (.cells A S)).alloc (.cells A' T)) w.heap.size = A := by simp [row_alloc, rowOf]
  have r1 : row? ((w.alloc (.cells A S)).alloc (.cells A' T)) (w.heap.size + 1) = A' := by simp [row_alloc, rowOf]
  have o0 : own? ((w.alloc (.cells A S)).alloc (.cells A' T)) w.heap.size = true := by simp [own_alloc, ownOf]
  have o1 : own? ((w.alloc (.cells A S)).alloc (.cells A' T)) (w.heap.size + 1) = true := by simp [own_alloc, ownOf]
  have hz : ((w.alloc (.cells A S)).alloc (.cells A' T)).heap.size = w.heap.size + 2 := by simp
  generalize (w.alloc (.cells A S)).alloc (.cells A' T) = V at *
  have c1 : Chg (fun b => b = w.heap.size ∨ b = w.heap.size + 1) V ((V.setRow w.heap.size B).setRow (w.heap.size + 1) B') := ((Chg.refl _ V).setRow (.inr (.inl rfl)) _).setRow (.inr (.inr rfl)) _
  have e1 : row? (V.setRow w.heap.size B) (w.heap.size + 1) = A' := by rw [row_setRow _ _ _ _ (by rw [r0]; exact hA), if_neg (by omega)]; exact r1
  have e0 : row? (V.setRow w.heap.size B) w.heap.size = B := by rw [row_setRow _ _ _ _ (by rw [r0]; exact hA), if_pos rfl]
  exact ⟨_, rfl, by rw [row_setRow _ _ _ _ (by rw [e1]; exact hA'), if_neg (by omega)]; exact e0, by rw [own_setRow, own_setRow]; exact o0, by rw [row_setRow _ _ _ _ (by rw [e1]; exact hA'), if_pos rfl], by rw [own_setRow, own_setRow]; exact o1, hb.trans (c1.below hb.size (fun k hk e => by omega)), by have := c1.size; omega⟩
theorem MineB.below {w w' : World} {vs : List Value} {g : Nat} (h : MineB w vs g) (hb : Below w.heap.size w w') : MineB w' vs g := ⟨(own_of_block (hb.block g (own_lt h.1))).trans h.1, h.2⟩
theorem rowb {w w' : World} {g : Nat} {A : Array Value} (h : row? w g = A) (hg : own? w g = true) (hb : Below w.heap.size w w') : row? w' g = A := (row_of_block (hb.block g (own_lt hg))).trans h
theorem samed {x : Itm} {w : World} {a1 a2 : Option Addr} (c1 c2 : Nat) (h1 : RowsIn b1 0 1 w a1 x.bs) (h2 : RowsIn b1 0 1 w a2 x.bs) (d : World) :
    Calls Try.prog 13 #[.agg (ic x.k a1 x.bs.length c1), .agg (ic x.k a2 x.bs.length c2)] (gr w d) fun e w' => e = .returned (.bool true) ∧ ∃ m, w' = gr w m :=
  same_fn x (W := w) (d := d) (c1 := c1) (c2 := c2) (fun d => h1.gr (by decide) d) (fun d => h2.gr (by decide) d)
theorem lend {W w : World} {b ch n : Nat} {vs : List Value} {ys : List Itm} (h : QG W w b ch n vs ys) (d : World) : Calls Try.prog 14 #[.pointer (some ⟨b, 0, none⟩)] (gr w d) fun e w' => e = .returned (.int .i64 ys.length) ∧ ∃ m, w' = gr w m :=
  (len_g (h.below (gr_below w d))).mono fun _ _ ⟨h1, h2⟩ => ⟨h1, d, h2⟩
@[simp, go_sem] theorem aa_0 (e q : Int) (a : Option Addr) (n c : Nat) (m : Int) : (aa e q a n c m)[0]? = some (.int .i64 e) := rfl
@[simp, go_sem] theorem aa_3 (e q : Int) (a : Option Addr) (n c : Nat) (m : Int) : (aa e q a n c m)[3]? = some (.int .i64 m) := rfl
@[simp, go_sem] theorem aa_at0 (e q : Int) (a : Option Addr) (n c : Nat) (m : Int) (h : 0 < (aa e q a n c m).size) : (aa e q a n c m)[0]'h = .int .i64 e := rfl
@[simp, go_sem] theorem aa_at3 (e q : Int) (a : Option Addr) (n c : Nat) (m : Int) (h : 3 < (aa e q a n c m).size) : (aa e q a n c m)[3]'h = .int .i64 m := rfl
@[simp, go_sem] theorem aa_x (e q : Int) (a : Option Addr) (n c : Nat) (m : Int) : sub (aa e q a n c m) 1 2 = ic q a n c := rfl
@[go_sem] theorem bldRQ (w : World) (m : Int) : (bld 47 #[(0, .int .i64 m)]).run Try.prog w = .ok (.agg (qa m none 0 0)) w := run_bld w (by kernel_rfl)
set_option maxRecDepth 100000 in
set_option maxHeartbeats 8000000 in
theorem qall_fn (most : Int) (xs : List OpR) (hm : xs.length ≤ 9223372036854775807) (a : Option Addr) (cap : Nat) (w : World) (hX : RowsIn fO zeroO 5 w a xs) (hP : ∀ k, k < xs.length → PdO w (xs.getD k zeroO)) :
    Calls Try.prog 6 #[.int .i64 most, .slice a xs.length cap] w fun e w' => e = .returned (.bool true) ∧ Below w.heap.size w w' := by
  by_cases hbad : most < 1 ∨ 64 < most
  · clear hX hP
    have hn := new_bad most hbad
    have hbad' : most < 1 ∨ (¬ most < 1 ∧ 64 < most) := by omega
    have HN_ := hid hn
    clear hn
    clear hbad
    rcases hbad' with h1 | ⟨h1, h2⟩ <;> (
      go_enter Try.func6, Try.ntmps6
      go_wp2_with fail
      refine (HN_.out w).mono ?_
      rintro e w1 ⟨rfl, hb⟩
      dsimp only
      go_wp2_with fail
      refine (alive18_c w1).mono ?_
      rintro e w2 ⟨rfl, hb2⟩
      dsimp only
      go_wp2
      go_ret
      exact ⟨rfl, hb.trans (hb2.mono hb.size)⟩)
  obtain ⟨n, rfl⟩ : ∃ n : Nat, most = n := ⟨most.toNat, by omega⟩
  have hn1 : 1 ≤ n := by omega
  have hn2 : n ≤ 64 := by omega
  have hn3 : ¬ (n : Int) < 1 := by omega
  have hn4 : ¬ (64 : Int) < (n : Int) := by omega
  clear hbad
  by_cases hl : 400 < xs.length
  · clear hX hP
    have h2 : (400 : Int) < (xs.length : Int) := by omega
    have hn := new_ok n hn1 hn2 w
    have HN_ := hid hn
    clear hn
    clear hn1 hn2 hl hm
    go_enter Try.func6, Try.ntmps6
    go_wp2_with fail
    refine HN_.out.mono ?_
    rintro e w1 ⟨b, ch, rfl, hb, _, _, _⟩
    dsimp only
    go_wp2_with fail
    refine (alive18_c w1).mono ?_
    rintro e w2 ⟨rfl, hb2⟩
    dsimp only
    go_wp2
    go_ret
    exact ⟨rfl, hb.trans (hb2.mono hb.size)⟩
  have h2 : ¬ (400 : Int) < (xs.length : Int) := by omega
  have hlen : xs.length ≤ 400 := by omega
  clear hl hm
  have hA : ∀ V, Below w.heap.size w V → RowsIn fO zeroO 5 V a xs ∧ ∀ k, k < xs.length → PdO V (xs.getD k zeroO) := fun V hb => ⟨hX.below (by decide) hb, fun k hk => (hP k hk).below hb⟩
  have hA0 : ∀ k, k < xs.length → ∀ g, (xs.getD k zeroO).a.map (·.block) = some g → (xs.getD k zeroO).o.x.bs = [] ∨ g < w.heap.size := fun k hk g hg => by
    by_cases h0 : (xs.getD k zeroO).o.x.bs = []
    · exact .inl h0
    · obtain ⟨g', off, e, hr⟩ := (hP k hk).row.at h0
      rw [e] at hg
      obtain rfl : g' = g := by simpa using hg
      exact .inr (hr.lt (by decide) h0)
  have hnew := (new_ok n hn1 hn2 w).mono (R' := fun e w' => ∃ b ch, e = .returned (.tuple #[.pointer (some ⟨b, 0, none⟩), .int .i64 0]) ∧ QG w w' b ch n [] []) fun e w' ⟨b, ch, he, hb, hlb, hlc, hq⟩ => ⟨b, ch, he, .new hq hb hlc hn2⟩
  clear hX hP hn1
  have HA_ := hid hA
  clear hA
  have HA0_ := hid hA0
  clear hA0
  have HNEW_ := hid hnew
  clear hnew
  have HN2_ := hid hn2
  clear hn2
  go_enter Try.func6, Try.ntmps6
  go_wp2_with fail
  refine HNEW_.out.mono ?_
  rintro e w1 ⟨b, ch, rfl, hq⟩
  dsimp only
  clear HNEW_
  have HQ_ := hid hq
  clear hq
  go_upto_region 7 with (fail)
  obtain ⟨w2, hE, r2, o2, b2, lt2⟩ := newb w1 (ic 0 none 0 0) (qa n none 0 0) 47 (by simp)
  rw [hE]
  clear hE
  have m2 := HQ_.out.fresh o2
  have q2 := HQ_.out.below b2
  have hbr : b ≠ w1.heap.size := by have := HQ_.out.qs.que.ltb; omega
  have hcr : ch ≠ w1.heap.size := by have := HQ_.out.qs.que.ltc; omega
  have hrw : w.heap.size ≤ w1.heap.size := HQ_.out.bel.size
  have i2 : RefI w2 [] w1.heap.size none [] := ⟨⟨.inl rfl, fun z hz => absurd hz (by simp)⟩, fun g hg => by simp at hg, fun z hz => absurd hz (by simp)⟩
  clear b2 HQ_
  generalize w1.heap.size = rb at *
  clear w1
  have M2_ := hid m2
  clear m2
  have Q2_ := hid q2
  clear q2
  have I2_ := hid i2
  clear i2
  have HBR_ := hid hbr
  clear hbr
  have HCR_ := hid hcr
  clear hcr
  have HRW_ := hid hrw
  clear hrw
  have R2_ := hid r2
  clear r2
  have O2_ := hid o2
  clear o2
  have LT2_ := hid lt2
  clear lt2
  go_wp2
  go_loopw [61] (fun i wr => ∃ (j : Nat) (vs : List Value) (zs : List ItR) (a' : Option Addr) (c' : Nat), j ≤ xs.length ∧ i = .int .i64 j ∧ QG w wr b ch n vs (itms zs) ∧ RefI wr vs rb a' zs ∧ row? wr rb = qa n a' zs.length c' ∧ MineB wr vs rb) (fun i _ => xs.length - (intOf i).toNat)
  case atStart => exact ⟨0, [], [], none, 0, by omega, rfl, Q2_.out, I2_.out, R2_.out, M2_.out⟩
  case round =>
    obtain ⟨j, vs, zs, a', c', hj, rfl, hG, hI, hr, hM⟩ := hrel
    by_cases hjt : j < xs.length
    · obtain ⟨hrX, hpd⟩ := HA_.out wr hG.bel
      obtain ⟨g, off, rfl, hrow⟩ := hrX.at (by intro e; rw [e] at hjt; simp at hjt)
      obtain ⟨s1, s2⟩ := hrow j hjt
      have hp := hpd j hjt
      have hp0 := HA0_.out j hjt
      have hjt' : (j : Int) < (xs.length : Int) := by omega
      generalize xs.getD j zeroO = s at *
      obtain ⟨o, sa, sc⟩ := s
      simp only [fO] at s2
      have hoB : BsI wr vs sa o.x.bs := ⟨hp.row, fun g hg => (hp0 g hg).imp id (fun h e => by have := hG.fr g e; omega)⟩
      have hok : okX o.x := ⟨hp.len, hp.ok⟩
      clear hrow hrX hpd hp hp0
      have HG_ := hid hG
      clear hG
      have HI_ := hid hI
      clear hI
      have HM_ := hid hM
      clear hM
      have HOB_ := hid hoB
      clear hoB
      have HR_ := hid hr
      clear hr
      have HOK_ := hid hok
      clear hok
      go_upto_region 10 with (fail)
      rw [oa_lit]
      obtain ⟨w3, hE, r9, o9, b3, lt9⟩ := newb wr (oa zeroOp none 0) (oa o sa sc) 49 (by simp)
      rw [hE]
      clear hE s1 s2
      have m9 := HG_.out.fresh o9
      have g3 := HG_.out.below b3
      have i3 := HI_.out.below b3
      have mr3 := HM_.out.below b3
      have rr3 := rowb HR_.out HM_.out.1 b3
      have oB3 := HOB_.out.below b3
      clear b3 HG_ HI_ HM_ HR_ HOB_ lt9 o9
      generalize wr.heap.size = n9 at *
      have hcall := rdo_c n zs a' c' o sa sc w3 i3.rl (by have := HN2_.out; omega) (by have := g3.good.len; rw [itms_len] at this; exact this) (fun z hz => (g3.good.ok z.x (List.mem_map_of_mem hz)).2) oB3.row HOK_.out.1
      have HCALL_ := hid hcall
      clear hcall
      have G3_ := hid g3
      clear g3
      have I3_ := hid i3
      clear i3
      have MR3_ := hid mr3
      clear mr3
      have OB3_ := hid oB3
      clear oB3
      have M9_ := hid m9
      clear m9
      go_wp2_with fail
      refine HCALL_.out.mono ?_
      rintro e w4 ⟨zs4, a4, c4, x4, xc4, rfl, hys, rl4, hx4, b4, org4, mem4, src4⟩
      dsimp only
      obtain ⟨i4, bs4⟩ := I3_.out.do G3_.out (own_lt MR3_.out.1) OB3_.out rl4 hx4 org4 mem4 src4
      have g4 := G3_.out.below b4
      have mr4 := MR3_.out.below b4
      have m94 := M9_.out.below b4
      have rr4 := rowb rr3 MR3_.out.1 b4
      have r94 := rowb r9 M9_.out.1 b4
      have oB4 := OB3_.out.below b4
      clear rl4 hx4 org4 mem4 src4 b4 HCALL_ G3_ I3_ MR3_ OB3_ M9_ rr3 r9
      have hgood := (g4.good.does o HOK_.out)
      have hR0 : ∃ R, doR n o (itms zs) = R := ⟨_, rfl⟩
      obtain ⟨R, hR⟩ := hR0
      rw [hR] at hys bs4
      rw [hR]
      have G4_ := hid g4
      clear g4
      have I4_ := hid i4
      clear i4
      have BS4_ := hid bs4
      clear bs4
      have MR4_ := hid mr4
      clear mr4
      have M94_ := hid m94
      clear m94
      have OB4_ := hid oB4
      clear oB4
      have HYS_ := hid hys
      clear hys
      have HR_ := hid hR
      clear hR
      have HGOOD_ := hid hgood
      clear hgood
      go_upto_region 11 with (fail)
      rw [aa_lit]
      obtain ⟨w5, hE, r10, o10, r11, o11, b5, lt5⟩ := newb2 w4 (ic 0 none 0 0) (qa n a4 zs4.length c4) (aa 0 0 none 0 0 0) (aa (eR R) R.x.k x4 R.x.bs.length xc4 R.n) 47 51 (by simp) (by simp)
      rw [hE]
      clear hE
      have m10 : MineB w5 vs w4.heap.size := ⟨o10, fun e => by have := G4_.out.qs.lt e; omega⟩
      have m11 : MineB w5 vs (w4.heap.size + 1) := ⟨o11, fun e => by have := G4_.out.qs.lt e; omega⟩
      have g5 := G4_.out.below b5
      have i5 := I4_.out.below b5
      have mr5 := MR4_.out.below b5
      have m95 := M94_.out.below b5
      have rr5 := rowb rr4 MR4_.out.1 b5
      have r95 := rowb r94 M94_.out.1 b5
      have oB5 := OB4_.out.below b5
      have bs5 := BS4_.out.below b5
      have n10 : ¬ w4.heap.size = rb := by have := own_lt MR4_.out.1; omega
      have n11 : ¬ w4.heap.size + 1 = rb := by have := own_lt MR4_.out.1; omega
      have n9 : ¬ n9 = rb := fun e => by
        rw [e, rr4] at r94
        have := congrArg Array.size r94
        simp at this
      clear b5 G4_ I4_ BS4_ MR4_ M94_ OB4_ rr4 r94 o10 o11 lt5
      generalize w4.heap.size = nn at *
      have or5 := mr5.1
      have G5_ := hid g5
      clear g5
      have I5_ := hid i5
      clear i5
      have BS5_ := hid bs5
      clear bs5
      have MR5_ := hid mr5
      clear mr5
      have M95_ := hid m95
      clear m95
      have OB5_ := hid oB5
      clear oB5
      have M10_ := hid m10
      clear m10
      have M11_ := hid m11
      clear m11
      have N10_ := hid n10
      clear n10
      have N11_ := hid n11
      clear n11
      have N9_ := hid n9
      clear n9
      have R11_ := hid r11
      clear r11
      have R95_ := hid r95
      clear r95
      go_upto_region 12 with (fail)
      obtain ⟨w6, hE⟩ : ∃ w6, w5.setRow rb (qa n a4 zs4.length c4) = w6 := ⟨_, rfl⟩
      have cg : Chg (· = rb) w5 w6 := by rw [← hE]; exact (Chg.refl (· = rb) w5).setRow (.inr rfl) _
      have rr6 : row? w6 rb = qa n a4 zs4.length c4 := by rw [← hE, row_setRow _ _ _ _ (by rw [rr5]; simp), if_pos rfl]
      have or6 : own? w6 rb = true := by rw [← hE, own_setRow]; exact or5
      rw [hE]
      clear hE
      have hno : ∀ v ∈ row? w5 rb, ∀ i, v ≠ .int .u8 i := by rw [rr5]; exact qa_nou _ _ _ _
      have g6 := G5_.out.set cg HBR_.out HCR_.out MR5_.out.2 HRW_.out
      have i6 := I5_.out.set cg hno
      have bs6 := BS5_.out.set cg hno
      have oB6 := OB5_.out.set cg hno
      have mr6 : MineB w6 vs rb := ⟨or6, MR5_.out.2⟩
      have r96 := (cg.row (own_lt M95_.out.1) N9_.out).trans R95_.out
      have r116 := (cg.row (own_lt M11_.out.1) N11_.out).trans R11_.out
      have m96 : MineB w6 vs n9 := ⟨(cg.own (own_lt M95_.out.1) N9_.out).trans M95_.out.1, M95_.out.2⟩
      have m116 : MineB w6 vs (nn + 1) := ⟨(cg.own (own_lt M11_.out.1) N11_.out).trans M11_.out.1, M11_.out.2⟩
      clear cg hno G5_ I5_ BS5_ OB5_ MR5_ R95_ R11_ M95_ M11_ M10_ N9_ N10_ N11_ rr5 or5 r10 or6
      clear w5
      have hcall := does_g g6 o sa sc oB6.row HOK_.out
      rw [HR_.out] at hcall
      have HCALL_ := hid hcall
      clear hcall
      have G6_ := hid g6
      clear g6
      have I6_ := hid i6
      clear i6
      have BS6_ := hid bs6
      clear bs6
      have MR6_ := hid mr6
      clear mr6
      have M96_ := hid m96
      clear m96
      have M116_ := hid m116
      clear m116
      have RR6_ := hid rr6
      clear rr6
      have R116_ := hid r116
      clear r116
      go_wp2_with fail
      refine HCALL_.out.mono ?_
      rintro e w7 ⟨a7, c7, us, rfl, hx7, g7, s7⟩
      dsimp only
      have i7 := I6_.out.stp s7 G6_.out.qs
      have bs7 := BS6_.out.stp s7 G6_.out.qs
      obtain ⟨mr7, t7⟩ := s7.mine G6_.out.qs MR6_.out
      obtain ⟨m117, t117⟩ := s7.mine G6_.out.qs M116_.out
      rw [RR6_.out] at t7
      rw [R116_.out] at t117
      clear s7 HCALL_ G6_ I6_ BS6_ MR6_ M96_ M116_ RR6_ R116_ r96
      have G7_ := hid g7
      clear g7
      have I7_ := hid i7
      clear i7
      have BS7_ := hid bs7
      clear bs7
      have MR7_ := hid mr7
      clear mr7
      have T7_ := hid t7
      clear t7
      have M117_ := hid m117
      clear m117
      have T117_ := hid t117
      clear t117
      have HX7_ := hid hx7
      clear hx7
      go_upto_region 13 with (fail)
      rw [aa_lit]
      obtain ⟨w8, hE, r12, o12, b8, lt8⟩ := newb w7 (aa 0 0 none 0 0 0) (aa (eR R) R.x.k a7 R.x.bs.length c7 R.n) 51 (by simp)
      rw [hE]
      clear hE
      have g8 := G7_.out.below b8
      have i8 := I7_.out.below b8
      have bs8 := BS7_.out.below b8
      have mr8 := MR7_.out.below b8
      have hx8 := HX7_.out.below (by decide) b8
      have u8 := rowb T7_.out MR7_.out.1 b8
      have u118 := rowb T117_.out M117_.out.1 b8
      have k7 : ∀ d, row? (gr w8 d) rb = qa n a4 zs4.length c4 := fun d => gr_row u8 (own_lt mr8.1) d
      have k11 : ∀ d, row? (gr w8 d) (nn + 1) = aa (eR R) R.x.k x4 R.x.bs.length xc4 R.n := fun d => gr_row u118 (own_lt (M117_.out.below b8).1) d
      have k12 : ∀ d, row? (gr w8 d) w7.heap.size = aa (eR R) R.x.k a7 R.x.bs.length c7 R.n := fun d => gr_row r12 (own_lt o12) d
      have hsame := samed c7 xc4 hx8 bs8.row
      have hlend := lend g8
      rw [← HYS_.out, itms_len] at hlend
      have hys8 := HYS_.out
      clear b8 G7_ I7_ BS7_ MR7_ HX7_ T7_ T117_ M117_ hx8 bs8 r12 o12 lt8 HGOOD_ HYS_ HR_ u118
      generalize w7.heap.size = n12 at *
      generalize eR R = E at *
      obtain ⟨ys8, _, x8, N8, is8⟩ := R
      dsimp only at *
      have G8_ := hid g8
      clear g8
      have I8_ := hid i8
      clear i8
      have MR8_ := hid mr8
      clear mr8
      have U8_ := hid u8
      clear u8
      have K7_ := hid k7
      clear k7
      have K11_ := hid k11
      clear k11
      have K12_ := hid k12
      clear k12
      have HSAME_ := hid hsame
      clear hsame
      have HLEND_ := hid hlend
      clear hlend
      have HYS8_ := hid hys8
      clear hys8
      go_upto_region 13 with (fail)
      have k7 := K7_.out
      have k11 := K11_.out
      have k12 := K12_.out
      obtain ⟨d8, hd8⟩ : ∃ d, w8 = gr w8 d := ⟨w8, gr_self w8⟩
      rw [hd8]
      clear hd8
      refine wp_region_gr w8 (by kernel_rfl) (by kernel_rfl) ⟨_, rfl⟩ ?_
      repeat (go_big_quiet_step ((first | (go_at_call 13; exact HSAME_.out _) | (go_at_call 14; exact HLEND_.out _))))
      refine wpQuiet_nil ?_
      rintro _ ⟨y, rfl⟩
      clear k7 k11 k12
      go_wp2
      have by_ := gr_below w8 y
      have g9 := G8_.out.below by_
      rw [← HYS8_.out] at g9
      exact ⟨⟨j + 1, us, zs4, a4, c4, by omega, by go_num, g9, I8_.out.below by_, rowb U8_.out MR8_.out.1 by_, MR8_.out.below by_⟩, by simp [intOf]; omega⟩
    · obtain rfl : j = xs.length := by omega
      have hzl : zs.length ≤ 64 := by have h1 := hG.good.len; have h2 := hG.le; rw [itms_len] at h1; omega
      clear hjt hj hlen h2 HA_ HA0_ M2_ Q2_ I2_ HN2_ hn3 hn4
      have HG_ := hid hG
      clear hG
      have HI_ := hid hI
      clear hI
      have HM_ := hid hM
      clear hM
      go_wp2
      go_loopw [107] (fun i wr => ∃ (k : Nat) (us : List Value), k ≤ zs.length ∧ i = .int .i64 k ∧ QG w wr b ch n us ((itms zs).drop k) ∧ RefI wr us rb a' zs) (fun i _ => zs.length - (intOf i).toNat)
      case atStart => exact ⟨0, vs, by omega, rfl, HG_.out, HI_.out⟩
      case round =>
        obtain ⟨k, us, hk, rfl, hG2, hI2⟩ := hrel
        by_cases hkt : k < zs.length
        · obtain ⟨g, off, rfl, hrow⟩ := hI2.rl.row.at (by intro e; rw [e] at hkt; simp at hkt)
          obtain ⟨s1, s2⟩ := hrow k hkt
          have hkt' : (k : Int) < (zs.length : Int) := by omega
          have hz := hI2.bs (memR hkt)
          have hdr := itms_drop (itms zs) k (by rw [itms_len]; exact hkt)
          rw [itms_getD zs k hkt] at hdr
          rw [hdr] at hG2
          generalize zs.getD k zeroR = z at *
          clear hdr hrow
          have HG2_ := hid hG2
          clear hG2
          have HI2_ := hid hI2
          clear hI2
          have HZ_ := hid hz
          clear hz
          go_upto_region 19 with (fail)
          obtain ⟨w2, hE, r14, o14, b2, lt2⟩ := newb _ (ic 0 none 0 0) (fR z) 30 (by simp)
          rw [hE]
          clear hE s1 s2
          have m14 := HG2_.out.fresh o14
          have g2 := HG2_.out.below b2
          have i2 := HI2_.out.below b2
          have z2 := HZ_.out.below b2
          clear b2 lt2 o14 HG2_ HI2_ HZ_
          generalize wr.heap.size = n14 at *
          have htk := take_g g2
          have HTK_ := hid htk
          clear htk
          have G2_ := hid g2
          clear g2
          have I2_ := hid i2
          clear i2
          have Z2_ := hid z2
          clear z2
          have M14_ := hid m14
          clear m14
          go_wp2_with fail
          refine HTK_.out.mono ?_
          rintro e w3 ⟨a3, c3, us3, rfl, g3, s3, my3⟩
          dsimp only
          have i3 := I2_.out.stp s3 G2_.out.qs
          have z3 := Z2_.out.stp s3 G2_.out.qs
          obtain ⟨m143, r143⟩ := s3.mine G2_.out.qs M14_.out
          rw [r14] at r143
          clear s3 HTK_ G2_ I2_ Z2_ M14_ r14
          have G3_ := hid g3
          clear g3
          have I3_ := hid i3
          clear i3
          have Z3_ := hid z3
          clear z3
          have M143_ := hid m143
          clear m143
          have MY3_ := hid my3
          clear my3
          go_upto_region 20 with (fail)
          obtain ⟨w4, hE, r15, o15, b4, lt4⟩ := newb w3 (ic 0 none 0 0) (ic z.x.k a3 z.x.bs.length c3) 32 (by simp)
          rw [hE]
          clear hE
          have g4 := G3_.out.below b4
          have i4 := I3_.out.below b4
          have z4 := Z3_.out.below b4
          have r144 := rowb r143 M143_.out.1 b4
          have y4 := MY3_.out.itm.rows.below (by decide) b4
          clear b4 lt4 o15 G3_ I3_ Z3_ M143_ MY3_ r143
          generalize w3.heap.size = n15 at *
          have hsame := same_g z.x c3 z.c y4 z4.row (Q := fun w' => QG w w' b ch n us3 ((itms zs).drop (k + 1)) ∧ RefI w' us3 rb (some ⟨g, off, none⟩) zs) (fun d => ⟨g4.below (gr_below w4 d), i4.below (gr_below w4 d)⟩)
          clear g4 i4 z4 y4
          have HSAME_ := hid hsame
          clear hsame
          go_wp2_with fail
          refine HSAME_.out.mono ?_
          rintro e w5 ⟨rfl, g5, i5⟩
          dsimp only
          clear HSAME_
          have G5_ := hid g5
          clear g5
          have I5_ := hid i5
          clear i5
          go_wp2
          exact ⟨⟨k + 1, us3, by omega, by go_num, G5_.out, I5_.out⟩, by simp [intOf]; omega⟩
        · obtain rfl : k = zs.length := by omega
          have hd : (itms zs).drop zs.length = [] := List.drop_of_length_le (by rw [itms_len]; exact Nat.le_refl _)
          rw [hd] at hG2
          clear hkt hk hd hI2
          have hal := alive_g hG2
          clear hG2 HG_ HI_ HM_
          have HAL_ := hid hal
          clear hal
          go_wp2_with fail
          refine HAL_.out.mono ?_
          rintro e w2 ⟨rfl, g2, _⟩
          dsimp only
          clear HAL_
          have hln := len_g g2
          have HLN_ := hid hln
          clear hln
          have G2_ := hid g2
          clear g2
          go_wp2_with fail
          refine HLN_.out.mono ?_
          rintro e w3 ⟨rfl, rfl⟩
          dsimp only
          go_wp2
          go_ret
          exact ⟨rfl, G2_.out.bel⟩
end Go.Proofs.Ytbdpnmocbpplbaa
