/-
  The law QueueOwn: it answers true. No condition.
-/
import Derived.Test.YtbdpnmocbpplbaaQuV
namespace Go.Proofs.Ytbdpnmocbpplbaa
open Go.RowKit Go.Conc

/-- 'append([]byte{}, b...)', where b holds something. -/
theorem run_allB (bs : List Int) (hl : bs.length ≤ 140737488351232) (h0 : bs ≠ []) (a : Option Addr) (cap : Nat) {w : World} (h : RowsIn b1 0 1 w a bs) :
    ∃ g c w', (Builtin.append_ #[28, 28] 28 #[.slice (some ⟨w.heap.size, 0, none⟩) 0 0, .slice a bs.length cap]).run Try.prog (w.alloc (.cells #[] 5)) = .ok (.slice (some ⟨g, 0, none⟩) bs.length c) w' ∧
      RowsAt b1 0 1 w' g 0 bs ∧ w.heap.size ≤ g ∧ own? w' g = true ∧ Below w.heap.size w w' := by
  obtain ⟨i0, hi0, hz0, hz1, hz2⟩ := info_parts' infoB
  have hal : Below w.heap.size w (w.alloc (.cells #[] 5)) := (Below.refl _ _).alloc (Nat.le_refl _) _
  obtain ⟨b, off, rfl, hr⟩ := h.at h0
  have hown : (w.alloc (.cells #[] 5)).ownsRow w.heap.size 5 1 (.slice (some ⟨w.heap.size, 0, none⟩) 0 0) 0 [] := ⟨rfl, .inr ⟨_, 0, #[], rfl, Nat.le_refl _, alloc_new _ _, Nat.le_refl _, by unfold maxLen; omega, rfl, rfl⟩⟩
  have hr1 : RowsAt b1 0 1 (w.alloc (.cells #[] 5)) b off bs := by
    have h1 := (RowsIn.below (.inr ⟨b, off, rfl, hr⟩) (by decide) hal).at h0
    obtain ⟨_, _, e, h2⟩ := h1
    cases e
    exact h2
  obtain ⟨v', w', hrn, h2, h3, h4, h5⟩ := run_append_own_at (P := Try.prog) (w := w.alloc (.cells #[] 5)) w.heap.size 28 28 5 i0 (.int .u8 0) 1 1 Try.underlying28 hi0 hz0 hz1 hz2 rfl (by decide) _ _ _ hown ⟨b, off, none⟩ bs.length cap (byts bs) (by simp [byts])
    (bytes_cells hr1) (by
      intro u hu
      simp [byts] at hu
      obtain ⟨n, _, rfl⟩ := hu
      rfl) (by unfold maxLen; omega) (by omega) (by simp)
  rw [Nat.zero_add, List.nil_append] at h2
  obtain ⟨_, h6⟩ := h2
  have hbl : Below w.heap.size w w' := hal.grown h3 hal.size (own_block_le hown)
  rcases h6 with ⟨rfl, _⟩ | ⟨g, cap', cur, rfl, hge, hh, hc, hm, hsz, htk⟩
  · have := (h4.1 rfl).1
    cases this
  · refine ⟨g, cap', w', hrn, rows_byts (cur := cur) (by unfold row?; rw [hh]; rfl) (by simpa using htk), hge, by unfold own?; rw [hh]; rfl, hbl⟩
theorem idx_nums (bs : List Int) (j : Nat) (hj : j < bs.length) (h0 : 0 ≤ bs.getD j 0) (h1 : bs.getD j 0 < 256) (w : World) : (Instr.index 9 (.string (strOfNums bs)) (.int .i64 (j : Int))).run Try.prog w = .ok (.int .u8 (bs.getD j 0)) w := by
  rw [run_index_string w 9 (strOfNums bs) .i64 _ Try.underlying9, dif_pos ⟨by omega, by rw [strOfNums_size]; omega⟩]
  have e : (strOfNums bs)[j]'(by rw [strOfNums_size]; exact hj) = UInt8.ofNat (bs.getD j 0).toNat := by
    show (strOfNums bs).data[j]'_ = _
    simp [strOfNums, hj]
  simp only [Int.toNat_natCast]
  rw [e]
  congr 2
  rw [UInt8.toNat_ofNat']
  omega
theorem exec_append {P : Program} {ρ : Operand → Value} {o : Oper} {s x : Operand} {t : TypeId} {w w' : World} {v vs vx : Value} (ho : o.op = .call { callee := .builtin .append, args := #[s, x], argTypes := #[t, t] }) (hs : ρ s = vs) (hx : ρ x = vx)
    (hr : (Builtin.append_ #[t, t] o.type #[vs, vx]).run P w = .ok v w') : (execOp ρ o).run P w = .ok (.value v) w' := by
  unfold execOp
  simp only [ho, resolve, invoke, builtin, Sem.run_bind, Sem.run_pure, Result.andThen_ok, List.map_toArray, List.map_cons, List.map_nil, hs, hx, hr]
@[go_sem] theorem bldItm1 (w : World) (a : Option Addr) (n c : Nat) : (bld 32 #[(1, .slice a n c)]).run Try.prog w = .ok (.agg (ic 0 a n c)) w := run_bld w (by kernel_rfl)
/-- Look, and where what it hands back lies. -/
theorem look_n {w0 w : World} {b ch n : Nat} {vs : List Value} {ys : List Itm} (h : QG w0 w b ch n vs ys) (k : Nat) (hk : k < ys.length) :
    Calls Try.prog 17 #[.pointer (some ⟨b, 0, none⟩), .int .i64 k] w fun e w' => ∃ a' c' us, e = .returned (.tuple #[.agg (ic (ys.getD k zeroI).k a' (ys.getD k zeroI).bs.length c'), .bool true]) ∧ QG w0 w' b ch n us ys ∧ Stp ch vs w us w' ∧ MyI w' us (.agg (ic (ys.getD k zeroI).k a' (ys.getD k zeroI).bs.length c')) (ys.getD k zeroI) ∧ ∀ g, a'.map (·.block) = some g → w0.heap.size ≤ g :=
  (look_c k w h.qs (by have := h.le; omega) h.good.len h.good.hl).mono fun e w' ⟨v, us, he, hq, hf, hit, hmiss, hc⟩ => by
    have hs : Stp ch vs w us w' := ⟨hc, fun b' hb => .inl (hf b' hb).1⟩
    have hp : 0 ≤ (k : Int) ∧ (k : Int) < (ys.length : Int) := by omega
    have hn := hit hp
    rw [Int.toNat_natCast] at hn
    rw [decide_eq_true hp] at he
    have hm : MyI w' us v (ys.getD k zeroI) := ⟨hn.itm, fun g hg => ⟨(hn.blk hg).2, fun e => (hf g e).2 hg⟩⟩
    obtain ⟨a', c', rfl, _⟩ := hm.itm
    exact ⟨a', c', us, he, h.step hq hs h.good, hs, hm, fun g hg => Nat.le_trans h.bel.size (hn.blk (by rw [blkOf_ic]; exact hg)).1⟩
/-- A byte of one's own is written. -/
theorem QG.wr {w0 w : World} {b ch n : Nat} {vs : List Value} {ys : List Itm} (h : QG w0 w b ch n vs ys) {g : Nat} (hg : MineB w vs g) (h0 : w0.heap.size ≤ g) (hb : row? w g ≠ #[.chan (some ch)]) (p : Addr) (hp : p.block = g) (u : Value) :
    QG w0 (w.setCell p u) b ch n vs ys ∧ Chg (· = g) w (w.setCell p u) := by
  have c : Chg (· = g) w (w.setCell p u) := (Chg.refl (· = g) w).setCell (.inr hp) u
  refine ⟨⟨h.qs.kept c (fun e => hb (by rw [← e]; exact h.qs.que.row)) (fun e => ?_) (fun b' hb' e => hg.2 (e ▸ hb')), h.good, h.fr, h.bel.trans (c.below h.bel.size (fun k hk e => by omega)), h.lch, h.le⟩, c⟩
  have h1 := hg.1
  rw [← e, h.qs.que.ownc] at h1
  cases h1
set_option maxRecDepth 100000 in
set_option maxHeartbeats 4000000 in
theorem qown_fn (bs : List Int) (hl : bs.length ≤ 140737488351232) (hr : ∀ j, j < bs.length → 0 ≤ bs.getD j 0 ∧ bs.getD j 0 < 256) (a : Option Addr) (cap : Nat) (at_ : Int) (w : World) (hX : RowsIn b1 0 1 w a bs) :
    Calls Try.prog 5 #[.slice a bs.length cap, .int .i64 at_] w fun e w' => e = .returned (.bool true) ∧ Below w.heap.size w w' := by
  have hnew := (new_ok 3 (by decide) (by decide) w).mono (R' := fun e w' => ∃ b ch, e = .returned (.tuple #[.pointer (some ⟨b, 0, none⟩), .int .i64 0]) ∧ QG w w' b ch 3 [] []) fun e w' ⟨b, ch, he, hb, hlb, hlc, hq⟩ => ⟨b, ch, he, .new hq hb hlc (by decide)⟩
  by_cases hat : 0 ≤ at_ ∧ at_ < (bs.length : Int)
  · obtain ⟨j, rfl⟩ : ∃ j : Nat, at_ = j := ⟨at_.toNat, by omega⟩
    have hj : j < bs.length := by omega
    have hi1 : ¬ (j : Int) < 0 := by omega
    have hi2 : ¬ (bs.length : Int) ≤ (j : Int) := by omega
    have hne : bs ≠ [] := by intro e; rw [e] at hj; simp at hj
    have hy := hr j hj
    have hA : ∀ V, Below w.heap.size w V → RowsIn b1 0 1 V a bs := fun V hb => hX.below (by decide) hb
    have HX_ := hid hX
    clear hX
    have HR_ := hid hr
    clear hr
    have HL_ := hid hl
    clear hl
    have HNEW_ := hid hnew
    clear hnew
    have HAT_ := hid hat
    clear hat
    have HNE_ := hid hne
    clear hne
    have HY_ := hid hy
    clear hy
    have HA_ := hid hA
    clear hA
    have HJ_ := hid hj
    clear hj
    go_enter Try.func5, Try.ntmps5
    go_wp2_with fail
    refine HNEW_.out.mono ?_
    rintro e w1 ⟨b, ch, rfl, g1⟩
    dsimp only
    clear HNEW_
    have G1_ := hid g1
    clear g1
    go_upto_region 4 with (fail)
    -- REGION4
    have hb0 := HNE_.out
    have hl0 := HL_.out
    refine wp_region_inv (by kernel_rfl) (fun s act_ w2 => ∃ v7 v8 v44 v45 v46 v47 v48, act_ = { tmps := #[.slice a bs.length cap, .int .i64 j, undef, undef, .bool false, .pointer (some ⟨b, 0, none⟩), .int .i64 0, v7, v8, undef, undef, undef, undef, undef, undef, .tuple #[.pointer (some ⟨b, 0, none⟩), .int .i64 0], .tuple #[.pointer (some ⟨b, 0, none⟩), .int .i64 0], .pointer (some ⟨b, 0, none⟩), .int .i64 0, .int .i64 0, .bool false, .bool false, .pointer (some ⟨b, 0, none⟩), .bool false, .bool false, .bool false, .int .i64 j, .bool (decide ((j : Int) < 0)), .bool (decide ((j : Int) < 0)), .bool (decide ((j : Int) < 0)), .int .i64 j, .slice a bs.length cap, .int .i64 bs.length, .bool (decide (bs.length ≤ j)), .bool (decide ((j : Int) < 0) || decide (bs.length ≤ j)), undef, undef, undef, undef, undef, undef, undef, undef, undef, v44, v45, v46, v47, v48, undef, undef, undef, undef, undef, undef, undef, undef, undef, undef, undef, undef, undef, undef, undef, undef, undef, undef, undef, undef, undef, undef, undef, undef, undef, undef, undef, undef, undef, undef, undef, undef, undef, undef, undef, undef, undef, undef, undef, undef, undef, undef, undef, undef, undef, undef, undef, undef, undef, undef, undef, undef, undef, undef, undef, undef, undef, undef, undef, undef, undef, undef, undef, undef, undef, undef, undef, undef, undef, undef, undef, undef, undef, undef], defers := [] } ∧ (s.getD 0 false = true → v44 = .slice a bs.length cap) ∧ (s.getD 1 false = true → v45 = .string (strOfNums bs)) ∧ (s.getD 3 false = true → v47 = .slice a bs.length cap) ∧ (s.getD 2 false = true → s.getD 4 false = false → ∃ V, w2 = V.alloc (.cells #[] 5) ∧ v46 = .slice (some ⟨V.heap.size, 0, none⟩) 0 0 ∧ Below w1.heap.size w1 V) ∧ (s.getD 4 false = true → s.getD 2 false = true ∧ ∃ g c, v48 = .slice (some ⟨g, 0, none⟩) bs.length c ∧ RowsAt b1 0 1 w2 g 0 bs ∧ w1.heap.size ≤ g ∧ own? w2 g = true) ∧ (s.getD 5 false = true → v7 = .string (strOfNums bs)) ∧ (s.getD 6 false = true → s.getD 4 false = true ∧ v8 = v48) ∧ Below w1.heap.size w1 w2 ∧ s.size = 7) ?h0 ?hstep ?hend
    case h0 => exact ⟨_, _, _, _, _, _, _, rfl, by simp, by simp, by simp, by simp, by simp, by simp, by simp, (Below.refl _ _).drew, by simp⟩
    case hstep =>
      intro s act_ w2 i hi hI
      obtain ⟨h1, o, h0, hpre⟩ := mem_ready.1 hi
      have hlt : i < 7 := (Array.getElem?_eq_some_iff.1 h0).1
      obtain ⟨v7, v8, v44, v45, v46, v47, v48, rfl, k0, k1, k3, k2, k4, k5, k6, hbl, sz⟩ := hI
      have h9 := getD_both h1
      have hrow := HA_.out w2 (G1_.out.bel.trans (hbl.mono G1_.out.bel.size))
      have hcv := conv_rows hrow cap
      match i, hlt with
      | 0, _ =>
        cases h0
        refine wpOp_new rfl rfl (v := .slice a bs.length cap) (w' := w2) (by simp [go_sem]) ?_
        exact ⟨v7, v8, .slice a bs.length cap, v45, v46, v47, v48, rfl, fun _ => rfl, fun h => k1 (by rwa [getD_set_ne false (by decide)] at h), fun h => k3 (by rwa [getD_set_ne false (by decide)] at h), fun h h' => k2 (by rwa [getD_set_ne false (by decide)] at h) (by rwa [getD_set_ne false (by decide)] at h'), fun h => by rw [getD_set_ne false (by decide)] at h ⊢; exact k4 h, fun h => k5 (by rwa [getD_set_ne false (by decide)] at h), fun h => by rw [getD_set_ne false (by decide)] at h ⊢; exact k6 h, hbl, by simpa using sz⟩
      | 1, _ =>
        cases h0
        have n0 : s.getD 0 false = true := hpre ⟨0, .data⟩ (by simp) rfl
        have x0 := k0 n0
        subst x0
        refine wpOp_new rfl rfl (v := .string (strOfNums bs)) (w' := w2) (by simp [go_sem, hcv]) ?_
        exact ⟨v7, v8, .slice a bs.length cap, .string (strOfNums bs), v46, v47, v48, rfl, fun _ => rfl, fun _ => rfl, fun h => k3 (by rwa [getD_set_ne false (by decide)] at h), fun h h' => k2 (by rwa [getD_set_ne false (by decide)] at h) (by rwa [getD_set_ne false (by decide)] at h'), fun h => by rw [getD_set_ne false (by decide)] at h ⊢; exact k4 h, fun h => k5 (by rwa [getD_set_ne false (by decide)] at h), fun h => by rw [getD_set_ne false (by decide)] at h ⊢; exact k6 h, hbl, by simpa using sz⟩
      | 2, _ =>
        cases h0
        refine wpOp_new rfl rfl (v := .slice (some ⟨w2.heap.size, 0, none⟩) 0 0) (w' := w2.alloc (.cells #[] 5)) (by simp [go_sem]) ?_
        have hnk : s.getD 4 false = true → False := fun h => by rw [(k4 h).1] at h9; cases h9
        exact ⟨v7, v8, v44, v45, .slice (some ⟨w2.heap.size, 0, none⟩) 0 0, v47, v48, rfl, fun h => k0 (by rwa [getD_set_ne false (by decide)] at h), fun h => k1 (by rwa [getD_set_ne false (by decide)] at h), fun h => k3 (by rwa [getD_set_ne false (by decide)] at h), fun _ _ => ⟨w2, rfl, rfl, hbl⟩, fun h => (hnk (by rwa [getD_set_ne false (by decide)] at h)).elim, fun h => k5 (by rwa [getD_set_ne false (by decide)] at h), fun h => (hnk (k6 (by rwa [getD_set_ne false (by decide)] at h)).1).elim, hbl.trans ((Below.refl _ _).alloc hbl.size _), by simpa using sz⟩
      | 3, _ =>
        cases h0
        refine wpOp_new rfl rfl (v := .slice a bs.length cap) (w' := w2) (by simp [go_sem]) ?_
        exact ⟨v7, v8, v44, v45, v46, .slice a bs.length cap, v48, rfl, fun h => k0 (by rwa [getD_set_ne false (by decide)] at h), fun h => k1 (by rwa [getD_set_ne false (by decide)] at h), fun _ => rfl, fun h h' => k2 (by rwa [getD_set_ne false (by decide)] at h) (by rwa [getD_set_ne false (by decide)] at h'), fun h => by rw [getD_set_ne false (by decide)] at h ⊢; exact k4 h, fun h => k5 (by rwa [getD_set_ne false (by decide)] at h), fun h => by rw [getD_set_ne false (by decide)] at h ⊢; exact k6 h, hbl, by simpa using sz⟩
      | 4, _ =>
        cases h0
        have n2 : s.getD 2 false = true := hpre ⟨2, .data⟩ (by simp) rfl
        have n3 : s.getD 3 false = true := hpre ⟨3, .data⟩ (by simp) rfl
        have x3 := k3 n3
        subst x3
        obtain ⟨V, rfl, rfl, hV⟩ := k2 n2 h9
        obtain ⟨g, c, w3, hrun, hat3, hge, hown, hb3⟩ := run_allB bs hl0 hb0 a cap (HA_.out V (G1_.out.bel.trans (hV.mono G1_.out.bel.size)))
        refine wpOp_new rfl rfl (v := .slice (some ⟨g, 0, none⟩) bs.length c) (w' := w3) (exec_append rfl rfl rfl hrun) ?_
        have hset : (s.setIfInBounds 4 true).getD 4 false = true := by simp [Array.getD, sz]
        exact ⟨v7, v8, v44, v45, .slice (some ⟨V.heap.size, 0, none⟩) 0 0, .slice a bs.length cap, .slice (some ⟨g, 0, none⟩) bs.length c, rfl, fun h => k0 (by rwa [getD_set_ne false (by decide)] at h), fun h => k1 (by rwa [getD_set_ne false (by decide)] at h), fun _ => rfl, (fun _ h => by rw [hset] at h; cases h), fun _ => ⟨by rw [getD_set_ne false (by decide)]; exact n2, g, c, rfl, hat3, Nat.le_trans hV.size hge, hown⟩, fun h => k5 (by rwa [getD_set_ne false (by decide)] at h), (fun h => by rw [getD_set_ne false (by decide)] at h; have := (k6 h).1; rw [h9] at this; cases this), hV.trans (hb3.mono hV.size), by simpa using sz⟩
      | 5, _ =>
        cases h0
        have n1 : s.getD 1 false = true := hpre ⟨1, .data⟩ (by simp) rfl
        have x1 := k1 n1
        subst x1
        refine wpOp_new rfl rfl (v := .string (strOfNums bs)) (w' := w2) (by simp [go_sem]) ?_
        exact ⟨.string (strOfNums bs), v8, v44, .string (strOfNums bs), v46, v47, v48, rfl, fun h => k0 (by rwa [getD_set_ne false (by decide)] at h), fun _ => rfl, fun h => k3 (by rwa [getD_set_ne false (by decide)] at h), fun h h' => k2 (by rwa [getD_set_ne false (by decide)] at h) (by rwa [getD_set_ne false (by decide)] at h'), fun h => by rw [getD_set_ne false (by decide)] at h ⊢; exact k4 h, fun _ => rfl, fun h => by rw [getD_set_ne false (by decide)] at h ⊢; exact k6 h, hbl, by simpa using sz⟩
      | 6, _ =>
        cases h0
        have n4 : s.getD 4 false = true := hpre ⟨4, .data⟩ (by simp) rfl
        refine wpOp_new rfl rfl (v := v48) (w' := w2) (by simp [go_sem]) ?_
        exact ⟨v7, v48, v44, v45, v46, v47, v48, rfl, fun h => k0 (by rwa [getD_set_ne false (by decide)] at h), fun h => k1 (by rwa [getD_set_ne false (by decide)] at h), fun h => k3 (by rwa [getD_set_ne false (by decide)] at h), fun h h' => k2 (by rwa [getD_set_ne false (by decide)] at h) (by rwa [getD_set_ne false (by decide)] at h'), fun h => by rw [getD_set_ne false (by decide)] at h ⊢; exact k4 h, fun h => k5 (by rwa [getD_set_ne false (by decide)] at h), fun _ => ⟨by rw [getD_set_ne false (by decide)]; exact n4, rfl⟩, hbl, by simpa using sz⟩
    case hend =>
      intro s act_ w2 hr hI
      obtain ⟨v7, v8, v44, v45, v46, v47, v48, rfl, k0, k1, k3, k2, k4, k5, k6, hbl, sz⟩ := hI
      have hall := all_done sz (by kernel_rfl) hr
      have x0 := k0 (hall 0 (by decide))
      have x1 := k1 (hall 1 (by decide))
      have x3 := k3 (hall 3 (by decide))
      have x5 := k5 (hall 5 (by decide))
      subst x0
      subst x1
      subst x3
      subst x5
      obtain ⟨_, x6⟩ := k6 (hall 6 (by decide))
      obtain ⟨_, g, c, rfl, hat2, hge, hown⟩ := k4 (hall 4 (by decide))
      subst x6
      clear hall sz hr k0 k1 k3 k2 k4 k5 k6 hb0 hl0
      have g2 := G1_.out.below hbl
      have m2 : MineB w2 [] g := ⟨hown, fun ⟨v, hv, _⟩ => absurd hv (by simp)⟩
      have hgw : w.heap.size ≤ g := Nat.le_trans G1_.out.bel.size hge
      have hok : okX ⟨0, bs⟩ := ⟨HL_.out, HR_.out⟩
      have hpt := put_g g2 (.agg (ic 0 (some ⟨g, 0, none⟩) bs.length c)) ⟨0, bs⟩ ⟨some ⟨g, 0, none⟩, c, rfl, .inr ⟨g, 0, rfl, hat2⟩⟩ hok (by simp)
      clear hge hown hbl G1_
      have HPT_ := hid hpt
      clear hpt
      have G2_ := hid g2
      clear g2
      have M2_ := hid m2
      clear m2
      have HGW_ := hid hgw
      clear hgw
      have HOK_ := hid hok
      clear hok
      have HAT2_ := hid hat2
      clear hat2
      go_wp2_with fail
      refine HPT_.out.mono ?_
      rintro e w3 ⟨rfl, us3, g3, s3⟩
      dsimp only
      obtain ⟨m3, e3⟩ := s3.mine G2_.out.qs M2_.out
      have hcell := byte_at HAT2_.out j HJ_.out
      rw [← e3] at hcell
      have hog := m3.1
      have hyy := HY_.out
      generalize hbj : bs.getD j 0 = y at *
      have hnc : row? w3 g ≠ #[.chan (some ch)] := fun e => by
        rw [e] at hcell
        cases hk : 0 + j with
        | zero => rw [hk] at hcell; simp at hcell
        | succ k => rw [hk] at hcell; simp at hcell
      rw [Nat.zero_add] at hcell
      rw [List.nil_append] at g3
      clear HPT_ G2_ M2_ s3 e3
      have hst := run_stAt_one (P := Try.prog) (t := 5) w3 g j (.int .u8 ((y + 1) % 256)) (by kernel_rfl) rfl (Array.getElem?_eq_some_iff.1 hcell).1 hog
      have G3_ := hid g3
      clear g3
      have M3_ := hid m3
      clear m3
      have HBJ_ := hid hbj
      clear hbj
      have HYY_ := hid hyy
      clear hyy
      have HNC_ := hid hnc
      clear hnc
      go_upto_region 7 with (fail)
      obtain ⟨g4, _⟩ := G3_.out.wr M3_.out HGW_.out HNC_.out ⟨g, j, none⟩ rfl (.int .u8 ((y + 1) % 256))
      generalize w3.setCell ⟨g, j, none⟩ (.int .u8 ((y + 1) % 256)) = w4 at *
      have hlk := look_n g4 0 (by simp)
      simp only [List.getD_cons_zero] at hlk
      clear G3_ M3_ HNC_ HGW_ HAT2_ hcell hst hog
      have HLK_ := hid hlk
      clear hlk
      go_wp2_with fail
      refine HLK_.out.mono ?_
      rintro e w5 ⟨a2, c2, us5, rfl, g5, _, v5, n5⟩
      dsimp only at v5 ⊢
      clear HLK_ g4
      have G5_ := hid g5
      clear g5
      have V5_ := hid v5
      clear v5
      have N5_ := hid n5
      clear n5
      go_upto_region 8 with (fail)
      obtain ⟨w6, hE, g6, v6, _⟩ := var_new (x := ⟨0, bs⟩) G5_.out V5_.out
      rw [hE]
      clear hE G5_ V5_
      generalize w5.heap.size = n1 at *
      have hr6 := v6.row
      have k6 := conv_rows v6.my.itm.rows c2
      have hidx := idx_nums bs j HJ_.out (by rw [HBJ_.out]; exact HYY_.out.1) (by rw [HBJ_.out]; exact HYY_.out.2)
      have hsz := strOfNums_size bs
      have k1 : ∀ W' : World, ∀ (aa : Option Addr) (cc : Nat), RowsIn b1 0 1 W' aa bs → (convert 28 9 (.slice aa bs.length cc)).run Try.prog W' = .ok (.string (strOfNums bs)) W' := fun W' aa cc h => conv_rows h cc
      rw [HBJ_.out] at hidx
      dsimp only at hr6 k6
      generalize strOfNums bs = st at *
      have HIDX_ := hid hidx
      clear hidx
      have HSZ_ := hid hsz
      clear hsz
      have K1_ := hid k1
      clear k1
      have G6_ := hid g6
      clear g6
      have V6_ := hid v6
      clear v6
      go_upto_region 10 with (fail)
      obtain ⟨ga, oa', rfl, hra⟩ := V6_.out.my.itm.rows.at HNE_.out
      have hcell := byte_at hra j HJ_.out
      dsimp only at hcell
      rw [HBJ_.out] at hcell
      have m6 := V6_.out.my.blk ga (by rw [blkOf_ic]; rfl)
      have hog := m6.1
      have hnc : row? w6 ga ≠ #[.chan (some ch)] := fun e => by
        rw [e] at hcell
        cases hk : oa' + j with
        | zero => rw [hk] at hcell; simp at hcell
        | succ k => rw [hk] at hcell; simp at hcell
      have hst := run_stAt_one (P := Try.prog) (t := 5) w6 ga (oa' + j) (.int .u8 ((y + 1) % 256)) (by kernel_rfl) rfl (Array.getElem?_eq_some_iff.1 hcell).1 hog
      clear hra k6
      have M6_ := hid m6
      clear m6
      have HNC_ := hid hnc
      clear hnc
      go_upto_region 11 with (fail)
      obtain ⟨g7, _⟩ := G6_.out.wr M6_.out (N5_.out ga rfl) HNC_.out ⟨ga, oa' + j, none⟩ rfl (.int .u8 ((y + 1) % 256))
      generalize w6.setCell ⟨ga, oa' + j, none⟩ (.int .u8 ((y + 1) % 256)) = w7 at *
      have htw := twice_g g7 0
      rw [show twiceL 3 0 [(⟨0, bs⟩ : Itm)] = [⟨0, bs⟩, ⟨0, bs⟩] from rfl] at htw
      clear G6_ M6_ HNC_ V6_ N5_ hcell hst hog g7 hr6
      have HTW_ := hid htw
      clear htw
      go_wp2_with fail
      refine HTW_.out.mono ?_
      rintro e w8 ⟨rfl, us8, g8, _⟩
      dsimp only
      have htn := turn_g g8 1 j
      have htl : turnL 1 j [(⟨0, bs⟩ : Itm), ⟨0, bs⟩] = [⟨0, bs⟩, turnI ⟨0, bs⟩ j] := turnL_in (k := 1) (j := j) (ys := [⟨0, bs⟩, ⟨0, bs⟩]) (by simp) HJ_.out
      rw [htl] at htn
      have hzl : (turnI ⟨0, bs⟩ j).bs.length = bs.length := by simp [turnI]
      have hzb := turnI_at ⟨0, bs⟩ j j HJ_.out
      rw [if_pos rfl] at hzb
      dsimp only at hzb
      rw [HBJ_.out] at hzb
      generalize turnI ⟨0, bs⟩ j = z at *
      clear HTW_ htl
      have HTN_ := hid htn
      clear htn
      have HZL_ := hid hzl
      clear hzl
      have HZB_ := hid hzb
      clear hzb
      go_wp2_with fail
      refine HTN_.out.mono ?_
      rintro e w9 ⟨rfl, us9, g9, _⟩
      dsimp only
      have htk := take_g g9
      clear HTN_ g8 g9
      have HTK_ := hid htk
      clear htk
      go_wp2_with fail
      refine HTK_.out.mono ?_
      rintro e w10 ⟨a3, c3, us10, rfl, g10, _, v10⟩
      dsimp only at v10 ⊢
      clear HTK_
      have G10_ := hid g10
      clear g10
      have V10_ := hid v10
      clear v10
      go_upto_region 14 with (fail)
      obtain ⟨w11, hE, g11, v11, _⟩ := var_new (x := ⟨0, bs⟩) G10_.out V10_.out
      rw [hE]
      clear hE G10_ V10_
      generalize w10.heap.size = n2 at *
      have htk := take_g g11
      have HTK_ := hid htk
      clear htk
      have V11_ := hid v11
      clear v11
      have G11_ := hid g11
      clear g11
      go_wp2_with fail
      refine HTK_.out.mono ?_
      rintro e w12 ⟨a4, c4, us12, rfl, g12, s12, u12⟩
      dsimp only
      have v12 := V11_.out.step G11_.out.qs s12
      clear HTK_ V11_ G11_ s12
      have G12_ := hid g12
      clear g12
      have U12_ := hid u12
      clear u12
      have V12_ := hid v12
      clear v12
      go_upto_region 15 with (fail)
      obtain ⟨w13, hE, g13, u13, s13⟩ := var_new G12_.out U12_.out
      rw [hE]
      have v13 := V12_.out.step G12_.out.qs s13
      clear hE G12_ V12_ U12_ s13
      generalize w12.heap.size = n3 at *
      have hzl := HZL_.out
      have hjz : j < z.bs.length := by rw [hzl]; exact HJ_.out
      obtain ⟨gz, oz, rfl, hrz⟩ := u13.my.itm.rows.at (by intro e; rw [e] at hjz; simp at hjz)
      have hcz := byte_at hrz j hjz
      rw [HZB_.out] at hcz
      have f1 : ∀ d, row? (gr w13 d) n2 = ic 0 a3 bs.length c3 := fun d => by rw [Below_row (gr_below w13 d) (row_lt (by rw [v13.row]; simp))]; exact v13.row
      have f2 : ∀ d, row? (gr w13 d) n3 = ic z.k (some ⟨gz, oz, none⟩) bs.length c4 := fun d => by rw [Below_row (gr_below w13 d) (row_lt (by rw [u13.row]; simp)), ← hzl]; exact u13.row
      have f3 : ∀ d, (row? (gr w13 d) gz)[oz + j]? = some (.int .u8 (255 - y)) := fun d => by rw [Below_row (gr_below w13 d) (row_lt (by intro e0; rw [e0] at hcz; simp at hcz))]; exact hcz
      have f4 : ∀ d, (convert 28 9 (.slice a3 bs.length c3)).run Try.prog (gr w13 d) = .ok (.string st) (gr w13 d) := fun d => K1_.out _ _ _ (v13.my.itm.rows.gr (by decide) d)
      have hidx := HIDX_.out
      have hsz := HSZ_.out
      have hy0 := HYY_.out.1
      have hy1 := HYY_.out.2
      have hxr := bits_xor y hy0 hy1
      have hal := fun d => alive18_g w13 d
      have bw := g13.bel
      clear u13 v13 hzl hjz hrz hcz HZB_ HZL_ K1_ HIDX_ HSZ_
      have HAL_ := hid hal
      clear hal
      have BW_ := hid bw
      clear bw
      rw [gr_self w13]
      refine wp_region_gr w13 (by kernel_rfl) (by kernel_rfl) ⟨_, rfl⟩ ?_
      repeat (go_big_quiet_step (((go_at_call 10; exact HAL_.out _))))
      refine wpQuiet_nil ?_
      rintro _ ⟨yy, rfl⟩
      have bw' := BW_.out.trans ((gr_below w13 yy).mono BW_.out.size)
      clear BW_ HAL_ f1 f2 f3 f4 hidx
      generalize gr w13 yy = w14 at *
      have BW'_ := hid bw'
      clear bw'
      go_wp2
      go_ret
      exact ⟨rfl, BW'_.out⟩
  · have hcase : at_ < 0 ∨ (¬ at_ < 0 ∧ (bs.length : Int) ≤ at_) := by omega
    clear hX hr hl hat
    have HNEW_ := hid hnew
    clear hnew
    rcases hcase with h1 | ⟨h1, h2⟩ <;> (
      go_enter Try.func5, Try.ntmps5
      go_wp2_with fail
      refine HNEW_.out.mono ?_
      rintro e w1 ⟨b, ch, rfl, g1⟩
      dsimp only
      have hal := alive_g g1
      clear HNEW_ g1
      have HAL_ := hid hal
      clear hal
      go_wp2_with fail
      refine HAL_.out.mono ?_
      rintro e w2 ⟨rfl, g2, _⟩
      dsimp only
      have bw := g2.bel
      clear HAL_ g2
      have BW_ := hid bw
      clear bw
      go_wp2
      go_ret
      exact ⟨rfl, BW_.out⟩)
end Go.Proofs.Ytbdpnmocbpplbaa
