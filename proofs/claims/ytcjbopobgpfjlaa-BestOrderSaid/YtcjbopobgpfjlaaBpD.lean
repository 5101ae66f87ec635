/-
  The walk of best.Port. No condition but that there are at most 1000.
-/
import Derived.Test.YtcjbopobgpfjlaaBpC
namespace Go.Proofs.Ytcjbopobgpfjlaa
open Go.RowKit Go.Shelf

/-- The best one of a port's, as plain data. -/
def portB (r : Prt) (xs : List Sett) : Cho := if firstI (xs.map (rcv r)) < 0 then zeroCh else ⟨(xs.map (rcv r)).getD (firstI (xs.map (rcv r))).toNat zeroS, true⟩
@[go_sem] theorem bldCh (w : World) (s : Sett) (v : Bool) : (bld 49 #[(0, .agg (sa s)), (1, .bool v)]).run Try.prog w = .ok (.agg (cha ⟨s, v⟩)) w := by
  refine run_bld w ?_
  unfold Program.built
  rw [Try.underlying49]
  obtain ⟨i0, hi0, hz0, hz1, hz2⟩ := info_parts infoC
  obtain ⟨j0, hj0, jz0, jz1, jz2⟩ := info_parts infoS
  obtain ⟨k0, hk0⟩ := Option.isSome_iff_exists.1 (show (Try.prog.info? 4).isSome = true by kernel_rfl)
  have hks : k0.size = 1 := by
    have h : (Try.prog.info? 4).map (·.size) = some 1 := by kernel_rfl
    rw [hk0] at h
    simpa using h
  have h1 := wrK_get (sa s).toList 0 (cha zeroCh) (by simp)
  have e1 : Array.foldl (fun cs x => cs.setIfInBounds x.snd x.fst) (cha zeroCh) (sa s).zipIdx 0 (sa s).size = ((sa s).toList.zipIdx 0).foldl (fun c x => c.setIfInBounds x.2 x.1) (cha zeroCh) := by
    rw [← Array.toList_zipIdx, Array.foldl_toList]
    simp
  have e2 : (Value.bool v).cells = #[.bool v] := rfl
  have e3 : (Value.agg (sa s)).cells = sa s := rfl
  have e4 : (Value.agg (cha zeroCh)).cells = cha zeroCh := rfl
  simp [hi0, hz0, hj0, hk0, jz1, hks, Instr.fill, e2, e3, e4]
  simp only [sa_size] at e1
  rw [e1]
  obtain ⟨g1, g2⟩ := h1
  refine ⟨by rw [g1]; simp, ?_⟩
  apply Array.ext_getElem?
  intro j
  rw [Array.getElem?_setIfInBounds]
  by_cases h32 : 32 = j
  · subst h32
    rw [if_pos rfl, if_pos (by rw [g1]; simp), cha_32]
  · rw [if_neg h32, g2 j]
    by_cases hj : j < 32
    · rw [if_pos (by simp; omega)]
      unfold cha
      rw [Array.getElem?_append_left (by simp; omega)]
      simp
    · rw [if_neg (by simp; omega), Array.getElem?_eq_none (by simp; omega), Array.getElem?_eq_none (by simp; omega)]
/-- Nothing is ready: all is done, where everything waits for what stands ahead of it alone. -/
theorem all_done {ops : Array Oper} {s : Array Bool} (sz : s.size = ops.size) (hc : ((List.range ops.size).all fun i => match ops[i]? with | some o => o.after.all fun e => !Region.binds .any e || decide (e.on < i) | none => true) = true) (hr : Region.ready .any ops s = []) : ∀ i, i < ops.size → s.getD i false = true := by
  intro i
  induction i using Nat.strongRecOn with
  | ind i ih =>
    intro hi
    cases h : s.getD i false with
    | true => rfl
    | false =>
      exfalso
      have hm : i ∈ Region.ready .any ops s := by
        refine mem_ready.2 ⟨by simpa [Array.getD, sz, hi] using h, ops[i], by simp [hi], fun e he hb => ?_⟩
        have h1 := List.all_eq_true.1 hc i (List.mem_range.2 hi)
        simp only [Array.getElem?_eq_getElem hi] at h1
        have h2 := Array.all_eq_true_iff_forall_mem.1 h1 e he
        rw [hb] at h2
        have hlt : e.on < i := by simpa using h2
        exact ih _ hlt (by omega)
      rw [hr] at hm
      cases hm
attribute [local go_sem] Oper.semAt_some
theorem KeepsFrom.below {B : Nat} {W W' : World} (h : Below W.heap.size W W') : KeepsFrom B W W' := KeepsFrom.of_grownBy (grown_of h) (fun _ e => by cases e)
set_option maxRecDepth 100000 in
set_option maxHeartbeats 400000 in
theorem bport_in (r : Prt) (xs : List Sett) (hl : xs.length ≤ 1000) (hR : ∀ k, k < xs.length → inR (xs.getD k zeroS).n) (a : Option Addr) (cap : Nat) (w : World) (hI : RowsIn sa zeroS 32 w a xs) :
    Calls Try.prog 30 #[.slice a xs.length cap, .agg (pa r)] w fun e w' => e = .returned (.agg (cha (portB r xs))) ∧ Below w.heap.size w w' := by
  obtain ⟨i0, hi0, hz0, hz1, hz2⟩ := info_parts infoS
  refine (callsIn_wide (n := 9)).1 (callsIn_of_wp_marks Try.func30 rfl trivial ?_ rfl)
  simp only [Try.ntmps30, List.size_toArray, List.length_cons, List.length_nil, Nat.reduceAdd, Nat.reduceSub, Array.replicate_succ, Array.replicate_zero, List.push_toArray, List.append_toArray, List.nil_append, List.cons_append]
  refine wpIn_wide.2 ?_
  go_wp2_with fail
  refine (heard_c r a xs.length cap _).mono ?_
  rintro e w' ⟨rfl, rfl⟩
  dsimp only
  simp only [World.size_alloc]
  have bO := ((Boxed.new ((w.alloc (.cells (pa r) 27)).alloc (.cells (cha zeroCh) 49)) 35 (.slice none 0 0)).alloc (.cells #[.slice a xs.length cap] 35)).alloc (.cells (pa r) 27)
  have bR := (((CellsAt.new (w.alloc (.cells (pa r) 27)) (cha zeroCh) 49).alloc (.cells #[.slice none 0 0] 35)).alloc (.cells #[.slice a xs.length cap] 35)).alloc (.cells (pa r) 27)
  have k1 := (CellsAt.new (((w.alloc (.cells (pa r) 27)).alloc (.cells (cha zeroCh) 49)).alloc (.cells #[.slice none 0 0] 35)) #[.slice a xs.length cap] 35).alloc (.cells (pa r) 27)
  have k2 := CellsAt.new ((((w.alloc (.cells (pa r) 27)).alloc (.cells (cha zeroCh) 49)).alloc (.cells #[.slice none 0 0] 35)).alloc (.cells #[.slice a xs.length cap] 35)) (pa r) 27
  have hB0 : Below w.heap.size w (((((w.alloc (.cells (pa r) 27)).alloc (.cells (cha zeroCh) 49)).alloc (.cells #[.slice none 0 0] 35)).alloc (.cells #[.slice a xs.length cap] 35)).alloc (.cells (pa r) 27)) :=
    (((((Below.refl _ w).alloc (Nat.le_refl _) _).alloc (by simp) _).alloc (by simp; omega) _).alloc (by simp; omega) _).alloc (by simp; omega) _
  have hsz : (((((w.alloc (.cells (pa r) 27)).alloc (.cells (cha zeroCh) 49)).alloc (.cells #[.slice none 0 0] 35)).alloc (.cells #[.slice a xs.length cap] 35)).alloc (.cells (pa r) 27)).heap.size = w.heap.size + 5 := by simp
  simp only [World.size_alloc] at bO bR k1 k2
  obtain ⟨W0, hW0⟩ : ∃ W0, ((((w.alloc (.cells (pa r) 27)).alloc (.cells (cha zeroCh) 49)).alloc (.cells #[.slice none 0 0] 35)).alloc (.cells #[.slice a xs.length cap] 35)).alloc (.cells (pa r) 27) = W0 := ⟨_, rfl⟩
  rw [hW0] at bO bR k1 k2 hB0 hsz ⊢
  clear hW0
  have hI0 := hI.below (by decide) hB0
  have hlt0 : ∀ b off, a = some ⟨b, off, none⟩ → xs ≠ [] → b < w.heap.size := fun b off e h => by
    subst e
    obtain ⟨b', off', e', hs⟩ := hI.at h
    cases e'
    exact hs.lt (by decide) h
  go_wp2_with fail
  refine (wpIn_wide (n := 9)).1 ?_
  refine wpIn_rangeFunc_ownH (gf := 51) (lb := #[.pointer (some ⟨w.heap.size + 1 + 1 + 1, 0, none⟩), .pointer (some ⟨w.heap.size + 1 + 1 + 1 + 1, 0, none⟩)]) (encs := fun x : Sett => #[Value.agg (sa x)]) (Kp := Kps w.heap.size (w.heap.size + 1 + 1 + 1 + 1)) (S := fun ys => ys = xs.map (rcv r)) (Sp := fun _ => True) (N := xs.length) (w0 := W0) ?a1 ?a2 ?a3 ?a4 ?a5 ?a6 ?a7 ?a8 ?a9 ?a10
    (fun pre W => (((∃ v, Boxed W (w.heap.size + 1 + 1) 35 v ∧ W.ownsRow w.heap.size 29 32 v pre.length (rowsL sa pre) ∧ True) ∧ CellsAt W (w.heap.size + 1) (cha zeroCh) 49) ∧ CellsAt W (w.heap.size + 1 + 1 + 1 + 1) (pa r) 27) ∧ Below w.heap.size w W)
    (fun _ _ _ => False) ?b1 ?b2 ?b3
    (fun x a' W => ∃ Bx, CellsAt W Bx (sa x) 29 ∧ a' = { tmps := #[.slice a xs.length cap, .agg (pa r), undef, .pointer (some ⟨w.heap.size, 0, none⟩), .pointer (some ⟨w.heap.size + 1, 0, none⟩), .pointer (some ⟨w.heap.size + 1 + 1, 0, none⟩), .pointer (some ⟨Bx, 0, none⟩), undef, undef, .slice a xs.length cap, .agg (pa r), .func (.func 51) #[] #[.pointer (some ⟨w.heap.size + 1 + 1 + 1, 0, none⟩), .pointer (some ⟨w.heap.size + 1 + 1 + 1 + 1, 0, none⟩)], .agg (sa x), undef, undef, undef, undef, undef, undef, undef, undef, undef, undef, undef, undef, undef, undef], defers := [] }) ?b4
    ?assign ?body ?done ?stop
  case a1 => rfl
  case a2 => decide
  case a3 => rfl
  case a4 => trivial
  case a5 => exact enters_of Try.func51 (by kernel_rfl) rfl
  case a6 => exact heard_stops Fence.wide (9 - 1) trivial rfl (by decide) (w.heap.size + 1 + 1 + 1) (w.heap.size + 1 + 1 + 1 + 1) w.heap.size cap a r xs hl W0 (by omega) (by omega) (by omega) k1.row k2.row hlt0 hI0
  case a7 => exact Kps.t
  case a8 => exact Kps.b (by omega) (by omega)
  case a9 => exact Below.refl _ _
  case a10 => exact fun _ => rfl
  case b1 =>
    have o1 : OwnFrom W0.heap.size (fun (pre : List Sett) W => ∃ v, Boxed W (w.heap.size + 1 + 1) 35 v ∧ W.ownsRow w.heap.size 29 32 v pre.length (rowsL sa pre) ∧ True) := (holdsRow_own w.heap.size (w.heap.size + 1 + 1) 35 29 32 (fun pre : List Sett => pre.length) (fun pre => rowsL sa pre) (fun _ _ => True)).from _
    have o2 : OwnFrom W0.heap.size (fun (_ : List Sett) W => CellsAt W (w.heap.size + 1) (cha zeroCh) 49) := (cells_own (w.heap.size + 1) (cha zeroCh) 49).from _
    have o3 : OwnFrom W0.heap.size (fun (_ : List Sett) W => CellsAt W (w.heap.size + 1 + 1 + 1 + 1) (pa r) 27) := (cells_own (w.heap.size + 1 + 1 + 1 + 1) (pa r) 27).from _
    have o4 : OwnFrom W0.heap.size (fun (_ : List Sett) W => Below w.heap.size w W) := ownFrom_below (Nat.le_refl _) (by omega)
    exact fun s A B row hs hg hr => ⟨⟨⟨o1 s A B row hs.1.1.1 hg hr, o2 s A B row hs.1.1.2 hg hr⟩, o3 s A B row hs.1.2 hg hr⟩, o4 s A B row hs.2 hg hr⟩
  case b2 => exact fun _ _ _ _ _ hs _ _ => hs
  case b3 => exact ⟨⟨⟨⟨_, bO, World.ownsRow_nil _ _ _ _, trivial⟩, bR⟩, k2⟩, hB0⟩
  case b4 => exact fun x a' _ X Y row hs hg hr => by obtain ⟨Bx, h2, h3⟩ := hs; exact ⟨Bx, cells_own (β := Unit) Bx (sa x) 29 () X Y row h2 hg (fun r e => (hr r e).2), h3⟩
  case stop =>
    rintro D c pre W _ _ h _
    exact h.elim
  case assign =>
    rintro l pre x W K ⟨⟨⟨⟨v, hv, hrow, _⟩, bR1⟩, k3⟩, hB1⟩ hK
    gi_wp2
    obtain ⟨W', hE, _, _, hb, _⟩ := newb W (sa zeroS) (sa x) 29 (by simp)
    have hnew : CellsAt ((W.alloc (.cells (sa zeroS) 29)).setRow W.heap.size (sa x)) W.heap.size (sa x) 29 := setRow_heap _ W.heap.size (sa zeroS) (sa x) 29 (0, 0) (World.alloc_heap_new W _)
    rw [hE] at hnew ⊢
    have hg := grown_of hb
    have k3' := k3.kept hg (by simp)
    exact hK _ _ (KeepsFrom.below hb) ⟨hb.mono hB1.size, k3'.trans k3.symm⟩ ⟨⟨⟨⟨v, hv.kept hg (by simp), ownsRow_below hrow hb, trivial⟩, bR1.kept hg (by simp)⟩, k3'⟩, hB1.trans (hb.mono hB1.size)⟩ ⟨W.heap.size, hnew, rfl⟩
  case body =>
    rintro l pre x a' W hl' ⟨rr, hr⟩ ⟨⟨⟨⟨v, hv, hrow, _⟩, bR1⟩, k3⟩, hB1⟩ ⟨Bx, bX, rfl⟩ hlt
    have hc := hv.cell
    have hx := bX.row
    have hsz1 := hB1.size
    gi_wp2_with (gi_at_builtin; refine wpListIn_append_own _ rfl _ _ 35 rfl w.heap.size 29 i0 (.agg (sa zeroS)) 32 88 Try.underlying35 hi0 hz0 hz1 hz2 (by simp [Value.cells]) (by decide) _ _ _ rfl (hrow.alloc _) ⟨W.heap.size, 0, none⟩ 1 1 (sa x).toList rfl (by simp) (built_cells _ _ _ _ _ (by simp) (by simp)) (sa_one _) (by unfold maxLen; omega) (by omega) (by simp; omega) ?_; intro v' w1 hown' hgrow _; obtain ⟨g', cap', rfl⟩ := ownsRow_succ hown'; obtain ⟨hv1, hv2, hr2, hk2, hb2⟩ := hv.appended (by decide) hrow hB1.size (by omega) hown' hgrow; have hc1 := (show CellsAt w1 (w.heap.size + 1 + 1) #[v] 35 from hv1).row; have hf1 := (show CellsAt w1 (w.heap.size + 1 + 1) #[v] 35 from hv1).own)
    have bR2 := ((bR1.alloc _).kept hgrow (bR1.not_row (by decide) hrow)).kept (grownBy_setCell' w1 (w.heap.size + 1 + 1) (.slice (some ⟨g', 0, none⟩) (pre.length + 1) cap')) (by simp)
    have k4 := ((k3.alloc _).kept hgrow (k3.not_row (by decide) hrow)).kept (grownBy_setCell' w1 (w.heap.size + 1 + 1) (.slice (some ⟨g', 0, none⟩) (pre.length + 1) cap')) (by simp; omega)
    refine ⟨hk2.from _, ⟨hb2, k4.trans k3.symm⟩, ⟨⟨⟨_, hv2, ?_, trivial⟩, bR2⟩, k4⟩, hB1.trans hb2⟩
    rw [List.length_append, rowsL_snoc]
    exact hr2
  case done =>
    rintro D ys W hD rfl ⟨⟨⟨⟨v, hv, hrow, _⟩, bR1⟩, k3⟩, hB1⟩ hK
    have hc := (show CellsAt W (w.heap.size + 1 + 1) #[v] 35 from hv).row
    have bRr := gr_row bR1.row bR1.lt
    have bRo := gr_own bR1.own
    have hcl := (show CellsAt W (w.heap.size + 1 + 1) #[v] 35 from hv).lt
    have hc5 : ∀ d, (row? (gr W d) (w.heap.size + 1 + 1))[0]? = some v := fun d => by rw [gr_row hc hcl d]; rfl
    have hlm : (xs.map (rcv r)).length ≤ 1000 := by simpa using hl
    have hRm : ∀ k, k < (xs.map (rcv r)).length → inR ((xs.map (rcv r)).getD k zeroS).n := fun k hk => by
      have hk' : k < xs.length := by simpa using hk
      have e : (xs.map (rcv r)).getD k zeroS = rcv r (xs.getD k zeroS) := by simp [hk']
      rw [e]
      exact hR k hk'
    have hpb : portB r xs = if firstI (xs.map (rcv r)) < 0 then zeroCh else ⟨(xs.map (rcv r)).getD (firstI (xs.map (rcv r))).toNat zeroS, true⟩ := rfl
    generalize xs.map (rcv r) = ys at *
    obtain ⟨_, a3, c3, rfl, hX3⟩ := own_rows sa_size (by decide) zeroS hrow
    have hX4 := fun d => hX3.gr (by decide) d
    have hf := first_rows ys hlm hRm a3 c3 hX4
    obtain ⟨kk, x, bb, hf1, hat1, hpe⟩ : ∃ (kk : Int) (x : Sett) (bb : Bool), (∀ w1, Below W.heap.size W w1 → Calls Try.prog 24 #[.slice a3 ys.length c3] w1 fun e w2 => e = .returned (.int .i64 kk) ∧ Below w1.heap.size w1 w2) ∧ (∀ w1, Below W.heap.size W w1 → Calls Try.prog 46 #[.slice a3 ys.length c3, .int .i64 kk] w1 fun e w2 => e = .returned (.tuple #[.agg (sa x), .bool bb]) ∧ Below w1.heap.size w1 w2) ∧ portB r xs = ⟨x, bb⟩ := by
      have hf1 : ∀ w1, Below W.heap.size W w1 → Calls Try.prog 24 #[.slice a3 ys.length c3] w1 fun e w2 => e = .returned (.int .i64 (firstI ys)) ∧ Below w1.heap.size w1 w2 := fun w1 hb => by
        have h := (first_rows ys hlm hRm a3 c3 (W := w1) (fun d => (hX3.below (by decide) hb).gr (by decide) d)) w1
        rw [← gr_self w1] at h
        exact h.mono fun e w2 ⟨he, m, hm⟩ => ⟨he, by rw [hm]; exact gr_below w1 m⟩
      rcases firstI_spec' ys with ⟨e1, _⟩ | ⟨k, hk, e1, _⟩
      · refine ⟨-1, zeroS, false, fun w1 hb => by have h := hf1 w1 hb; rwa [e1] at h, fun w1 _ => ?_, by rw [hpb, e1, if_pos (by omega)]; rfl⟩
        have h := (atS_no ys.length c3 a3 (-1) (by omega) (W := w1)) w1
        rw [← gr_self w1] at h
        exact h.mono fun e w2 ⟨he, m, hm⟩ => ⟨he, by rw [hm]; exact gr_below w1 m⟩
      · refine ⟨k, ys.getD k zeroS, true, fun w1 hb => by have h := hf1 w1 hb; rwa [e1] at h, fun w1 hb => ?_, by rw [hpb, e1, if_neg (by omega)]; rfl⟩
        have h := (atS_yes ys c3 a3 k hk (W := w1) (fun d => (hX3.below (by decide) hb).gr (by decide) d)) w1
        rw [← gr_self w1] at h
        exact h.mono fun e w2 ⟨he, m, hm⟩ => ⟨he, by rw [hm]; exact gr_below w1 m⟩
    clear hX4 hrow hv hf hpb
    have hpb := hpe
    clear hpe
    have HF_ := hid hf1
    have HAT_ := hid hat1
    clear hf1 hat1
    have HPB_ := hid hpb
    clear hpb
    have HK_ := hid hK
    clear hK
    have HB1_ := hid hB1
    clear hB1
    go_upto_region 5 with (fail)
    refine wp_region_inv (by kernel_rfl) (Inv5 W (.slice a xs.length cap) (.agg (pa r)) (.pointer (some ⟨w.heap.size, 0, none⟩)) (.pointer (some ⟨w.heap.size + 1, 0, none⟩)) (.pointer (some ⟨w.heap.size + 1 + 1, 0, none⟩)) (.slice a xs.length cap) (.agg (pa r)) (.func (.func 51) #[] #[.pointer (some ⟨w.heap.size + 1 + 1 + 1, 0, none⟩), .pointer (some ⟨w.heap.size + 1 + 1 + 1 + 1, 0, none⟩)]) [{ target := .collected D, args := #[] }] (.slice a3 ys.length c3) (.tuple #[.agg (sa x), .bool bb]) kk x bb) ?h0 ?hstep ?hend
    case h0 => exact ⟨⟨undef, undef, undef, undef, undef, undef, undef, undef, undef, rfl, by simp, by simp, by simp, by simp, by simp, by simp, by simp, by simp, by simp⟩, (Below.refl _ _).drew, by simp, by simp⟩
    case hstep =>
      intro s a w1 i hi hI
      obtain ⟨h1, o, h0, hpre⟩ := mem_ready.1 hi
      have hlt : i < 10 := (Array.getElem?_eq_some_iff.1 h0).1
      obtain ⟨⟨v7, v8, v17, v18, v19, v20, v21, v22, v23, rfl, k0, k1, k2, k3, k4, k5, k6, k9, k7⟩, hb, k8, sz⟩ := hI
      have hrow : row? w1 (w.heap.size + 1 + 1) = #[.slice a3 ys.length c3] := (Below_row hb hcl).trans hc
      match i, hlt with
      | 0, _ =>
        refine wpOp_new rfl rfl (v := .slice a3 ys.length c3) (w' := w1) (by simp [go_sem, fr5, hrow]) ?_
        exact ⟨⟨v7, v8, v17, .slice a3 ys.length c3, v19, v20, v21, v22, v23, rfl, fun _ => rfl, fun h => k1 (by rwa [getD_set_ne false (by decide)] at h), fun h => k2 (by rwa [getD_set_ne false (by decide)] at h), fun h => k3 (by rwa [getD_set_ne false (by decide)] at h), fun h => k4 (by rwa [getD_set_ne false (by decide)] at h), fun h => k5 (by rwa [getD_set_ne false (by decide)] at h), fun h => k6 (by rwa [getD_set_ne false (by decide)] at h), fun h => k9 (by rwa [getD_set_ne false (by decide)] at h), (fun h => by
            rw [getD_set_ne false (by decide)] at h
            obtain ⟨nb, e1, e2, e3, e4⟩ := k7 h
            exact ⟨nb, e1, e2, e3, by rw [getD_set_ne false (by decide)]; exact e4⟩)⟩, hb, fun h => by rw [getD_set_ne false (by decide)] at h ⊢; exact k8 h, by simpa using sz⟩
      | 1, _ =>
        refine wpOp_new rfl rfl (v := .slice a3 ys.length c3) (w' := w1) (by simp [go_sem, fr5, hrow]) ?_
        exact ⟨⟨v7, v8, v17, v18, .slice a3 ys.length c3, v20, v21, v22, v23, rfl, fun h => k0 (by rwa [getD_set_ne false (by decide)] at h), fun _ => rfl, fun h => k2 (by rwa [getD_set_ne false (by decide)] at h), fun h => k3 (by rwa [getD_set_ne false (by decide)] at h), fun h => k4 (by rwa [getD_set_ne false (by decide)] at h), fun h => k5 (by rwa [getD_set_ne false (by decide)] at h), fun h => k6 (by rwa [getD_set_ne false (by decide)] at h), fun h => k9 (by rwa [getD_set_ne false (by decide)] at h), (fun h => by
            rw [getD_set_ne false (by decide)] at h
            obtain ⟨nb, e1, e2, e3, e4⟩ := k7 h
            exact ⟨nb, e1, e2, e3, by rw [getD_set_ne false (by decide)]; exact e4⟩)⟩, hb, fun h => by rw [getD_set_ne false (by decide)] at h ⊢; exact k8 h, by simpa using sz⟩
      | 2, _ =>
        cases h0
        have n1 : s.getD 1 false = true := hpre ⟨1, .data⟩ (by simp) rfl
        have x1 := k1 n1
        subst x1
        refine wpOp_at rfl rfl ?_
        unfold Oper.wp
        simp [go_sem, fr5, hrow]
        refine (HF_.out w1 hb).mono ?_
        rintro e w2 ⟨rfl, hb2⟩
        exact ⟨⟨v7, v8, v17, v18, .slice a3 ys.length c3, .int .i64 kk, v21, v22, v23, rfl, fun h => k0 (by rwa [getD_set_ne false (by decide)] at h), fun h => k1 (by rwa [getD_set_ne false (by decide)] at h), fun _ => rfl, fun h => k3 (by rwa [getD_set_ne false (by decide)] at h), fun h => k4 (by rwa [getD_set_ne false (by decide)] at h), fun h => k5 (by rwa [getD_set_ne false (by decide)] at h), fun h => k6 (by rwa [getD_set_ne false (by decide)] at h), fun h => k9 (by rwa [getD_set_ne false (by decide)] at h), (fun h => by
            rw [getD_set_ne false (by decide)] at h
            obtain ⟨nb, e1, e2, e3, e4⟩ := k7 h
            have lt := own_lt e3
            exact ⟨nb, e1, e2, (Below_own hb2 lt).trans e3, by rw [getD_set_ne false (by decide)]; exact (Below_row hb2 lt).trans e4⟩)⟩, (hb.trans (hb2.mono hb.size)), fun h => by rw [getD_set_ne false (by decide)] at h ⊢; exact k8 h, by simpa using sz⟩
      | 3, _ =>
        cases h0
        have n0 : s.getD 0 false = true := hpre ⟨0, .data⟩ (by simp) rfl
        have x0 := k0 n0
        have n2 : s.getD 2 false = true := hpre ⟨2, .data⟩ (by simp) rfl
        have x2 := k2 n2
        subst x0
        subst x2
        refine wpOp_at rfl rfl ?_
        unfold Oper.wp
        simp [go_sem, fr5, hrow]
        refine (HAT_.out w1 hb).mono ?_
        rintro e w2 ⟨rfl, hb2⟩
        exact ⟨⟨v7, v8, v17, .slice a3 ys.length c3, v19, .int .i64 kk, .tuple #[.agg (sa x), .bool bb], v22, v23, rfl, fun h => k0 (by rwa [getD_set_ne false (by decide)] at h), fun h => k1 (by rwa [getD_set_ne false (by decide)] at h), fun h => k2 (by rwa [getD_set_ne false (by decide)] at h), fun _ => rfl, fun h => k4 (by rwa [getD_set_ne false (by decide)] at h), fun h => k5 (by rwa [getD_set_ne false (by decide)] at h), fun h => k6 (by rwa [getD_set_ne false (by decide)] at h), fun h => k9 (by rwa [getD_set_ne false (by decide)] at h), (fun h => by
            rw [getD_set_ne false (by decide)] at h
            obtain ⟨nb, e1, e2, e3, e4⟩ := k7 h
            have lt := own_lt e3
            exact ⟨nb, e1, e2, (Below_own hb2 lt).trans e3, by rw [getD_set_ne false (by decide)]; exact (Below_row hb2 lt).trans e4⟩)⟩, (hb.trans (hb2.mono hb.size)), fun h => by rw [getD_set_ne false (by decide)] at h ⊢; exact k8 h, by simpa using sz⟩
      | 4, _ =>
        cases h0
        have n3 : s.getD 3 false = true := hpre ⟨3, .data⟩ (by simp) rfl
        have x3 := k3 n3
        subst x3
        refine wpOp_new rfl rfl (v := .tuple #[.agg (sa x), .bool bb]) (w' := w1) (by simp [go_sem, fr5, hrow]) ?_
        exact ⟨⟨v7, v8, .tuple #[.agg (sa x), .bool bb], v18, v19, v20, .tuple #[.agg (sa x), .bool bb], v22, v23, rfl, fun h => k0 (by rwa [getD_set_ne false (by decide)] at h), fun h => k1 (by rwa [getD_set_ne false (by decide)] at h), fun h => k2 (by rwa [getD_set_ne false (by decide)] at h), fun h => k3 (by rwa [getD_set_ne false (by decide)] at h), fun _ => rfl, fun h => k5 (by rwa [getD_set_ne false (by decide)] at h), fun h => k6 (by rwa [getD_set_ne false (by decide)] at h), fun h => k9 (by rwa [getD_set_ne false (by decide)] at h), (fun h => by
            rw [getD_set_ne false (by decide)] at h
            obtain ⟨nb, e1, e2, e3, e4⟩ := k7 h
            exact ⟨nb, e1, e2, e3, by rw [getD_set_ne false (by decide)]; exact e4⟩)⟩, hb, fun h => by rw [getD_set_ne false (by decide)] at h ⊢; exact k8 h, by simpa using sz⟩
      | 5, _ =>
        cases h0
        have n4 : s.getD 4 false = true := hpre ⟨4, .data⟩ (by simp) rfl
        have x4 := k4 n4
        subst x4
        refine wpOp_new rfl rfl (v := .agg (sa x)) (w' := w1) (by simp [go_sem, fr5, hrow]) ?_
        exact ⟨⟨v7, v8, .tuple #[.agg (sa x), .bool bb], v18, v19, v20, v21, .agg (sa x), v23, rfl, fun h => k0 (by rwa [getD_set_ne false (by decide)] at h), fun h => k1 (by rwa [getD_set_ne false (by decide)] at h), fun h => k2 (by rwa [getD_set_ne false (by decide)] at h), fun h => k3 (by rwa [getD_set_ne false (by decide)] at h), fun h => k4 (by rwa [getD_set_ne false (by decide)] at h), fun _ => rfl, fun h => k6 (by rwa [getD_set_ne false (by decide)] at h), fun h => k9 (by rwa [getD_set_ne false (by decide)] at h), (fun h => by
            rw [getD_set_ne false (by decide)] at h
            obtain ⟨nb, e1, e2, e3, e4⟩ := k7 h
            exact ⟨nb, e1, e2, e3, by rw [getD_set_ne false (by decide)]; exact e4⟩)⟩, hb, fun h => by rw [getD_set_ne false (by decide)] at h ⊢; exact k8 h, by simpa using sz⟩
      | 6, _ =>
        cases h0
        have n4 : s.getD 4 false = true := hpre ⟨4, .data⟩ (by simp) rfl
        have x4 := k4 n4
        subst x4
        refine wpOp_new rfl rfl (v := .bool bb) (w' := w1) (by simp [go_sem, fr5, hrow]) ?_
        exact ⟨⟨v7, v8, .tuple #[.agg (sa x), .bool bb], v18, v19, v20, v21, v22, .bool bb, rfl, fun h => k0 (by rwa [getD_set_ne false (by decide)] at h), fun h => k1 (by rwa [getD_set_ne false (by decide)] at h), fun h => k2 (by rwa [getD_set_ne false (by decide)] at h), fun h => k3 (by rwa [getD_set_ne false (by decide)] at h), fun h => k4 (by rwa [getD_set_ne false (by decide)] at h), fun h => k5 (by rwa [getD_set_ne false (by decide)] at h), fun _ => rfl, fun h => k9 (by rwa [getD_set_ne false (by decide)] at h), (fun h => by
            rw [getD_set_ne false (by decide)] at h
            obtain ⟨nb, e1, e2, e3, e4⟩ := k7 h
            exact ⟨nb, e1, e2, e3, by rw [getD_set_ne false (by decide)]; exact e4⟩)⟩, hb, fun h => by rw [getD_set_ne false (by decide)] at h ⊢; exact k8 h, by simpa using sz⟩
      | 7, _ =>
        refine wpOp_new rfl rfl (v := .pointer (some ⟨w1.heap.size, 0, none⟩)) (w' := w1.alloc (.cells (sa zeroS) 29)) (by simp [go_sem, fr5]) ?_
        have s8 : s.getD 8 false = false := by
          cases e : s.getD 8 false with
          | false => rfl
          | true => have h7 := k8 e; rw [getD_both h1] at h7; cases h7
        exact ⟨⟨.pointer (some ⟨w1.heap.size, 0, none⟩), v8, v17, v18, v19, v20, v21, v22, v23, rfl, fun h => k0 (by rwa [getD_set_ne false (by decide)] at h), fun h => k1 (by rwa [getD_set_ne false (by decide)] at h), fun h => k2 (by rwa [getD_set_ne false (by decide)] at h), fun h => k3 (by rwa [getD_set_ne false (by decide)] at h), fun h => k4 (by rwa [getD_set_ne false (by decide)] at h), fun h => k5 (by rwa [getD_set_ne false (by decide)] at h), fun h => k6 (by rwa [getD_set_ne false (by decide)] at h), fun h => k9 (by rwa [getD_set_ne false (by decide)] at h), fun _ => ⟨w1.heap.size, rfl, hb.size, by simp [own_alloc, ownOf], by rw [getD_set_ne false (by decide), s8, if_neg (by simp)]; simp [row_alloc, rowOf]⟩⟩, hb.alloc hb.size _, (fun h => by rw [getD_set_ne false (by decide), s8] at h; cases h), by simpa using sz⟩
      | 8, _ =>
        cases h0
        have n5 : s.getD 5 false = true := hpre ⟨5, .data⟩ (by simp) rfl
        have x5 := k5 n5
        subst x5
        have n7 : s.getD 7 false = true := hpre ⟨7, .data⟩ (by simp) rfl
        obtain ⟨nb, e1, e2, e3, e4⟩ := k7 n7
        subst e1
        rw [getD_both h1, if_neg (by simp)] at e4
        have hin : 8 < s.size := by
          rcases Nat.lt_or_ge 8 s.size with h' | h'
          · exact h'
          · simp [Array.getD, Nat.not_lt.2 h'] at h1
        have hs8 : (s.setIfInBounds 8 true).getD 8 false = true := by simp [Array.getD, hin]
        refine wpOp_skip rfl rfl rfl (w' := w1.setRow nb (sa x)) (by simp [go_sem, fr5, e3, e4]) ?_
        obtain ⟨w2, hE, r2, o2, b2⟩ := setb (w0 := W) (B := sa x) e2 e4 e3 (by simp) hb
        rw [hE]
        exact ⟨⟨.pointer (some ⟨nb, 0, none⟩), v8, v17, v18, v19, v20, v21, .agg (sa x), v23, rfl, fun h => k0 (by rwa [getD_set_ne false (by decide)] at h), fun h => k1 (by rwa [getD_set_ne false (by decide)] at h), fun h => k2 (by rwa [getD_set_ne false (by decide)] at h), fun h => k3 (by rwa [getD_set_ne false (by decide)] at h), fun h => k4 (by rwa [getD_set_ne false (by decide)] at h), fun _ => rfl, fun h => k6 (by rwa [getD_set_ne false (by decide)] at h), fun h => k9 (by rwa [getD_set_ne false (by decide)] at h), fun _ => ⟨nb, rfl, e2, o2, by rw [if_pos hs8]; exact r2⟩⟩, b2, fun _ => by rw [getD_set_ne false (by decide)]; exact n7, by simpa using sz⟩
      | 9, _ =>
        cases h0
        have n6 : s.getD 6 false = true := hpre ⟨6, .data⟩ (by simp) rfl
        have x6 := k6 n6
        subst x6
        refine wpOp_new rfl rfl (v := .bool bb) (w' := w1) (by simp [go_sem, fr5, hrow]) ?_
        exact ⟨⟨v7, .bool bb, v17, v18, v19, v20, v21, v22, .bool bb, rfl, fun h => k0 (by rwa [getD_set_ne false (by decide)] at h), fun h => k1 (by rwa [getD_set_ne false (by decide)] at h), fun h => k2 (by rwa [getD_set_ne false (by decide)] at h), fun h => k3 (by rwa [getD_set_ne false (by decide)] at h), fun h => k4 (by rwa [getD_set_ne false (by decide)] at h), fun h => k5 (by rwa [getD_set_ne false (by decide)] at h), fun h => k6 (by rwa [getD_set_ne false (by decide)] at h), fun _ => rfl, (fun h => by
            rw [getD_set_ne false (by decide)] at h
            obtain ⟨nb, e1, e2, e3, e4⟩ := k7 h
            exact ⟨nb, e1, e2, e3, by rw [getD_set_ne false (by decide)]; exact e4⟩)⟩, hb, fun h => by rw [getD_set_ne false (by decide)] at h ⊢; exact k8 h, by simpa using sz⟩
    case hend =>
      intro s a w1 hr hI
      obtain ⟨⟨v7, v8, v17, v18, v19, v20, v21, v22, v23, rfl, k0, k1, k2, k3, k4, k5, k6, k9, k7⟩, hb, k8, sz⟩ := hI
      have hall := all_done sz (by kernel_rfl) hr
      obtain rfl := k0 (hall 0 (by decide))
      obtain rfl := k1 (hall 1 (by decide))
      obtain rfl := k2 (hall 2 (by decide))
      obtain rfl := k3 (hall 3 (by decide))
      obtain rfl := k4 (hall 4 (by decide))
      obtain rfl := k5 (hall 5 (by decide))
      obtain rfl := k6 (hall 6 (by decide))
      obtain rfl := k9 (hall 9 (by decide))
      obtain ⟨nb, rfl, e2, e3, e4⟩ := k7 (hall 7 (by decide))
      rw [if_pos (hall 8 (by decide))] at e4
      clear hall k0 k1 k2 k3 k4 k5 k6 k9 k7 k8 sz hr HF_ HAT_
      dsimp only [fr5]
      have bT := (hb.block _ bR1.lt).trans bR1
      have bTr := (show CellsAt w1 (w.heap.size + 1) (cha zeroCh) 49 from bT).row
      have bTo := (show CellsAt w1 (w.heap.size + 1) (cha zeroCh) 49 from bT).own
      go_wp2
      obtain ⟨w3, hE, q3, o3, b3⟩ := setb (w0 := w) (b := w.heap.size + 1) (B := cha ⟨x, bb⟩) (by omega) bTr bTo (by simp) (HB1_.out.trans (hb.mono HB1_.out.size))
      have hK3 : w3.heap[D]? = some (Obj.deferred (some [])) := by
        rw [← hE, setRow_other _ _ _ _ (by omega)]
        exact (hb.block _ (by have := (Array.getElem?_eq_some_iff.1 HK_.out).1; exact this)).trans HK_.out
      rw [hE]
      refine ⟨by simp, .inl ⟨_, _, rfl, run_takeDeferred hK3, ?_⟩⟩
      have r5 : row? (w3.putObj D (.deferred none)) (w.heap.size + 1) = cha ⟨x, bb⟩ := (row_of_block (World.putObj_heap_other (by omega))).trans q3
      refine ⟨.agg (cha ⟨x, bb⟩), results_c1 rfl rfl (by go_simp), by rw [HPB_.out], b3.trans (belowK_b (Nat.le_refl _) w3 D _ _ (by omega) hK3 rfl rfl)⟩
end Go.Proofs.Ytcjbopobgpfjlaa
