/-
  What a book is where a sender is set, or is new; the walk of Fresh. No condition.
-/
import Derived.Test.YtoblgdjjpbnemaaSqC
import Derived.Deep.DeepCutAuto
namespace Go.Proofs.Ytoblgdjjpbnemaa
open Go.RowKit

def zeroS : Sd := ⟨fun _ => 0, zeroH⟩
def setE (l : List SE) (p : Prt) (s : Sd) : List SE := l.map fun x => if x.p = p then ⟨x.p, s, x.g⟩ else x
theorem setE_ks (l : List SE) (p : Prt) (s : Sd) : ksOf (setE l p s) = ksOf l := by
  unfold ksOf setE
  rw [List.map_map]
  apply List.map_congr_left
  intro x _
  show ((if x.p = p then (⟨x.p, s, x.g⟩ : SE) else x).p, (if x.p = p then (⟨x.p, s, x.g⟩ : SE) else x).g) = (x.p, x.g)
  split <;> rfl
theorem setE_ps (l : List SE) (p : Prt) (s : Sd) : (setE l p s).map (·.p) = l.map (·.p) := by
  have h := congrArg (List.map (·.1)) (setE_ks l p s)
  simpa [ksOf, Function.comp_def] using h
theorem setE_len (l : List SE) (p : Prt) (s : Sd) : (setE l p s).length = l.length := by simp [setE]
theorem setE_mem {l : List SE} {p : Prt} {s : Sd} {y : SE} (h : y ∈ setE l p s) : ∃ x ∈ l, x.g = y.g ∧ x.p = y.p ∧ ((x.p = p ∧ y.s = s) ∨ (x.p ≠ p ∧ y = x)) := by
  obtain ⟨x, hx, rfl⟩ := List.mem_map.1 h
  refine ⟨x, hx, ?_⟩
  by_cases e : x.p = p
  · simp [e]
  · simp [e]
theorem nd_eq : ∀ {l : List SE}, (l.map (·.p)).Nodup → ∀ x ∈ l, ∀ y ∈ l, x.p = y.p → x = y
  | [], _, x, hx, _, _, _ => absurd hx (by simp)
  | a :: l, h, x, hx, y, hy, e => by
    rw [List.map_cons, List.nodup_cons] at h
    rcases List.mem_cons.1 hx with rfl | hx'
    · rcases List.mem_cons.1 hy with rfl | hy'
      · rfl
      · exact absurd (List.mem_map.2 ⟨y, hy', e.symm⟩) h.1
    · rcases List.mem_cons.1 hy with rfl | hy'
      · exact absurd (List.mem_map.2 ⟨x, hx', e⟩) h.1
      · exact nd_eq h.2 x hx' y hy' e
section
variable {w w' : World} {b m : Nat} {pb : PB}
/-- A sender is set. -/
theorem BkW.store (h : BkW w b m pb) {e : SE} (he : e ∈ pb.l) {s : Sd} (hc : Chg (· = e.g) w w') (hr : row? w' e.g = sd s) (ho : own? w' e.g = true) : BkW w' b m ⟨pb.nx, setE pb.l e.p s⟩ ∧ Stq b m pb.l w (setE pb.l e.p s) w' := by
  obtain ⟨es, c, hm, hk⟩ := h.map
  have hb : ¬ b = e.g := fun x => h.ngb he x.symm
  have hmm : ¬ m = e.g := fun x => h.ngm he x.symm
  refine ⟨⟨(hc.row h.ltb hb).trans h.row, (hc.own h.ltb hb).trans h.own, ⟨es, c, (hc.block m h.ltm hmm).trans hm, ?_⟩, fun y hy => ?_, fun x hx y hy hg => ?_, ?_⟩, ⟨hc.mono (fun k _ hk => by subst hk; exact .inr (.inr ⟨e, he, rfl⟩)), fun x hx => ?_⟩⟩
  · show Ents _ (ksOf (setE pb.l e.p s))
    rw [setE_ks]
    exact hk
  · obtain ⟨x, hx, hg, hp, h1⟩ := setE_mem hy
    rcases h1 with ⟨h1, h2⟩ | ⟨h1, rfl⟩
    · have hxe := nd_eq h.nd x hx e he h1
      rw [← hg, hxe, h2]
      exact ⟨hr, ho⟩
    · have hne : ¬ y.g = e.g := fun e2 => h1 (h.inj y hx e he e2)
      exact ⟨(hc.row (h.lts hx) hne).trans (h.snd y hx).1, (hc.own (h.lts hx) hne).trans (h.snd y hx).2⟩
  · obtain ⟨x0, hx0, hg0, hp0, _⟩ := setE_mem hx
    obtain ⟨y0, hy0, hg1, hp1, _⟩ := setE_mem hy
    rw [← hp0, ← hp1]
    exact h.inj x0 hx0 y0 hy0 (by rw [hg0, hg1]; exact hg)
  · show ((setE pb.l e.p s).map (·.p)).Nodup
    rw [setE_ps]
    exact h.nd
  · obtain ⟨x0, hx0, hg0, _⟩ := setE_mem hx
    exact .inr ⟨x0, hx0, hg0⟩
/-- A sender is new. -/
theorem BkW.add (h : BkW w b m pb) {p : Prt} {s : Sd} {g : Nat} (hp : ∀ x ∈ pb.l, x.p ≠ p) (hg : own? w g = true) (hgr : row? w g = sd s) (hgn : ¬ InB b m pb.l g) {es : Array MapEntry} {c : Nat} (hk : Ents es.toList (ksOf (pb.l ++ [⟨p, s, g⟩]))) : BkW (setMap w m es c) b m ⟨pb.nx, pb.l ++ [⟨p, s, g⟩]⟩ := by
  have hc := chg_setMap w m es c
  have hgm : ¬ g = m := fun e => hgn (.inr (.inl e))
  have hall : ∀ x ∈ pb.l ++ [⟨p, s, g⟩], row? w x.g = sd x.s ∧ own? w x.g = true ∧ x.g ≠ m := fun x hx => by
    rcases List.mem_append.1 hx with h1 | h1
    · exact ⟨(h.snd x h1).1, (h.snd x h1).2, h.ngm h1⟩
    · rw [List.mem_singleton.1 h1]
      exact ⟨hgr, hg, hgm⟩
  refine ⟨(hc.row h.ltb h.nbm).trans h.row, (hc.own h.ltb h.nbm).trans h.own, ⟨es, c, heap_setMap h.ltm es c, hk⟩, fun x hx => ?_, fun x hx y hy e => ?_, ?_⟩
  · obtain ⟨h1, h2, h3⟩ := hall x hx
    exact ⟨(hc.row (own_lt h2) h3).trans h1, (hc.own (own_lt h2) h3).trans h2⟩
  · rcases List.mem_append.1 hx with h1 | h1
    · rcases List.mem_append.1 hy with h2 | h2
      · exact h.inj x h1 y h2 e
      · rw [List.mem_singleton.1 h2] at e
        exact absurd (.inr (.inr ⟨x, h1, e⟩)) hgn
    · rcases List.mem_append.1 hy with h2 | h2
      · rw [List.mem_singleton.1 h1] at e
        exact absurd (.inr (.inr ⟨y, h2, e.symm⟩)) hgn
      · rw [List.mem_singleton.1 h1, List.mem_singleton.1 h2]
  · show ((pb.l ++ [(⟨p, s, g⟩ : SE)]).map (·.p)).Nodup
    rw [List.map_append, List.nodup_append]
    refine ⟨h.nd, by simp, fun a ha b' hb => ?_⟩
    obtain ⟨x, hx, rfl⟩ := List.mem_map.1 ha
    rw [show b' = p by simpa using hb]
    exact hp x hx
end
theorem getE_none' {l : List SE} {p : Prt} (h : getE l p = none) : ∀ x ∈ l, x.p ≠ p := fun x hx => by simpa using List.find?_eq_none.1 h x hx
theorem lookV_eq (o : Option SE) : lookV o = .tuple #[.pointer (o.map fun e => ⟨e.g, 0, none⟩), .bool o.isSome] := by cases o <;> rfl
theorem agg72 (w : World) : (isAgg 72).run Try.prog w = .ok true w := by kernel_rfl
theorem siz72 (w : World) : (sizeOf 72).run Try.prog w = .ok 21 w := by kernel_rfl
@[go_sem] theorem bldSd (w : World) : (bld 72 #[]).run Try.prog w = .ok (.agg (sd zeroS)) w := run_bld w (by kernel_rfl)
theorem len_m {w : World} {b m : Nat} {pb : PB} (h : BkW w b m pb) : (Builtin.len_ #[55] 3 #[.map (some m)]).run Try.prog w = .ok (.int .i64 pb.l.length) w := by
  obtain ⟨es, c, hm, he⟩ := h.map
  unfold Builtin.len_
  simp [Sem.run_bind, run_underlying Try.underlying55, Go.MapKept.run_getObj_map hm, he.len, ksOf, goInt]
/-- Is the number behind the one that was? -/
def blockB (s : Sd) (k : Nat) (q : Int) : Bool := decide (0 ≤ s.last k - 1) && !behB q (s.last k - 1)
def putB (nx : Nat → Int) (l : List SE) (p : Prt) (s : Sd) (k : Nat) (q : Int) : PB := ⟨nx, setE l p ⟨upd s.last k (q + 1), s.h⟩⟩
def freshB (pb : PB) (p : Prt) (k q : Int) (g : Nat) : PB × Bool :=
  if (kindB k && rightB q) = true then
    match getE pb.l p with
    | some e => if blockB e.s k.toNat q = true then (pb, false) else (putB pb.nx pb.l p e.s k.toNat q, true)
    | none => if 16 ≤ pb.l.length then (pb, false) else (putB pb.nx (pb.l ++ [⟨p, zeroS, g⟩]) p zeroS k.toNat q, true)
  else (pb, false)
/-- Behind the switch of Fresh. -/
structure MidF (w : World) (b m : Nat) (pb : PB) (p : Prt) (k q : Int) (v9 : Value) (wr : World) : Prop where
  kb : kindB k = true
  rb : rightB q = true
  ex : ∃ l' e, v9 = .pointer (some ⟨e.g, 0, none⟩) ∧ e ∈ l' ∧ e.p = p ∧ BkW wr b m ⟨pb.nx, l'⟩ ∧ Stq b m pb.l w l' wr ∧ ((getE pb.l p = some e ∧ l' = pb.l) ∨ (getE pb.l p = none ∧ pb.l.length < 16 ∧ ∃ g, e = ⟨p, zeroS, g⟩ ∧ l' = pb.l ++ [e]))
set_option maxRecDepth 100000 in
set_option maxHeartbeats 4000000 in
theorem fresh_c {w : World} {b m : Nat} {pb : PB} (p : Prt) (k q : Int) (h : BkW w b m pb) (hok : pb.Ok) : Calls Try.prog 14 #[.pointer (some ⟨b, 0, none⟩), .agg (pa p), .int .i64 k, .int .i64 q] w fun e w' => ∃ g, e = .returned (.bool (freshB pb p k q g).2) ∧ BkW w' b m (freshB pb p k q g).1 ∧ Stq b m pb.l w (freshB pb p k q g).1.l w' := by
  have hlong := fun w => long_fn k w
  have hright := fun w => right_fn q w
  have hkl := kindB_long k
  generalize longK k = ln at *
  have H_ := hid h
  clear h
  have HOK_ := hid hok
  clear hok
  have HLONG_ := hid hlong
  clear hlong
  have HRIGHT_ := hid hright
  clear hright
  go_enter Try.func14, Try.ntmps14
  go_upto_region 1 with (fail)
  obtain ⟨W1, hW1⟩ : ∃ W1, w.alloc (.cells (pa p) 35) = W1 := ⟨_, rfl⟩
  have b1 : Below w.heap.size w W1 := by rw [← hW1]; exact (Below.refl _ _).alloc (Nat.le_refl _) _
  have r5 : row? W1 w.heap.size = pa p := by rw [← hW1]; simp [row_alloc, rowOf]
  have o5 : own? W1 w.heap.size = true := by rw [← hW1]; simp [own_alloc, ownOf]
  rw [hW1]
  clear hW1
  have h1 := H_.out.below b1
  have kb := gr_row h1.row h1.ltb
  have k5 := gr_row r5 (own_lt o5)
  have lk := h1.look p
  rw [lookV_eq] at lk
  obtain ⟨d8, hd8⟩ : ∃ d, W1 = gr W1 d := ⟨W1, gr_self W1⟩
  rw [hd8]
  clear hd8
  have B1_ := hid b1
  clear b1
  have H1_ := hid h1
  clear h1
  have R5_ := hid r5
  clear r5
  have O5_ := hid o5
  clear o5
  refine wp_region_gr W1 (by kernel_rfl) (by kernel_rfl) ⟨_, rfl⟩ ?_
  repeat (go_big_quiet_step (fail))
  refine wpQuiet_nil ?_
  rintro _ ⟨y, rfl⟩
  have h2 := H1_.out.below (gr_below W1 y)
  have b2 := B1_.out.trans ((gr_below W1 y).mono B1_.out.size)
  have r2 := k5 y
  have o2 := (own_of_block ((gr_below W1 y).block _ (own_lt O5_.out))).trans O5_.out
  clear kb k5 lk H1_ B1_ R5_ O5_
  generalize gr W1 y = w2 at *
  clear W1
  have H2_ := hid h2
  clear h2
  have B2_ := hid b2
  clear b2
  have O2_ := hid o2
  clear o2
  go_upto_block 0 with (fail)
  go_cut [9, 10] (fun v9 _ wr => MidF w b m pb p k q v9 wr)
  case first =>
    cases hk : kindB k with
    | false =>
      rw [hk] at hkl
      have hfr : ∀ g, freshB pb p k q g = (pb, false) := fun g => by unfold freshB; rw [hk, Bool.false_and, if_neg (by simp)]
      clear hk
      have HFR_ := hid hfr
      clear hfr
      go_wp2_with fail
      refine (HLONG_.out w2).mono ?_
      rintro e w3 ⟨rfl, b3⟩
      dsimp only
      have hb3 := B2_.out.trans (b3.mono B2_.out.size)
      clear HLONG_ HRIGHT_ b3
      have HB3_ := hid hb3
      clear hb3
      go_wp2
      go_ret
      exact ⟨0, by rw [HFR_.out]; rfl, by rw [HFR_.out]; exact H_.out.below HB3_.out, by rw [HFR_.out]; exact .below HB3_.out⟩
    | true =>
      rw [hk] at hkl
      cases hr : rightB q with
      | false =>
        have hfr : ∀ g, freshB pb p k q g = (pb, false) := fun g => by unfold freshB; rw [hk, hr, Bool.and_false, if_neg (by simp)]
        clear hk
        have HFR_ := hid hfr
        clear hfr
        go_wp2_with fail
        refine (HLONG_.out w2).mono ?_
        rintro e w3 ⟨rfl, b3⟩
        dsimp only
        have hb3 := B2_.out.trans (b3.mono B2_.out.size)
        clear HLONG_ b3
        have HB3_ := hid hb3
        clear hb3
        go_wp2_with fail
        refine (HRIGHT_.out w3).mono ?_
        rintro e w4 ⟨rfl, b4⟩
        dsimp only
        rw [hr]
        have hb4 := HB3_.out.trans (b4.mono HB3_.out.size)
        clear HRIGHT_ b4
        have HB4_ := hid hb4
        clear hb4
        go_wp2
        go_ret
        exact ⟨0, by rw [HFR_.out]; rfl, by rw [HFR_.out]; exact H_.out.below HB4_.out, by rw [HFR_.out]; exact .below HB4_.out⟩
      | true =>
        go_wp2_with fail
        refine (HLONG_.out w2).mono ?_
        rintro e w3 ⟨rfl, b3⟩
        dsimp only
        go_wp2_with fail
        refine (HRIGHT_.out w3).mono ?_
        rintro e w4 ⟨rfl, b4⟩
        dsimp only
        rw [hr]
        have b24 : Below w2.heap.size w2 w4 := b3.trans (b4.mono b3.size)
        have h4 := H2_.out.below b24
        have hb4 := B2_.out.trans (b24.mono B2_.out.size)
        have r4 : row? w4 w.heap.size = pa p := (row_of_block (b24.block _ (own_lt O2_.out))).trans r2
        have o4 : own? w4 w.heap.size = true := (own_of_block (b24.block _ (own_lt O2_.out))).trans O2_.out
        clear b3 b4 b24 HRIGHT_ HLONG_ H2_ B2_ r2 O2_ hkl
        clear w2 w3
        have hrow := h4.row
        have hlen := len_m h4
        have H4_ := hid h4
        clear h4
        have HB4_ := hid hb4
        clear hb4
        have O4_ := hid o4
        clear o4
        have HR_ := hid hr
        clear hr
        have HK_ := hid hk
        clear hk
        by_cases hfull : getE pb.l p = none ∧ 16 ≤ pb.l.length
        · obtain ⟨hg, hl⟩ := hfull
          have hfr : ∀ g, freshB pb p k q g = (pb, false) := fun g => by unfold freshB; rw [HK_.out, HR_.out, Bool.and_self, if_pos rfl, hg]; exact if_pos hl
          rw [hg]
          have hl' : (16 : Int) ≤ (pb.l.length : Int) := by omega
          clear hg hl
          have HFR_ := hid hfr
          clear hfr
          go_wp2
          go_ret
          exact ⟨0, by rw [HFR_.out]; rfl, by rw [HFR_.out]; exact H_.out.below HB4_.out, by rw [HFR_.out]; exact .below HB4_.out⟩
        · cases hg : getE pb.l p with
          | none =>
            have hlt : pb.l.length < 16 := by
              rw [hg] at hfull
              have : ¬ 16 ≤ pb.l.length := fun h => hfull ⟨rfl, h⟩
              omega
            have hlt' : ¬ (16 : Int) ≤ (pb.l.length : Int) := by omega
            clear hfull
            have HG_ := hid hg
            clear hg
            have HLT_ := hid hlt
            clear hlt
            go_upto_region 8 with (fail)
            obtain ⟨w5, hE⟩ : ∃ w5, w4.alloc (.cells (sd zeroS) 72) = w5 := ⟨_, rfl⟩
            have b5 : Below w4.heap.size w4 w5 := by rw [← hE]; exact (Below.refl _ _).alloc (Nat.le_refl _) _
            have rg : row? w5 w4.heap.size = sd zeroS := by rw [← hE]; simp [row_alloc, rowOf]
            have og : own? w5 w4.heap.size = true := by rw [← hE]; simp [own_alloc, ownOf]
            rw [hE]
            clear hE
            have h5 := H4_.out.below b5
            have hn5 : ¬ InB b m pb.l w4.heap.size := fun e => by have := H4_.out.lt e; omega
            have hb5 := HB4_.out.trans (b5.mono HB4_.out.size)
            have r5 : row? w5 w.heap.size = pa p := (row_of_block (b5.block _ (own_lt O4_.out))).trans r4
            have hg4 : w.heap.size ≤ w4.heap.size := HB4_.out.size
            have kb := gr_row h5.row h5.ltb
            have k5 := gr_row r5 (Nat.lt_of_lt_of_le (own_lt O4_.out) b5.size)
            have kg := gr_row rg (own_lt og)
            have kog := gr_own og
            have l5 := own_lt og
            clear hrow hlen r4 O4_ H4_ HB4_ b5 r5 rg og
            generalize w4.heap.size = g at *
            clear w4
            obtain ⟨d9, hd9⟩ : ∃ d, w5 = gr w5 d := ⟨w5, gr_self w5⟩
            rw [hd9]
            clear hd9
            have H5_ := hid h5
            clear h5
            have HB5_ := hid hb5
            clear hb5
            have KG_ := hid kg
            clear kg
            have KOG_ := hid kog
            clear kog
            have HN5_ := hid hn5
            clear hn5
            have HG4_ := hid hg4
            clear hg4
            have L5_ := hid l5
            clear l5
            refine wp_region_gr_tail w5 6 (by kernel_rfl) (by kernel_rfl) ⟨_, rfl⟩ ?_
            simp only [List.take_succ_cons, List.take_zero, List.drop_succ_cons, List.drop_zero]
            repeat (go_big_quiet_step (fail))
            refine wpQuiet_nil ?_
            rintro _ ⟨z, rfl⟩
            have h6 := H5_.out.below (gr_below w5 z)
            have hb6 := HB5_.out.trans ((gr_below w5 z).mono HB5_.out.size)
            have rg6 := KG_.out z
            have og6 := KOG_.out z
            clear kb k5 KG_ KOG_ H5_ HB5_ L5_
            generalize gr w5 z = w6 at *
            clear w5
            obtain ⟨es, cl, hm6, hk6⟩ := h6.map
            have hput := run_putP p g hm6 hk6 (getE_none HG_.out)
            have hadd := h6.add (es := es.push { key := .agg (pa p), val := .pointer (some ⟨g, 0, none⟩), born := cl }) (c := cl + 1) (p := p) (s := zeroS) (getE_none' HG_.out) og6 rg6 HN5_.out (by
              have := hk6.push p g cl
              simpa [ksOf] using this)
            have hcm := chg_setMap w6 m (es.push { key := .agg (pa p), val := .pointer (some ⟨g, 0, none⟩), born := cl }) (cl + 1)
            generalize setMap w6 m (es.push { key := .agg (pa p), val := .pointer (some ⟨g, 0, none⟩), born := cl }) (cl + 1) = w7 at *
            clear hm6 hk6 rg6 og6 h6 HN5_
            have HADD_ := hid hadd
            clear hadd
            have HCM_ := hid hcm
            clear hcm
            have HB6_ := hid hb6
            clear hb6
            go_wp2
            go_meet
            case rel =>
              refine ⟨HK_.out, HR_.out, pb.l ++ [⟨p, zeroS, g⟩], ⟨p, zeroS, g⟩, rfl, by simp, rfl, HADD_.out, ⟨(Chg.of_below HB6_.out).trans' (HCM_.out.mono (fun k _ hk => .inr (.inl hk))), fun x hx => ?_⟩, .inr ⟨HG_.out, HLT_.out, g, rfl, rfl⟩⟩
              rcases List.mem_append.1 hx with h1 | h1
              · exact .inr ⟨x, h1, rfl⟩
              · rw [List.mem_singleton.1 h1]
                exact .inl HG4_.out
          | some e =>
            obtain ⟨he, hp⟩ := getE_some hg
            have HG_ := hid hg
            clear hg
            have HE_ := hid he
            clear he
            have HP_ := hid hp
            clear hp
            clear hfull hlen
            go_wp2
            go_meet
            case rel =>
              exact ⟨HK_.out, HR_.out, pb.l, e, rfl, HE_.out, HP_.out, H4_.out, .below HB4_.out, .inl ⟨HG_.out, rfl⟩⟩
  case rest =>
    obtain ⟨hk, hr, l', e, rfl, he, hp, hB, hS, hor⟩ := hcut
    obtain ⟨j, rfl, hj⟩ := kindB_nat hk
    clear H2_ B2_ r2 O2_ hkl HLONG_ HRIGHT_
    obtain ⟨hrow9, how9⟩ := hB.snd e he
    have hlo : 0 ≤ e.s.last j ∧ e.s.last j ≤ 65536 := by
      rcases hor with ⟨h1, _⟩ | ⟨_, _, g, rfl, _⟩
      · exact HOK_.out.last e (getE_some h1).1 j
      · exact ⟨Int.le_refl 0, by show (0 : Int) ≤ 65536; omega⟩
    have hw1 : wrap64 (e.s.last j - 1) = e.s.last j - 1 := by unfold wrap64; omega
    have hat := sd_at e.s hj
    have hget : (sd e.s)[j]? = some (.int .i64 (e.s.last j)) := by rw [sd_get, if_pos hj]
    have hj0 : ¬ (j : Int) < 0 := by omega
    have hj1 : (j : Int) < 16 := by omega
    have hj2 : ¬ (16 : Int) ≤ (j : Int) := by omega
    have hset := fun v => sd_set e.s j hj v
    have hqr := of_decide_eq_true hr
    have hj3 : j < 21 := by omega
    have hw2 : wrap64 (q + 1) = q + 1 := by unfold wrap64; omega
    have hbl : blockB e.s j q = (decide (0 ≤ e.s.last j - 1) && !behB q (e.s.last j - 1)) := rfl
    have hbeh : 0 ≤ e.s.last j - 1 → ∀ w, Calls Try.prog 26 #[.int .i64 q, .int .i64 (e.s.last j - 1)] w fun e' w' => e' = .returned (.bool (behB q (e.s.last j - 1))) ∧ Below w.heap.size w w' := fun h0 => behind_fn q (e.s.last j - 1) hqr ⟨h0, by omega⟩
    have hset := fun v => sd_set e.s j hj v
    generalize hla : e.s.last j = la at *
    by_cases h0 : 0 ≤ la - 1
    · have hbeh := hbeh h0
      rw [decide_eq_true h0, Bool.true_and] at hbl
      cases hbq : behB q (la - 1) with
      | false =>
        rw [hbq] at hbl hbeh
        have hblk : blockB e.s j q = true := hbl
        clear hbl
        have HE_ := hid he
        clear he
        have HP_ := hid hp
        clear hp
        have HB_ := hid hB
        clear hB
        have HS_ := hid hS
        clear hS
        have HOR_ := hid hor
        clear hor
        have HBEH_ := hid hbeh
        clear hbeh
        have HROW9_ := hid hrow9
        clear hrow9
        have HOW9_ := hid how9
        clear how9
        have HK_ := hid hk
        clear hk
        have HR_ := hid hr
        clear hr
        have HBLK_ := hid hblk
        clear hblk
        have HBQ_ := hid hbq
        clear hbq
        have HSET_ := hid hset
        clear hset
        have HLA_ := hid hla
        clear hla
        have HQR_ := hid hqr
        clear hqr
        have HLO_ := hid hlo
        clear hlo
        have hrow9 := HROW9_.out
        go_wp2_with fail
        refine (HBEH_.out wc).mono ?_
        rintro e' w3 ⟨rfl, b3⟩
        dsimp only
        clear HBEH_ hrow9
        have B3_ := hid b3
        clear b3
        go_wp2
        go_ret
        rcases HOR_.out with ⟨h1, h2⟩ | ⟨h1, h2, g, h3, h4⟩
        · have hfr : freshB pb p j q 0 = (pb, false) := by unfold freshB; rw [HK_.out, HR_.out, Bool.and_self, if_pos rfl, h1]; exact if_pos (by rw [Int.toNat_natCast]; exact HBLK_.out)
          have hb := HB_.out.below B3_.out
          have hs := HS_.out.trans (.below B3_.out)
          rw [h2] at hb hs
          exact ⟨0, by rw [hfr]; rfl, by rw [hfr]; exact hb, by rw [hfr]; exact hs⟩
        · have := HLA_.out
          rw [h3] at this
          have : (0 : Int) = la := this
          omega
      | true =>
        rw [hbq] at hbl hbeh
        have hblk : blockB e.s j q = false := hbl
        clear hbl
        have HE_ := hid he
        clear he
        have HP_ := hid hp
        clear hp
        have HB_ := hid hB
        clear hB
        have HS_ := hid hS
        clear hS
        have HOR_ := hid hor
        clear hor
        have HBEH_ := hid hbeh
        clear hbeh
        have HROW9_ := hid hrow9
        clear hrow9
        have HOW9_ := hid how9
        clear how9
        have HK_ := hid hk
        clear hk
        have HR_ := hid hr
        clear hr
        have HBLK_ := hid hblk
        clear hblk
        have HBQ_ := hid hbq
        clear hbq
        have HSET_ := hid hset
        clear hset
        have HLA_ := hid hla
        clear hla
        have HQR_ := hid hqr
        clear hqr
        have HLO_ := hid hlo
        clear hlo
        have hrow9 := HROW9_.out
        go_wp2_with fail
        refine (HBEH_.out wc).mono ?_
        rintro e' w3 ⟨rfl, b3⟩
        dsimp only
        clear HBEH_ hrow9
        have hB := HB_.out.below b3
        obtain ⟨hrow9, how9⟩ := hB.snd e HE_.out
        have hS := HS_.out.trans (.below b3)
        clear HB_ HS_ HROW9_ HOW9_ b3
        have hrow := hrow9
        have how := how9
        generalize w3 = wc at *
        have HB_ := hid hB
        clear hB
        have HS_ := hid hS
        clear hS
        have HROW9_ := hid hrow9
        clear hrow9
        have HOW9_ := hid how9
        clear how9
        go_wp2
        go_ret
        have hc : Chg (· = e.g) wc (wc.setCell ⟨e.g, j, none⟩ (.int .i64 (q + 1))) := (Chg.refl (· = e.g) wc).setCell (p := ⟨e.g, j, none⟩) (.inr rfl) _
        obtain ⟨k1, k2⟩ := HB_.out.store HE_.out (s := ⟨upd e.s.last j (q + 1), e.s.h⟩) hc (by rw [row_setCell, if_pos rfl, HROW9_.out, sd_set e.s j hj]) (by rw [own_setCell]; exact HOW9_.out)
        rw [HP_.out] at k1 k2
        generalize wc.setCell ⟨e.g, j, none⟩ (.int .i64 (q + 1)) = wn at k1 k2 ⊢
        have hS' := HS_.out
        rcases HOR_.out with ⟨h1, h2⟩ | ⟨h1, h2, g, h3, h4⟩
        · rw [h2] at k1 k2 hS'
          have hfr : freshB pb p j q 0 = (putB pb.nx pb.l p e.s j q, true) := by unfold freshB; rw [HK_.out, HR_.out, Bool.and_self, if_pos rfl, h1]; exact if_neg (by rw [Int.toNat_natCast, HBLK_.out]; simp)
          exact ⟨0, by rw [hfr]; rfl, by rw [hfr]; exact k1, by rw [hfr]; exact hS'.trans k2⟩
        · have hfr : freshB pb p j q g = (putB pb.nx (pb.l ++ [⟨p, zeroS, g⟩]) p zeroS j q, true) := by unfold freshB; rw [HK_.out, HR_.out, Bool.and_self, if_pos rfl, h1]; exact if_neg (by omega)
          have e1 : e.s = zeroS := by rw [h3]
          rw [h4, e1] at k1 k2
          rw [h3] at k1 k2
          rw [h4, h3] at hS'
          exact ⟨g, by rw [hfr]; rfl, by rw [hfr]; exact k1, by rw [hfr]; exact hS'.trans k2⟩
    · have hbl' : blockB e.s j q = false := by rw [hbl, decide_eq_false h0, Bool.false_and]
      clear hbl hbeh
      have hblk := hbl'
      clear hbl'
      have HE_ := hid he
      clear he
      have HP_ := hid hp
      clear hp
      have HB_ := hid hB
      clear hB
      have HS_ := hid hS
      clear hS
      have HOR_ := hid hor
      clear hor
      have HK_ := hid hk
      clear hk
      have HR_ := hid hr
      clear hr
      have HBLK_ := hid hblk
      clear hblk
      have HSET_ := hid hset
      clear hset
      have HLA_ := hid hla
      clear hla
      have HQR_ := hid hqr
      clear hqr
      have HLO_ := hid hlo
      clear hlo
      have hrow := hrow9
      have how := how9
      have HROW9_ := hid hrow9
      clear hrow9
      have HOW9_ := hid how9
      clear how9
      go_wp2
      go_ret
      have hc : Chg (· = e.g) wc (wc.setCell ⟨e.g, j, none⟩ (.int .i64 (q + 1))) := (Chg.refl (· = e.g) wc).setCell (p := ⟨e.g, j, none⟩) (.inr rfl) _
      obtain ⟨k1, k2⟩ := HB_.out.store HE_.out (s := ⟨upd e.s.last j (q + 1), e.s.h⟩) hc (by rw [row_setCell, if_pos rfl, HROW9_.out, sd_set e.s j hj]) (by rw [own_setCell]; exact HOW9_.out)
      rw [HP_.out] at k1 k2
      generalize wc.setCell ⟨e.g, j, none⟩ (.int .i64 (q + 1)) = wn at k1 k2 ⊢
      have hS' := HS_.out
      rcases HOR_.out with ⟨h1, h2⟩ | ⟨h1, h2, g, h3, h4⟩
      · rw [h2] at k1 k2 hS'
        have hfr : freshB pb p j q 0 = (putB pb.nx pb.l p e.s j q, true) := by unfold freshB; rw [HK_.out, HR_.out, Bool.and_self, if_pos rfl, h1]; exact if_neg (by rw [Int.toNat_natCast, HBLK_.out]; simp)
        exact ⟨0, by rw [hfr]; rfl, by rw [hfr]; exact k1, by rw [hfr]; exact hS'.trans k2⟩
      · have hfr : freshB pb p j q g = (putB pb.nx (pb.l ++ [⟨p, zeroS, g⟩]) p zeroS j q, true) := by unfold freshB; rw [HK_.out, HR_.out, Bool.and_self, if_pos rfl, h1]; exact if_neg (by omega)
        have e1 : e.s = zeroS := by rw [h3]
        rw [h4, e1] at k1 k2
        rw [h3] at k1 k2
        rw [h4, h3] at hS'
        exact ⟨g, by rw [hfr]; rfl, by rw [hfr]; exact k1, by rw [hfr]; exact hS'.trans k2⟩
theorem putB_ok {nx : Nat → Int} {l : List SE} {p : Prt} {s : Sd} {k : Nat} {q : Int} (h1 : ∀ k, 0 ≤ nx k ∧ nx k ≤ 65535) (h2 : ∀ x ∈ l, ∀ k, 0 ≤ x.s.last k ∧ x.s.last k ≤ 65536) (h3 : l.length ≤ 16) (hs : ∀ k, 0 ≤ s.last k ∧ s.last k ≤ 65536) (hq : rightB q = true) : (putB nx l p s k q).Ok := by
  have hq' := of_decide_eq_true hq
  refine ⟨h1, fun y hy j => ?_, by show (setE l p _).length ≤ 16; rw [setE_len]; exact h3⟩
  obtain ⟨x, hx, _, _, h4⟩ := setE_mem hy
  rcases h4 with ⟨_, h5⟩ | ⟨_, h5⟩
  · rw [h5]
    show 0 ≤ upd s.last k (q + 1) j ∧ upd s.last k (q + 1) j ≤ 65536
    unfold upd
    split
    · omega
    · exact hs j
  · rw [h5]
    exact h2 x hx j
theorem freshB_ok {pb : PB} (h : pb.Ok) (p : Prt) (k q : Int) (g : Nat) : (freshB pb p k q g).1.Ok := by
  unfold freshB
  split
  · rename_i hkq
    simp only [Bool.and_eq_true] at hkq
    cases hg : getE pb.l p with
    | none =>
      dsimp only
      split
      · exact h
      · refine putB_ok h.nx (fun x hx => ?_) (by simp; omega) (fun k => ⟨Int.le_refl 0, by show (0 : Int) ≤ 65536; omega⟩) hkq.2
        rcases List.mem_append.1 hx with h1 | h1
        · exact h.last x h1
        · rw [List.mem_singleton.1 h1]
          exact fun k => ⟨Int.le_refl 0, by show (0 : Int) ≤ 65536; omega⟩
    | some e =>
      dsimp only
      split
      · exact h
      · exact putB_ok h.nx h.last h.len (h.last e (getE_some hg).1) hkq.2
  · exact h
end Go.Proofs.Ytoblgdjjpbnemaa
