/-
  The walk of what copies an item. No condition.
-/
import Derived.Test.YtbdpnmocbpplbaaQuB
import Derived.Test.YtbdpnmocbpplbaaQuX
namespace Go.Proofs.Ytbdpnmocbpplbaa
open Go.RowKit Go.Conc

theorem NewB.kept {N : Nat} {w w' : World} {a : Option Addr} {bs : List Int} (h : NewB N w a bs) {S : Nat → Prop} (hc : Chg S w w') (hS : ∀ b, S b → b < N) : NewB N w' a bs := by
  obtain ⟨h1, h2⟩ := h
  rcases h2 with rfl | ⟨g, rfl, hg, ho⟩
  · exact ⟨h1.kept (by decide) hc (fun b e => by cases e), .inl rfl⟩
  · refine ⟨h1.kept (by decide) hc (fun b e hs => ?_), .inr ⟨g, rfl, hg, ?_⟩⟩
    · have : g = b := by simpa using e
      have := hS b hs
      omega
    · rw [hc.own (own_lt ho) (fun hs => by have := hS g hs; omega)]
      exact ho
theorem NewB.mono {N M : Nat} {w : World} {a : Option Addr} {bs : List Int} (h : NewB N w a bs) (hM : M ≤ N) : NewB M w a bs := by
  obtain ⟨h1, h2⟩ := h
  rcases h2 with h2 | ⟨g, e, hg, ho⟩
  · exact ⟨h1, .inl h2⟩
  · exact ⟨h1, .inr ⟨g, e, Nat.le_trans hM hg, ho⟩⟩
structure InvC (w : World) (x : Itm) (a : Option Addr) (c : Nat) (s : Array Bool) (ac : Act) (w1 : World) : Prop where
  ex : ∃ t3 t4 t5 t6 t7 t8 a' c', ac = { tmps := #[.agg (ic x.k a x.bs.length c), .pointer (some ⟨w.heap.size, 0, none⟩), .pointer (some ⟨w.heap.size + 1, 0, none⟩), t3, t4, t5, t6, t7, t8], defers := [] } ∧
    (s.getD 0 false = true → t3 = .pointer (some ⟨w.heap.size, 0, none⟩)) ∧ (s.getD 1 false = true → t4 = .int .i64 x.k) ∧ (s.getD 2 false = true → t5 = .pointer (some ⟨w.heap.size, 1, none⟩)) ∧ (s.getD 3 false = true → t6 = .slice a x.bs.length c) ∧
    (s.getD 4 false = true → t7 = .slice a' x.bs.length c' ∧ NewB (w.heap.size + 2) w1 a' x.bs) ∧ (s.getD 5 false = true → t8 = .agg (ic x.k a' x.bs.length c')) ∧
    row? w1 (w.heap.size + 1) = if s.getD 6 false = true then ic x.k a' x.bs.length c' else ic 0 none 0 0
  own : own? w1 (w.heap.size + 1) = true
  box : row? w1 w.heap.size = ic x.k a x.bs.length c
  below : Below w.heap.size w w1
  sz : s.size = 7
  k56 : s.getD 5 false = true → s.getD 4 false = true
  k66 : s.getD 6 false = true → s.getD 4 false = true
attribute [local go_sem] Oper.semAt_some
set_option maxRecDepth 100000 in
set_option maxHeartbeats 1000000 in
theorem copied_c (v : Value) (x : Itm) (hl : x.bs.length ≤ 140737488351232) (w : World) (h : ItmIn w v x) : Calls Try.prog 22 #[v] w fun e w' => ∃ v', e = .returned v' ∧ Below w.heap.size w w' ∧ NewI w.heap.size w' v' x := by
  obtain ⟨a, c, rfl, hr⟩ := h
  have HR_ := hid hr
  clear hr
  go_enter Try.func22, Try.ntmps22
  go_wp2_with fail
  refine cut_box2 fun W g1 _ g2 o2 hz hB => ?_
  refine wp_region_inv (by kernel_rfl) (InvC w x a c) ?h0 ?hstep ?hend
  case h0 => exact ⟨⟨undef, undef, undef, undef, undef, undef, none, 0, rfl, by simp, by simp, by simp, by simp, by simp, by simp, by rw [if_neg (by simp)]; exact g2 W⟩, o2 _, g1 _, (hB W).drew, by simp, by simp, by simp⟩
  case hstep =>
    intro s ac w1 i hi hI
    obtain ⟨h1, o, h0, hpre⟩ := mem_ready.1 hi
    have hlt : i < 7 := (Array.getElem?_eq_some_iff.1 h0).1
    obtain ⟨⟨t3, t4, t5, t6, t7, t8, a', c', rfl, k0, k1, k2, k3, k4, k5, kr⟩, ko, kb, hb, sz, k56, k66⟩ := hI
    match i, hlt with
    | 0, _ =>
      cases h0
      refine wpOp_new rfl rfl (v := .pointer (some ⟨w.heap.size, 0, none⟩)) (w' := w1) (by simp [go_sem, kb]) ?_
      exact ⟨⟨.pointer (some ⟨w.heap.size, 0, none⟩), t4, t5, t6, t7, t8, a', c', rfl, fun _ => rfl, fun h => k1 (by rwa [getD_set_ne false (by decide)] at h), fun h => k2 (by rwa [getD_set_ne false (by decide)] at h), fun h => k3 (by rwa [getD_set_ne false (by decide)] at h), fun h => k4 (by rwa [getD_set_ne false (by decide)] at h), fun h => k5 (by rwa [getD_set_ne false (by decide)] at h), by rw [getD_set_ne false (by decide)]; exact kr⟩, ko, kb, hb, by simpa using sz, (fun h => by rw [getD_set_ne false (by decide)] at h ⊢; exact k56 h), (fun h => by rw [getD_set_ne false (by decide)] at h ⊢; exact k66 h)⟩
    | 1, _ =>
      cases h0
      have n0 : s.getD 0 false = true := hpre ⟨0, .data⟩ (by simp) rfl
      have x0 := k0 n0
      subst x0
      refine wpOp_new rfl rfl (v := .int .i64 x.k) (w' := w1) (by simp [go_sem, kb]) ?_
      exact ⟨⟨.pointer (some ⟨w.heap.size, 0, none⟩), .int .i64 x.k, t5, t6, t7, t8, a', c', rfl, fun h => k0 (by rwa [getD_set_ne false (by decide)] at h), fun _ => rfl, fun h => k2 (by rwa [getD_set_ne false (by decide)] at h), fun h => k3 (by rwa [getD_set_ne false (by decide)] at h), fun h => k4 (by rwa [getD_set_ne false (by decide)] at h), fun h => k5 (by rwa [getD_set_ne false (by decide)] at h), by rw [getD_set_ne false (by decide)]; exact kr⟩, ko, kb, hb, by simpa using sz, (fun h => by rw [getD_set_ne false (by decide)] at h ⊢; exact k56 h), (fun h => by rw [getD_set_ne false (by decide)] at h ⊢; exact k66 h)⟩
    | 2, _ =>
      cases h0
      refine wpOp_new rfl rfl (v := .pointer (some ⟨w.heap.size, 1, none⟩)) (w' := w1) (by simp [go_sem, kb]) ?_
      exact ⟨⟨t3, t4, .pointer (some ⟨w.heap.size, 1, none⟩), t6, t7, t8, a', c', rfl, fun h => k0 (by rwa [getD_set_ne false (by decide)] at h), fun h => k1 (by rwa [getD_set_ne false (by decide)] at h), fun _ => rfl, fun h => k3 (by rwa [getD_set_ne false (by decide)] at h), fun h => k4 (by rwa [getD_set_ne false (by decide)] at h), fun h => k5 (by rwa [getD_set_ne false (by decide)] at h), by rw [getD_set_ne false (by decide)]; exact kr⟩, ko, kb, hb, by simpa using sz, (fun h => by rw [getD_set_ne false (by decide)] at h ⊢; exact k56 h), (fun h => by rw [getD_set_ne false (by decide)] at h ⊢; exact k66 h)⟩
    | 3, _ =>
      cases h0
      have n2 : s.getD 2 false = true := hpre ⟨2, .data⟩ (by simp) rfl
      have x2 := k2 n2
      subst x2
      refine wpOp_new rfl rfl (v := .slice a x.bs.length c) (w' := w1) (by simp [go_sem, kb]) ?_
      exact ⟨⟨t3, t4, .pointer (some ⟨w.heap.size, 1, none⟩), .slice a x.bs.length c, t7, t8, a', c', rfl, fun h => k0 (by rwa [getD_set_ne false (by decide)] at h), fun h => k1 (by rwa [getD_set_ne false (by decide)] at h), fun h => k2 (by rwa [getD_set_ne false (by decide)] at h), fun _ => rfl, fun h => k4 (by rwa [getD_set_ne false (by decide)] at h), fun h => k5 (by rwa [getD_set_ne false (by decide)] at h), by rw [getD_set_ne false (by decide)]; exact kr⟩, ko, kb, hb, by simpa using sz, (fun h => by rw [getD_set_ne false (by decide)] at h ⊢; exact k56 h), (fun h => by rw [getD_set_ne false (by decide)] at h ⊢; exact k66 h)⟩
    | 4, _ =>
      cases h0
      have n3 : s.getD 3 false = true := hpre ⟨3, .data⟩ (by simp) rfl
      have x3 := k3 n3
      subst x3
      refine wpOp_at rfl rfl ?_
      unfold Oper.wp
      simp [go_sem]
      have hkb : w.heap.size + 2 ≤ w1.heap.size := own_lt ko
      refine (clone_c x.bs hl a c w1 (HR_.out.below (by decide) hb)).mono ?_
      rintro e w2 ⟨a2, c2, rfl, hb2, hn⟩
      have s5 : s.getD 5 false = false := by
        cases e : s.getD 5 false with
        | false => rfl
        | true => have := k56 e; rw [getD_both h1] at this; cases this
      have s6 : s.getD 6 false = false := by
        cases e : s.getD 6 false with
        | false => rfl
        | true => have := k66 e; rw [getD_both h1] at this; cases this
      rw [s6, if_neg (by simp)] at kr
      exact ⟨⟨t3, t4, t5, .slice a x.bs.length c, .slice a2 x.bs.length c2, t8, a2, c2, rfl, fun h => k0 (by rwa [getD_set_ne false (by decide)] at h), fun h => k1 (by rwa [getD_set_ne false (by decide)] at h), fun h => k2 (by rwa [getD_set_ne false (by decide)] at h), fun h => k3 (by rwa [getD_set_ne false (by decide)] at h), fun _ => ⟨rfl, hn.mono hkb⟩, (fun h => by rw [getD_set_ne false (by decide), s5] at h; cases h), by rw [getD_set_ne false (by decide), s6, if_neg (by simp)]; exact (Below_row hb2 (own_lt ko)).trans kr⟩, (Below_own hb2 (own_lt ko)).trans ko, (Below_row hb2 (by omega)).trans kb, hb.trans (hb2.mono hb.size), by simpa using sz, (fun h => by rw [getD_set_ne false (by decide), s5] at h; cases h), (fun h => by rw [getD_set_ne false (by decide), s6] at h; cases h)⟩
    | 5, _ =>
      cases h0
      have n1 : s.getD 1 false = true := hpre ⟨1, .data⟩ (by simp) rfl
      have n4 : s.getD 4 false = true := hpre ⟨4, .data⟩ (by simp) rfl
      have x1 := k1 n1
      obtain ⟨x4, hn⟩ := k4 n4
      subst x1
      subst x4
      refine wpOp_new rfl rfl (v := .agg (ic x.k a' x.bs.length c')) (w' := w1) (by simp [go_sem]) ?_
      exact ⟨⟨t3, .int .i64 x.k, t5, t6, .slice a' x.bs.length c', .agg (ic x.k a' x.bs.length c'), a', c', rfl, fun h => k0 (by rwa [getD_set_ne false (by decide)] at h), fun h => k1 (by rwa [getD_set_ne false (by decide)] at h), fun h => k2 (by rwa [getD_set_ne false (by decide)] at h), fun h => k3 (by rwa [getD_set_ne false (by decide)] at h), fun _ => ⟨rfl, hn⟩, fun _ => rfl, by rw [getD_set_ne false (by decide)]; exact kr⟩, ko, kb, hb, by simpa using sz, (fun _ => by rw [getD_set_ne false (by decide)]; exact n4), (fun h => by rw [getD_set_ne false (by decide)] at h ⊢; exact k66 h)⟩
    | 6, _ =>
      cases h0
      have n5 : s.getD 5 false = true := hpre ⟨5, .data⟩ (by simp) rfl
      have n4 : s.getD 4 false = true := k56 n5
      have x5 := k5 n5
      obtain ⟨x4, hn⟩ := k4 n4
      subst x4
      subst x5
      rw [getD_both h1, if_neg (by simp)] at kr
      have hin : 6 < s.size := by rw [sz]; decide
      have hs6 : (s.setIfInBounds 6 true).getD 6 false = true := by simp [Array.getD, hin]
      refine wpOp_skip rfl rfl rfl (w' := w1.setRow (w.heap.size + 1) (ic x.k a' x.bs.length c')) (by simp [go_sem, kr, ko]) ?_
      have hch : Chg (· = w.heap.size + 1) w1 (w1.setRow (w.heap.size + 1) (ic x.k a' x.bs.length c')) := (Chg.refl (· = w.heap.size + 1) w1).setRow (.inr rfl) _
      have hrw : row? (w1.setRow (w.heap.size + 1) (ic x.k a' x.bs.length c')) (w.heap.size + 1) = ic x.k a' x.bs.length c' := by rw [row_setRow _ _ _ _ (by rw [kr]; simp), if_pos rfl]
      exact ⟨⟨t3, t4, t5, t6, .slice a' x.bs.length c', .agg (ic x.k a' x.bs.length c'), a', c', rfl, fun h => k0 (by rwa [getD_set_ne false (by decide)] at h), fun h => k1 (by rwa [getD_set_ne false (by decide)] at h), fun h => k2 (by rwa [getD_set_ne false (by decide)] at h), fun h => k3 (by rwa [getD_set_ne false (by decide)] at h), fun _ => ⟨rfl, hn.kept hch (fun b e => by rw [e]; omega)⟩, fun _ => rfl, by rw [if_pos hs6]; exact hrw⟩, by rw [own_setRow]; exact ko, (hch.row (by have := own_lt ko; omega) (by show ¬ w.heap.size = w.heap.size + 1; omega)).trans kb, hb.trans (hch.below hb.size (fun k hk e => by omega)), by simpa using sz, (fun _ => by rw [getD_set_ne false (by decide)]; exact n4), (fun _ => by rw [getD_set_ne false (by decide)]; exact n4)⟩
  case hend =>
    intro s ac w1 hr hI
    obtain ⟨⟨t3, t4, t5, t6, t7, t8, a', c', rfl, k0, k1, k2, k3, k4, k5, kr⟩, ko, kb, hb, sz, k56, k66⟩ := hI
    have hall := all_done sz (by kernel_rfl) hr
    rw [if_pos (hall 6 (by decide))] at kr
    obtain ⟨_, hn⟩ := k4 (hall 4 (by decide))
    have hv : (ldAt 32 (.pointer (some ⟨w.heap.size + 1, 0, none⟩))).run Try.prog w1 = .ok (.agg (ic x.k a' x.bs.length c')) w1 := by rw [ldItm _ _ _ (by rw [kr]; simp), kr]; simp
    have hq : ∃ v', Ending.returned (.agg (ic x.k a' x.bs.length c')) = Ending.returned v' ∧ Below w.heap.size w w1 ∧ NewI w.heap.size w1 v' x := ⟨_, rfl, hb, a', c', rfl, hn.mono (by omega)⟩
    clear hall k0 k1 k2 k3 k4 k5 k56 k66 sz hr ko kb kr hn
    have HV_ := hid hv
    clear hv
    have HQ_ := hid hq
    clear hq
    go_wp2
    exact bodyPost_ret (results_cell rfl rfl HV_.out) rfl HQ_.out
end Go.Proofs.Ytbdpnmocbpplbaa
