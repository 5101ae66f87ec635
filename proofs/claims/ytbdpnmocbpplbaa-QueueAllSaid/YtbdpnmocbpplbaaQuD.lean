/-
  The walks of Put and Take: a select of one case with a default. No condition.
-/
import Derived.Test.YtbdpnmocbpplbaaQuC
namespace Go.Proofs.Ytbdpnmocbpplbaa
open Go.RowKit Go.Conc

theorem setb {w0 w : World} {b : Nat} {A B : Array Value} (hb : w0.heap.size ≤ b) (hr : row? w b = A) (ho : own? w b = true) (hA : A ≠ #[]) (hw : Below w0.heap.size w0 w) : ∃ W1, w.setRow b B = W1 ∧ row? W1 b = B ∧ own? W1 b = true ∧ Below w0.heap.size w0 W1 := by
  refine ⟨_, rfl, ?_, ?_, ⟨hw.os, hw.tape, hw.output, by have := hw.size; simpa [World.setRow] using this, fun k hk => (setRow_other _ _ k _ (by omega)).trans (hw.block k hk)⟩⟩
  · rw [row_setRow _ _ _ _ (by rw [hr]; exact hA), if_pos rfl]
  · rw [own_setRow]; exact ho
theorem NewI.kept {N : Nat} {w w' : World} {v : Value} {x : Itm} (h : NewI N w v x) {S : Nat → Prop} (hc : Chg S w w') (hS : ∀ b, S b → b < N) : NewI N w' v x := by
  obtain ⟨a, c, e, h⟩ := h
  exact ⟨a, c, e, h.kept hc hS⟩
theorem NewI.mono {N M : Nat} {w : World} {v : Value} {x : Itm} (h : NewI N w v x) (hM : M ≤ N) : NewI M w v x := by
  obtain ⟨a, c, e, h⟩ := h
  exact ⟨a, c, e, h.mono hM⟩
theorem run_zero {t : TypeId} {z : Value} {n m : Nat} (h : (Try.prog.info? t).map (fun i => (i.zero, i.size, i.bytes)) = some (some z, n, m)) (w : World) : (zeroValue t).run Try.prog w = .ok z w := by
  obtain ⟨i, h1, h2, _, _⟩ := info_parts' h
  simp [zeroValue, typeInfo, h1, h2]
theorem run_sel_send {ρ : Operand → Value} {o : Oper} {x y : Operand} {c : Nat} {v : Value} {w : World} (ho : o.op = .select #[{ chan := x, send := some y, elem := 32 }] false) (hx : ρ x = .chan (some c)) (hy : ρ y = v) :
    (execOp ρ o).run Try.prog w = .ok (.comm #[scase c v (.agg (ic 0 none 0 0))] false .select) w := by
  unfold execOp
  rw [ho]
  simp [run_zero infoItm, hx, hy, scase]
theorem run_sel_recv {ρ : Operand → Value} {o : Oper} {x : Operand} {c : Nat} {w : World} (ho : o.op = .select #[{ chan := x, send := none, elem := 32 }] false) (hx : ρ x = .chan (some c)) :
    (execOp ρ o).run Try.prog w = .ok (.comm #[rcase c (.agg (ic 0 none 0 0))] false .select) w := by
  unfold execOp
  rw [ho]
  simp [run_zero infoItm, hx, rcase]
theorem results_tmp' {P : Program} {fn : Func} {t : Nat} {tmps : Array Value} {w : World} (h : fn.results = #[.tmp t]) : (results fn tmps).run P w = .ok (tmps.getD t undef) w := by
  simp [results, h, Sem.run_bind]
set_option maxRecDepth 100000 in
set_option maxHeartbeats 1000000 in
theorem put_ok {b ch most : Nat} {vs : List Value} (v : Value) (x : Itm) (hl : x.bs.length ≤ 140737488351232) (w : World) (hq : Que w b ch most vs) (hx : ItmIn w v x) (hr : vs.length < most) :
    Calls Try.prog 11 #[.pointer (some ⟨b, 0, none⟩), v] w fun e w' => e = .returned (.int .i64 0) ∧ ∃ v', Que w' b ch most (vs ++ [v']) ∧ NewI w.heap.size w' v' x ∧ Chg (· = ch) w w' := by
  refine calls_of_wpN Try.func11 rfl ?_
  simp only [Try.ntmps11, List.size_toArray, List.length_cons, List.length_nil, Nat.reduceAdd, Nat.reduceSub, Array.replicate_succ, Array.replicate_zero, List.push_toArray, List.append_toArray, List.nil_append, List.cons_append]
  obtain ⟨a, c, rfl, hx⟩ := hx
  have hqr := hq.row
  refine wpN_seq ?_
  go_wp2
  obtain ⟨W1, hW1⟩ : ∃ W1, w.alloc (.cells (ic x.k a x.bs.length c) 32) = W1 := ⟨_, rfl⟩
  have b1 : Below w.heap.size w W1 := by rw [← hW1]; exact (Below.refl _ _).alloc (Nat.le_refl _) _
  have r1 : row? W1 w.heap.size = ic x.k a x.bs.length c := by rw [← hW1]; simp [row_alloc, rowOf]
  rw [hW1]
  clear hW1 hqr
  have q1 := hq.below b1
  have hqr := q1.row
  have hx1 := hx.below (by decide) b1
  refine wpN_seq ?_
  have Q1_ := hid q1
  clear q1
  have HX1_ := hid hx1
  clear hx1
  have B1_ := hid b1
  clear b1
  have HQ_ := hid hq
  clear hq
  have HX_ := hid hx
  clear hx
  go_wp2_with fail
  refine (copied_c _ x hl W1 ⟨a, c, rfl, HX1_.out⟩).mono ?_
  rintro e w2 ⟨v', rfl, hb2, hn⟩
  dsimp only
  go_wp2
  have q2 := Q1_.out.below hb2
  obtain ⟨s, r, hc⟩ := q2.c
  refine wpN_seq' ?_
  have hqs := q2.set (vs ++ [v']) (s + 1) r
  have hch := chg_setChan w2 ch most (vs ++ [v']).toArray false (s + 1) r false
  have hpu : vs.toArray.push v' = (vs ++ [v']).toArray := by simp
  refine wpN_comm (w1 := w2) (w2 := w2.setChan ch most (vs ++ [v']).toArray false (s + 1) r false) (V := .tuple #[goInt 0, .bool false]) rfl (run_sel_send rfl rfl rfl) (fun fr cs es h => by rw [← hpu]; exact step_lone_select_send_room h hc (by simpa using hr)) ?_
  generalize w2.setChan ch most (vs ++ [v']).toArray false (s + 1) r false = w3 at *
  clear hpu hc q2
  have HQS_ := hid hqs
  clear hqs
  have HCH_ := hid hch
  clear hch
  have HN_ := hid hn
  clear hn
  have HB2_ := hid hb2
  clear hb2
  go_wp2
  refine wpN_of_wp ?_
  go_wp2
  go_ret
  refine ⟨rfl, v', HQS_.out, (HN_.out.mono B1_.out.size).kept HCH_.out (fun b e => by rw [e]; exact HQ_.out.ltc), ((Chg.of_below B1_.out).trans (Chg.of_below HB2_.out)).trans HCH_.out⟩
set_option maxRecDepth 100000 in
set_option maxHeartbeats 1000000 in
theorem put_full {b ch most : Nat} {vs : List Value} (v : Value) (x : Itm) (hl : x.bs.length ≤ 140737488351232) (w : World) (hq : Que w b ch most vs) (hx : ItmIn w v x) (hr : most ≤ vs.length) :
    Calls Try.prog 11 #[.pointer (some ⟨b, 0, none⟩), v] w fun e w' => e = .returned (.int .i64 180) ∧ Below w.heap.size w w' := by
  refine calls_of_wpN Try.func11 rfl ?_
  simp only [Try.ntmps11, List.size_toArray, List.length_cons, List.length_nil, Nat.reduceAdd, Nat.reduceSub, Array.replicate_succ, Array.replicate_zero, List.push_toArray, List.append_toArray, List.nil_append, List.cons_append]
  obtain ⟨a, c, rfl, hx⟩ := hx
  have hqr := hq.row
  refine wpN_seq ?_
  go_wp2
  obtain ⟨W1, hW1⟩ : ∃ W1, w.alloc (.cells (ic x.k a x.bs.length c) 32) = W1 := ⟨_, rfl⟩
  have b1 : Below w.heap.size w W1 := by rw [← hW1]; exact (Below.refl _ _).alloc (Nat.le_refl _) _
  have r1 : row? W1 w.heap.size = ic x.k a x.bs.length c := by rw [← hW1]; simp [row_alloc, rowOf]
  rw [hW1]
  clear hW1 hqr
  have q1 := hq.below b1
  have hqr := q1.row
  have hx1 := hx.below (by decide) b1
  refine wpN_seq ?_
  have Q1_ := hid q1
  clear q1
  have HX1_ := hid hx1
  clear hx1
  have B1_ := hid b1
  clear b1
  have HQ_ := hid hq
  clear hq
  have HX_ := hid hx
  clear hx
  go_wp2_with fail
  refine (copied_c _ x hl W1 ⟨a, c, rfl, HX1_.out⟩).mono ?_
  rintro e w2 ⟨v', rfl, hb2, hn⟩
  dsimp only
  go_wp2
  have q2 := Q1_.out.below hb2
  obtain ⟨s, r, hc⟩ := q2.c
  refine wpN_seq' ?_
  refine wpN_comm (w1 := w2) (w2 := w2) (V := .tuple #[goInt (-1), .bool false]) rfl (run_sel_send rfl rfl rfl) (fun fr cs es h => step_lone_select_send_full h hc (by simpa using hr)) ?_
  clear hc q2 hn
  have HB2_ := hid hb2
  clear hb2
  go_wp2
  refine wpN_of_wp ?_
  go_wp2
  go_ret
  exact ⟨rfl, B1_.out.trans (HB2_.out.mono B1_.out.size)⟩
set_option maxRecDepth 100000 in
set_option maxHeartbeats 1000000 in
theorem take_ok {b ch most : Nat} {vs : List Value} (v : Value) (x : Itm) (w : World) (hq : Que w b ch most (v :: vs)) (hx : ItmIn w v x) :
    Calls Try.prog 12 #[.pointer (some ⟨b, 0, none⟩)] w fun e w' => e = .returned (.tuple #[v, .int .i64 0]) ∧ Que w' b ch most vs ∧ Chg (· = ch) w w' := by
  refine calls_of_wpN Try.func12 rfl ?_
  simp only [Try.ntmps12, List.size_toArray, List.length_cons, List.length_nil, Nat.reduceAdd, Nat.reduceSub, Array.replicate_succ, Array.replicate_zero, List.push_toArray, List.append_toArray, List.nil_append, List.cons_append]
  obtain ⟨a, c, rfl, hx⟩ := hx
  clear hx
  refine wpN_seq ?_
  go_wp2
  obtain ⟨W1, hW1⟩ : ∃ W1, w.alloc (.cells (ic 0 none 0 0) 32) = W1 := ⟨_, rfl⟩
  have b1 : Below w.heap.size w W1 := by rw [← hW1]; exact (Below.refl _ _).alloc (Nat.le_refl _) _
  have r1 : row? W1 w.heap.size = ic 0 none 0 0 := by rw [← hW1]; simp [row_alloc, rowOf]
  have o1 : own? W1 w.heap.size = true := by rw [← hW1]; simp [own_alloc, ownOf]
  rw [hW1]
  clear hW1
  have q1 := hq.below b1
  have hqr := q1.row
  refine wpN_seq ?_
  have B1_ := hid b1
  clear b1
  have HQ_ := hid hq
  clear hq
  go_wp2
  obtain ⟨s, r, hc⟩ := q1.c
  refine wpN_seq' ?_
  have hqs := q1.set vs s (r + 1)
  have hch := chg_setChan W1 ch most vs.toArray false s (r + 1) false
  have hne : ¬ w.heap.size = ch := by have := HQ_.out.ltc; omega
  have r2 := (hch.row (own_lt o1) hne).trans r1
  have o2 := (hch.own (own_lt o1) hne).trans o1
  have hex : (Value.agg (ic x.k a x.bs.length c) :: vs).toArray.extract 1 (Value.agg (ic x.k a x.bs.length c) :: vs).toArray.size = vs.toArray := by
    apply Array.ext'
    simp
  refine wpN_comm (w1 := W1) (w2 := W1.setChan ch most vs.toArray false s (r + 1) false) (V := .tuple #[goInt 0, .bool true, .agg (ic x.k a x.bs.length c)]) rfl (run_sel_recv rfl rfl) (fun fr cs es h => by
    have := step_lone_select_recv_buf h hc (by simp)
    rw [hex] at this
    exact this) ?_
  generalize W1.setChan ch most vs.toArray false s (r + 1) false = w3 at *
  clear hex hc r1 o1 hqr q1
  have hlt := own_lt o2
  have HQS_ := hid hqs
  clear hqs
  have HCH_ := hid hch
  clear hch
  have HNE_ := hid hne
  clear hne
  go_wp2
  refine wpN_of_wp ?_
  go_wp2
  have hle : w.heap.size ≤ w3.heap.size := Nat.le_of_lt hlt
  have c1 := ((Chg.refl (fun _ => False) w3).alloc (.cells (ic 0 none 0 0) 32)).setRow (.inl (Nat.le_refl _)) (ic x.k a x.bs.length c)
  have c2 := (((Chg.refl (· = w.heap.size) w3).alloc (.cells (ic 0 none 0 0) 32)).setRow (.inl (Nat.le_refl _)) (ic x.k a x.bs.length c)).setRow (b := w.heap.size) (.inr rfl) (ic x.k a x.bs.length c)
  have c3 := (((((Chg.of_below B1_.out).trans HCH_.out).alloc (.cells (ic 0 none 0 0) 32)).setRow (b := w3.heap.size) (.inl hle) (ic x.k a x.bs.length c)).setRow (b := w.heap.size) (.inl (Nat.le_refl _)) (ic x.k a x.bs.length c))
  have r3 := (c1.row hlt id).trans r2
  have q4 := HQS_.out.kept c2 (by have := HQ_.out.ltb; show ¬ b = _; omega) (fun e => HNE_.out e.symm)
  refine bodyPost_ret (results_cell2 rfl rfl (v := .agg (ic x.k a x.bs.length c)) ?_) rfl ⟨rfl, q4, c3⟩
  have r4 : row? (((w3.alloc (.cells (ic 0 none 0 0) 32)).setRow w3.heap.size (ic x.k a x.bs.length c)).setRow w.heap.size (ic x.k a x.bs.length c)) w.heap.size = ic x.k a x.bs.length c := by
    rw [row_setRow _ _ _ _ (by rw [r3]; simp), if_pos rfl]
  rw [ldItm _ _ _ (by rw [r4]; simp), r4]
  simp
set_option maxRecDepth 100000 in
set_option maxHeartbeats 1000000 in
theorem take_none {b ch most : Nat} (w : World) (hq : Que w b ch most []) :
    Calls Try.prog 12 #[.pointer (some ⟨b, 0, none⟩)] w fun e w' => e = .returned (.tuple #[.agg (ic 0 none 0 0), .int .i64 181]) ∧ Below w.heap.size w w' := by
  refine calls_of_wpN Try.func12 rfl ?_
  simp only [Try.ntmps12, List.size_toArray, List.length_cons, List.length_nil, Nat.reduceAdd, Nat.reduceSub, Array.replicate_succ, Array.replicate_zero, List.push_toArray, List.append_toArray, List.nil_append, List.cons_append]
  refine wpN_seq ?_
  go_wp2
  obtain ⟨W1, hW1⟩ : ∃ W1, w.alloc (.cells (ic 0 none 0 0) 32) = W1 := ⟨_, rfl⟩
  have b1 : Below w.heap.size w W1 := by rw [← hW1]; exact (Below.refl _ _).alloc (Nat.le_refl _) _
  have r1 : row? W1 w.heap.size = ic 0 none 0 0 := by rw [← hW1]; simp [row_alloc, rowOf]
  have o1 : own? W1 w.heap.size = true := by rw [← hW1]; simp [own_alloc, ownOf]
  rw [hW1]
  clear hW1
  have q1 := hq.below b1
  have hqr := q1.row
  refine wpN_seq ?_
  have B1_ := hid b1
  clear b1
  have HQ_ := hid hq
  clear hq
  go_wp2
  obtain ⟨s, r, hc⟩ := q1.c
  refine wpN_seq' ?_
  refine wpN_comm (w1 := W1) (w2 := W1) (V := .tuple #[goInt (-1), .bool false, .agg (ic 0 none 0 0)]) rfl (run_sel_recv rfl rfl) (fun fr cs es h => step_lone_select_default h hc) ?_
  clear hc hqr q1
  go_wp2
  refine wpN_of_wp ?_
  go_wp2
  obtain ⟨W2, hE, q2, _, b2⟩ := setb (w0 := w) (b := w.heap.size) (B := ic 0 none 0 0) (Nat.le_refl _) r1 o1 (by simp) B1_.out
  rw [hE]
  refine bodyPost_ret (results_cell2 rfl rfl (by go_simp)) rfl ⟨rfl, b2⟩
end Go.Proofs.Ytbdpnmocbpplbaa
