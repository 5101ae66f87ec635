/-
  The law BestNone: it answers true. No condition.
-/
import Derived.Test.YtcjbopobgpfjlaaBqB
import Derived.Laws.MakeOwn
namespace Go.Proofs.Ytcjbopobgpfjlaa
open Go.RowKit

theorem wpList_append_w {P : Program} {w : World} {ops : Array Oper} {rest : List Oper} {o : Oper} {a : Act} {Q : Exit → Act → World → Prop} (hgd : Region.wanted o (yielded ops a.tmps) = true) (s x : Operand) (t : TypeId)
    (ho : o.op = .call { callee := .builtin .append, args := #[s, x], argTypes := #[t, t] })
    (base : Nat) (e : TypeId) (i : TypeInfo) (z : Value) (size bytes : Nat) (ht : P.underlying t = some (.slice e)) (hi : P.info? e = some i) (hz : i.zero = some z)
    (hsize : i.size = size) (hby : i.bytes = bytes) (hzs : z.cells.size = size) (hsz : 0 < size)
    (v : Value) (n : Nat) (xs : List Value) (hs : a.eval s = v) (hown : w.ownsRow base e size v n xs)
    (ad : Addr) (m c : Nat) (news : List Value) (hx : a.eval x = .slice (some ad) m c) (hl : news.length = m * size) (hnews : ∀ j u, news[j]? = some u → w.cell? (ad.add j) = some u) (h1 : ∀ u ∈ news, u.oneCell' = true)
    (h63 : n + m ≤ maxLen) (hbytes : (n + m) * bytes ≤ 140737488355328) (hbase : base ≤ w.heap.size)
    (h : ∀ v' w', w'.ownsRow base e size v' (n + m) (xs ++ news) → w.grownBy w' v.ownBlock → wpList P ops Q rest (a.put o.dst v') w') :
    wpList P ops Q (o :: rest) a w := by
  refine BigFrame.wpList_want hgd fun K hK => ?_
  obtain ⟨v', w', hr, h2, h3, h4, h5⟩ := run_append_own_at (P := P) w base t o.type e i z size bytes ht hi hz hsize hby hzs hsz v n xs hown ad m c news hl hnews h1 h63 hbytes hbase
  unfold Oper.wp execOp
  simp only [ho, resolve, invoke, builtin, Sem.run_bind, Sem.run_pure, Result.andThen_ok, List.map_toArray, List.map_cons, List.map_nil, hs, hx, hr]
  exact hK _ _ (h v' w' h2 h3)
theorem rows_of_zero {α : Type} {f : α → Array Value} {m : Nat} (hf : ∀ s, (f s).size = m) (hm : 0 < m) (z : α) (n : Nat) : (madeCells (f z) (n * m)).toList = rowsL f (List.replicate n z) := by
  apply List.ext_getElem?
  intro j
  have hl : (rowsL f (List.replicate n z)).length = n * m := by rw [rowsL_length hf]; simp
  by_cases hj : j < n * m
  · have hk : j / m < n := (Nat.div_lt_iff_lt_mul hm).2 hj
    have h2 := rowsL_at hf z (List.replicate n z) (j / m) (j % m) (by simpa using hk) (Nat.mod_lt _ hm)
    rw [Nat.div_add_mod' j m] at h2
    rw [h2]
    have hz : (List.replicate n z).getD (j / m) z = z := by simp [List.getD_eq_getElem?_getD, hk]
    rw [hz]
    have hs : j % m < (f z).size := by rw [hf]; exact Nat.mod_lt _ hm
    simp [madeCells, hj, hf, hs, Nat.mod_lt _ hm]
  · rw [List.getElem?_eq_none (by simp [size_madeCells]; omega), List.getElem?_eq_none (by omega)]
theorem mkCh (w : World) (n : Nat) (h : n ≤ 1000) : (Instr.makeSlice 44 (.int .i64 n) (.int .i64 n)).run Try.prog w = .ok (.slice (some ⟨w.heap.size, 0, none⟩) n n) (w.alloc (.cells (madeCells (cha zeroCh) (n * 33)) 49)) := by
  obtain ⟨j0, hj0, jz0, jz1, jz2⟩ := info_parts infoC
  have hr := run_makeSlice (P := Try.prog) w 44 49 j0 (.agg (cha zeroCh)) Try.underlying44 hj0 jz0 .i64 .i64 n n (by omega) (by omega) (by rw [jz1]; simp; omega) (by rw [jz2]; omega) (by omega)
  rw [jz1, Int.toNat_natCast] at hr
  exact hr
theorem fillC1 (a : Cho) (cells : Array Value) (h : cells.size = 33) : Instr.fill (fun i => some (i * 33, 33)) cells [(0, .agg (cha a))] = some (cha a) := by
  have hc : ∀ c : Cho, (Value.agg (cha c)).cells = cha c := fun _ => rfl
  have := Great.fill_whole (s := 33) (by decide) [.agg (cha a)] cells (by intro v hv; simp at hv; rw [hv, hc]; simp) (by simp [h])
  refine this.trans ?_
  congr 1
  apply Array.ext'
  simp [hc]
theorem run_bsC1 (w : World) (a : Cho) : (Instr.buildSlice 44 1 #[(0, .agg (cha a))]).run Try.prog w = .ok (.slice (some ⟨w.heap.size, 0, none⟩) 1 1) (w.alloc (.cells (cha a) 49)) := by
  obtain ⟨i0, hi0, hz0, hz1, hz2⟩ := info_parts infoC
  refine run_buildSlice w 44 49 1 _ _ i0 (.agg (cha zeroCh)) (by kernel_rfl) hi0 hz0 (by rw [hz1]; decide) (by rw [hz1]; decide) ?_
  rw [hz1]
  exact fillC1 a _ (Array.size_map.trans Array.size_range)
@[go_sem] theorem bldChF (w : World) (s : Sett) : (bld 49 #[(0, .agg (sa s))]).run Try.prog w = .ok (.agg (cha ⟨s, false⟩)) w := by
  obtain ⟨a, b, x, y, z, ⟨g, hg, rg⟩, n, ⟨⟨t, ht, rt⟩, tn⟩, ⟨⟨u, hu, ru⟩, un⟩⟩ := s
  obtain ⟨_, _, _, _, _, _, _, _, rfl⟩ := list8 hg
  obtain ⟨_, _, _, _, _, _, _, _, rfl⟩ := list8 ht
  obtain ⟨_, _, _, _, _, _, _, _, rfl⟩ := list8 hu
  exact run_bld w (by kernel_rfl)
theorem alloc1 (W d : World) (A : Array Value) (S : TypeId) :
    ∃ W1 c, (gr W d).alloc (.cells A S) = gr W1 W1 ∧ (gr W d).heap.size = c ∧ (∀ d, row? (gr W1 d) c = A) ∧ (∀ d, ∃ d', gr W1 d = gr W d') :=
  ⟨(gr W d).alloc (.cells A S), _, gr_self _, rfl, gr_row (by simp [row_alloc, rowOf]) (by simp), fun e => gr_ex (((gr_below W d).alloc (gr_below W d).size _).trans ((gr_below _ e).mono (by have := (gr_below W d).size; simp; omega)))⟩
theorem less_irr (p : Sett) : lessS p p = false := by unfold lessS; rw [cmpS_self]; rfl
theorem rep_get (n k : Nat) : (List.replicate n zeroCh).getD k zeroCh = zeroCh := by
  rw [List.getD_eq_getElem?_getD, List.getElem?_replicate]
  split <;> rfl
theorem all_zero (n : Nat) : allC (List.replicate n zeroCh) = -1 := allC_none _ fun j hj => by
  unfold okC
  rw [rep_get]
  rfl
theorem repc_lt (n k : Nat) (c : Cho) (h : k < n) : (List.replicate n zeroCh ++ [c]).getD k zeroCh = zeroCh := by
  rw [List.getD_eq_getElem?_getD, List.getElem?_append_left (by simpa using h), ← List.getD_eq_getElem?_getD, rep_get]
theorem repc_at (n : Nat) (c : Cho) : (List.replicate n zeroCh ++ [c]).getD n zeroCh = c := by
  rw [List.getD_eq_getElem?_getD, List.getElem?_append_right (by simp)]
  simp
theorem all_last (n : Nat) (s : Sett) : allC (List.replicate n zeroCh ++ [⟨s, true⟩]) = n := by
  refine allC_hit _ n (by simp) (fun j hj => ?_) ?_
  · unfold okC
    rw [repc_lt n j _ hj]
    rfl
  · unfold okC badC
    rw [repc_at]
    simp [less_irr, zeroCh]
attribute [-go_sem] Instr.buildSlice
attribute [local go_sem] run_bsC1
set_option maxRecDepth 100000 in
set_option maxHeartbeats 2000000 in
theorem lbnone_fn (k : Int) (s : Sett) (hs : inR s.n) : Fn Try.prog 13 #[.int .i64 k, .agg (sa s)] (.bool true) := by
  intro w
  obtain ⟨i0, hi0, hz0, hz1, hz2⟩ := info_parts infoC
  go_enter Try.func13, Try.ntmps13
  rw [gr_self w]
  go_upto_region 1 with (fail)
  obtain ⟨W0, c, hE, ec, r3, u0⟩ := alloc1 w w (sa s) 29
  rw [hE]
  simp only [ec]
  clear hE ec
  have fin : ∀ d, Below (gr w w).heap.size (gr w w) (gr W0 d) := fun d => by
    obtain ⟨y, hy⟩ := u0 d
    rw [hy, ← gr_self w]
    exact gr_below w y
  by_cases q1 : k < 0
  · clear u0
    have FIN_ := hid fin
    clear fin
    have HS_ := hid hs
    clear hs
    go_wp2_with fail
    refine alive09_fn.c fun m => ?_
    dsimp only
    go_wp2
    go_ret
    exact ⟨rfl, FIN_.out _⟩
  by_cases q2 : 100 < k
  · clear u0
    have FIN_ := hid fin
    clear fin
    have HS_ := hid hs
    clear hs
    go_wp2_with fail
    refine alive09_fn.c fun m => ?_
    dsimp only
    go_wp2
    go_ret
    exact ⟨rfl, FIN_.out _⟩
  obtain ⟨n, rfl⟩ : ∃ n : Nat, k = n := ⟨k.toNat, by omega⟩
  have hn : n ≤ 100 := by omega
  have hmk := fun w => mkCh w n (by omega)
  have FIN_ := hid fin
  clear fin
  have U0_ := hid u0
  clear u0
  have HS_ := hid hs
  clear hs
  go_upto_region 4 with (fail)
  obtain ⟨W5, hE, r5, o5, u5⟩ := newA W0 W0 (madeCells (cha zeroCh) (n * 33)) 49
  have hlo : W0.heap.size ≤ (gr W0 W0).heap.size := (gr_below W0 W0).size
  have hown : ((gr W0 W0).alloc (.cells (madeCells (cha zeroCh) (n * 33)) 49)).ownsRow W0.heap.size 49 33 (.slice (some ⟨(gr W0 W0).heap.size, 0, none⟩) n n) n (rowsL cha (List.replicate n zeroCh)) :=
    ⟨by rw [rowsL_length cha_size]; simp, .inr ⟨_, n, _, rfl, hlo, World.alloc_heap_new _ _, Nat.le_refl _, by unfold maxLen; omega, size_madeCells _ _, by rw [← rows_of_zero cha_size (by decide) zeroCh n, List.take_of_length_le (by simp [size_madeCells])]⟩⟩
  have hlt : (gr W0 W0).heap.size < (gr W5 W5).heap.size := by rw [← hE]; simp
  have hbw : Below W0.heap.size W0 (gr W5 W5) := by
    rw [← hE]
    exact (gr_below W0 W0).alloc hlo _
  rw [hE] at hown ⊢
  clear hE
  generalize hb : (gr W0 W0).heap.size = b at *
  have r0c := r3 W0
  replace r3 := upr u5 r3
  clear u5 hmk
  have HOWN_ := hid hown
  clear hown
  have HBW_ := hid hbw
  clear hbw
  go_upto_region 5 with (fail)
  obtain ⟨W6, hE, r6, _, u6, hl6⟩ := newblk W5 W5 (cha zeroCh) (cha ⟨s, true⟩) 49 (by simp)
  rw [hE]
  have hne : b ≠ (gr W5 W5).heap.size := by omega
  generalize (gr W5 W5).heap.size = b6 at *
  clear hE
  replace r3 := upr u6 r3
  have hlt6 : ∀ d, b6 < (gr W6 d).heap.size := fun d => row_lt (by rw [r6]; simp)
  have hltc : ∀ d, c < (gr W6 d).heap.size := fun d => row_lt (by rw [r3]; simp)
  have hncb : c < b := by
    have := row_lt (w := gr W0 W0) (b := c) (by rw [r0c]; simp)
    omega
  have hown := HOWN_.out
  rw [← gr_self W5] at hown
  have hown6 := fun d => ownsRow_up u6 hown d
  have hX1 : ∀ d, RowsIn cha zeroCh 33 (gr W6 d) (some ⟨b, 0, none⟩) (List.replicate n zeroCh) := fun d => by
    obtain ⟨_, a', cap', e, hX⟩ := own_rows cha_size (by decide) zeroCh (hown6 d)
    injection e with e1 e2 e3
    subst e1
    exact hX
  have hf := all_fn (List.replicate n zeroCh) (by simp; omega) (fun k _ => by rw [rep_get]; exact ⟨by decide, by decide⟩) _ n hX1
  rw [List.length_replicate, all_zero] at hf
  have hbw := HBW_.out
  rw [← gr_self W5] at hbw
  have hb6 := fun d => below_up u6 hbw d
  clear hX1 hown HOWN_ HBW_ hbw u6 hlo hb
  have HF_ := hid hf
  clear hf
  have HOWN6_ := hid hown6
  clear hown6
  have HB6_ := hid hb6
  clear hb6
  go_wp2_with fail
  refine alive09_fn.c fun m => ?_
  dsimp only
  go_wp2_with fail
  refine HF_.out.c fun m => ?_
  dsimp only
  have hA : Below (gr W6 m).heap.size (gr W6 m) ((gr W6 m).alloc (.cells (cha ⟨s, true⟩) 49)) := (Below.refl _ _).alloc (Nat.le_refl _) _
  have HA_ := hid hA
  clear hA
  go_wp2_with (at_builtin; refine wpList_append_w rfl _ _ 44 rfl W0.heap.size 49 i0 (.agg (cha zeroCh)) 33 96 Try.underlying44 hi0 hz0 hz1 hz2 (by simp [Value.cells]) (by decide) _ _ _ rfl ((HOWN6_.out m).alloc _) ⟨(gr W6 m).heap.size, 0, none⟩ 1 1 (cha ⟨s, true⟩).toList rfl (by simp) ?c1 (cha_one' _) ?c3 ?c4 ?c5 ?_)
  case c1 => exact new_cells _ _ _
  case c3 => unfold maxLen; omega
  case c4 => omega
  case c5 =>
    have := (HB6_.out m).size
    have := (HA_.out).size
    omega
  intro v' w1 hown' hgrow
  have hb1 : Below W0.heap.size W0 w1 := ((HB6_.out m).trans (HA_.out.mono (HB6_.out m).size)).grown hgrow (Nat.le_trans (HB6_.out m).size HA_.out.size) (own_block_le (HOWN6_.out m))
  have p6 : row? w1 b6 = cha ⟨s, true⟩ := (row_of_block (hgrow.block b6 (Nat.lt_of_lt_of_le (hlt6 m) HA_.out.size) (by intro e; cases e; exact hne rfl))).trans ((Below_row HA_.out (hlt6 m)).trans (r6 m))
  have p3 : row? w1 c = sa s := (row_of_block (hgrow.block c (Nat.lt_of_lt_of_le (hltc m) HA_.out.size) (fun e => absurd (show c = b by simpa [Value.ownBlock] using e) (by omega)))).trans ((Below_row HA_.out (hltc m)).trans (r3 m))
  rw [← rowsL_snoc] at hown'
  obtain ⟨en, a', cap', rfl, hX2⟩ := own_rows cha_size (by decide) zeroCh hown'
  have hf := all_fn (List.replicate n zeroCh ++ [⟨s, true⟩]) (by simp; omega) (fun k hk => by
    rcases Nat.lt_or_ge k n with h | h
    · rw [repc_lt n k _ h]; exact ⟨by decide, by decide⟩
    · obtain rfl : k = n := by simp at hk; omega
      rw [repc_at]; exact HS_.out) a' cap' (W := w1) (fun d => hX2.gr (by decide) d)
  rw [all_last, ← en] at hf
  clear en
  have g3 := gr_row p3 (row_lt (by rw [p3]; simp))
  have g6 := gr_row p6 (row_lt (by rw [p6]; simp))
  have fin : ∀ d, Below (gr w w).heap.size (gr w w) (gr w1 d) := fun d => by
    obtain ⟨x, hx⟩ := gr_ex (hb1.trans ((gr_below w1 d).mono hb1.size))
    rw [hx]
    exact FIN_.out x
  rw [gr_self w1]
  clear p3 p6 hX2 hown' hgrow r3 r6 hlt6 hltc r5 o5 r0c hne hncb hlt HF_ HOWN6_ HB6_ HA_ FIN_ U0_ hb1
  have b1 := better_fn ⟨s, true⟩ ⟨s, false⟩ HS_.out HS_.out
  have b2 := better_fn ⟨s, false⟩ ⟨s, true⟩ HS_.out HS_.out
  have b3 := better_fn zeroCh ⟨s, false⟩ ⟨by decide, by decide⟩ HS_.out
  rw [show betterC ⟨s, true⟩ ⟨s, false⟩ = true from rfl] at b1
  rw [show betterC ⟨s, false⟩ ⟨s, true⟩ = false from rfl] at b2
  rw [show betterC zeroCh ⟨s, false⟩ = false from rfl] at b3
  have HF_ := hid hf
  clear hf
  have FIN_ := hid fin
  clear fin
  have B1_ := hid b1
  clear b1
  have B2_ := hid b2
  clear b2
  have B3_ := hid b3
  clear b3
  go_wp2_with fail
  refine HF_.out.c fun m => ?_
  dsimp only
  go_wp2_with fail
  refine B1_.out.c fun m => ?_
  dsimp only
  go_wp2_with fail
  refine B2_.out.c fun m => ?_
  dsimp only
  go_wp2_with fail
  refine B3_.out.c fun m => ?_
  dsimp only
  go_wp2
  go_ret
  exact ⟨rfl, FIN_.out _⟩
end Go.Proofs.Ytcjbopobgpfjlaa
