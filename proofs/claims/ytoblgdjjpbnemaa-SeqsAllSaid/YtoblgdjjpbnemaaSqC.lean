/-
  A book of numbers in a world, and what stays of it; the walks of New, Len, Next. No condition.
-/
import Derived.Test.YtoblgdjjpbnemaaSqB
import Derived.Test.YtoblgdjjpbnemaaRegX
namespace Go.Proofs.Ytoblgdjjpbnemaa
open Go.RowKit

/-- A sender that is remembered: who, what, and where it lies. -/
structure SE where
  p : Prt
  s : Sd
  g : Nat
structure PB where
  nx : Nat → Int
  l : List SE
def ksOf (l : List SE) : List (Prt × Nat) := l.map fun e => (e.p, e.g)
def InB (b m : Nat) (l : List SE) (g : Nat) : Prop := g = b ∨ g = m ∨ ∃ x ∈ l, x.g = g
structure BkW (w : World) (b m : Nat) (pb : PB) : Prop where
  row : row? w b = ba pb.nx m
  own : own? w b = true
  map : ∃ es c, w.heap[m]? = some (.map es c) ∧ Ents es.toList (ksOf pb.l)
  snd : ∀ x ∈ pb.l, row? w x.g = sd x.s ∧ own? w x.g = true
  inj : ∀ x ∈ pb.l, ∀ y ∈ pb.l, x.g = y.g → x.p = y.p
  nd : (pb.l.map (·.p)).Nodup
/-- The numbers are such. -/
structure PB.Ok (pb : PB) : Prop where
  nx : ∀ k, 0 ≤ pb.nx k ∧ pb.nx k ≤ 65535
  last : ∀ x ∈ pb.l, ∀ k, 0 ≤ x.s.last k ∧ x.s.last k ≤ 65536
  len : pb.l.length ≤ 16
def zeroPB : PB := ⟨fun _ => 0, []⟩
theorem zeroPB_ok : zeroPB.Ok := ⟨fun _ => by simp [zeroPB], fun x hx => absurd hx (by simp [zeroPB]), by simp [zeroPB]⟩
section
variable {w w' : World} {b m : Nat} {pb : PB}
theorem BkW.ltb (h : BkW w b m pb) : b < w.heap.size := own_lt h.own
theorem BkW.ltm (h : BkW w b m pb) : m < w.heap.size := by
  obtain ⟨es, c, hm, _⟩ := h.map
  exact (Array.getElem?_eq_some_iff.1 hm).1
theorem BkW.ownm (h : BkW w b m pb) : own? w m = false := by
  obtain ⟨es, c, hm, _⟩ := h.map
  unfold own?
  rw [hm]
  rfl
theorem BkW.nbm (h : BkW w b m pb) : b ≠ m := fun e => by
  have := h.ownm
  rw [← e, h.own] at this
  cases this
theorem BkW.lts (h : BkW w b m pb) {x : SE} (hx : x ∈ pb.l) : x.g < w.heap.size := own_lt (h.snd x hx).2
theorem BkW.ngb (h : BkW w b m pb) {x : SE} (hx : x ∈ pb.l) : x.g ≠ b := fun e => by
  have h1 := (h.snd x hx).1
  rw [e, h.row] at h1
  have := congrArg Array.size h1
  simp at this
theorem BkW.ngm (h : BkW w b m pb) {x : SE} (hx : x ∈ pb.l) : x.g ≠ m := fun e => by
  have h1 := (h.snd x hx).2
  rw [e, h.ownm] at h1
  cases h1
theorem BkW.lt (h : BkW w b m pb) {g : Nat} (hg : InB b m pb.l g) : g < w.heap.size := by
  rcases hg with rfl | rfl | ⟨x, hx, rfl⟩
  · exact h.ltb
  · exact h.ltm
  · exact h.lts hx
theorem BkW.kept (h : BkW w b m pb) {S : Nat → Prop} (hc : Chg S w w') (hS : ∀ g, InB b m pb.l g → ¬ S g) : BkW w' b m pb := by
  obtain ⟨es, c, hm, he⟩ := h.map
  have hx : ∀ x ∈ pb.l, ¬ S x.g := fun x hx => hS _ (.inr (.inr ⟨x, hx, rfl⟩))
  exact ⟨(hc.row h.ltb (hS b (.inl rfl))).trans h.row, (hc.own h.ltb (hS b (.inl rfl))).trans h.own, ⟨es, c, (hc.block m h.ltm (hS m (.inr (.inl rfl)))).trans hm, he⟩, fun x h1 => ⟨(hc.row (h.lts h1) (hx x h1)).trans (h.snd x h1).1, (hc.own (h.lts h1) (hx x h1)).trans (h.snd x h1).2⟩, h.inj, h.nd⟩
theorem BkW.below (h : BkW w b m pb) (hb : Below w.heap.size w w') : BkW w' b m pb := h.kept (S := fun _ => False) (.of_below hb) (fun _ _ => id)
end
/-- A call on a book went by. -/
structure Stq (b m : Nat) (l : List SE) (w : World) (l' : List SE) (w' : World) : Prop where
  chg : Chg (InB b m l) w w'
  blk : ∀ x ∈ l', w.heap.size ≤ x.g ∨ ∃ y ∈ l, y.g = x.g
theorem Chg.trans' {S : Nat → Prop} {a b c : World} (h : Chg S a b) (k : Chg S b c) : Chg S a c := h.then' k (fun _ hi _ => hi)
theorem Stq.below {b m : Nat} {l : List SE} {w w' : World} (h : Below w.heap.size w w') : Stq b m l w l w' := ⟨.of_below h, fun x hx => .inr ⟨x, hx, rfl⟩⟩
theorem Stq.inb {b m : Nat} {l l' : List SE} {w w' : World} (h : Stq b m l w l' w') {g : Nat} (hg : InB b m l' g) : w.heap.size ≤ g ∨ InB b m l g := by
  rcases hg with rfl | rfl | ⟨x, hx, rfl⟩
  · exact .inr (.inl rfl)
  · exact .inr (.inr (.inl rfl))
  · exact (h.blk x hx).imp id (fun h => .inr (.inr h))
theorem Stq.trans {b m : Nat} {l l' l'' : List SE} {w w' w'' : World} (h : Stq b m l w l' w') (k : Stq b m l' w' l'' w'') : Stq b m l w l'' w'' :=
  ⟨h.chg.then' k.chg (fun i hi hl => (h.inb hi).resolve_left (by omega)), fun x hx => by
    rcases k.blk x hx with h1 | ⟨y, hy, e⟩
    · exact .inl (Nat.le_trans h.chg.size h1)
    · rcases h.blk y hy with h2 | ⟨z, hz, e2⟩
      · exact .inl (by omega)
      · exact .inr ⟨z, hz, e2.trans e⟩⟩
/-- A block of one's own that is no part of the book. -/
def MineQ (w : World) (b m : Nat) (l : List SE) (g : Nat) : Prop := own? w g = true ∧ ¬ InB b m l g
theorem Stq.mine {b m : Nat} {l l' : List SE} {w w' : World} (h : Stq b m l w l' w') {g : Nat} (hg : MineQ w b m l g) : MineQ w' b m l' g ∧ row? w' g = row? w g := by
  have hl := own_lt hg.1
  refine ⟨⟨(h.chg.own hl hg.2).trans hg.1, fun e => ?_⟩, h.chg.row hl hg.2⟩
  rcases h.inb e with h1 | h1
  · omega
  · exact hg.2 h1
theorem BkW.fresh {w w' : World} {b m : Nat} {pb : PB} (h : BkW w b m pb) {g : Nat} (hg : w.heap.size ≤ g) (ho : own? w' g = true) : MineQ w' b m pb.l g := ⟨ho, fun e => by have := h.lt e; omega⟩
theorem MineQ.below {w w' : World} {b m : Nat} {l : List SE} {g : Nat} (h : MineQ w b m l g) (hb : Below w.heap.size w w') : MineQ w' b m l g ∧ row? w' g = row? w g :=
  ⟨⟨(own_of_block (hb.block g (own_lt h.1))).trans h.1, h.2⟩, row_of_block (hb.block g (own_lt h.1))⟩
/-- Who is it? -/
def getE (l : List SE) (p : Prt) : Option SE := l.find? fun e => decide (e.p = p)
theorem getE_none {l : List SE} {p : Prt} (h : getE l p = none) : ∀ k ∈ ksOf l, k.1 ≠ p := by
  intro k hk
  obtain ⟨e, he, rfl⟩ := List.mem_map.1 hk
  have := List.find?_eq_none.1 h e he
  simpa using this
theorem getE_some {l : List SE} {p : Prt} {e : SE} (h : getE l p = some e) : e ∈ l ∧ e.p = p := by
  refine ⟨List.mem_of_find?_eq_some h, ?_⟩
  simpa using List.find?_some h
theorem getE_ix {p : Prt} {e : SE} : ∀ {l : List SE}, getE l p = some e → ∃ j : Nat, l[j]? = some e ∧ ∀ a : Nat, a < j → ∀ k : Prt × Nat, (ksOf l)[a]? = some k → k.1 ≠ p
  | [], h => by simp [getE] at h
  | x :: l, h => by
    unfold getE at h
    rw [List.find?_cons] at h
    by_cases hx : x.p = p
    · simp [hx] at h
      exact ⟨0, by simp [h], fun a ha => absurd ha (by omega)⟩
    · simp [hx] at h
      obtain ⟨j, h1, h2⟩ := getE_ix (l := l) h
      refine ⟨j + 1, by simpa using h1, fun a ha k hk => ?_⟩
      cases a with
      | zero =>
        obtain rfl : k = (x.p, x.g) := by simpa [ksOf] using hk.symm
        exact hx
      | succ a => exact h2 a (by omega) k (by simpa [ksOf] using hk)
def lookV (o : Option SE) : Value := match o with | some e => .tuple #[.pointer (some ⟨e.g, 0, none⟩), .bool true] | none => .tuple #[.pointer none, .bool false]
theorem lookP_of (l : List SE) (p : Prt) : lookP p (ksOf l) = lookV (getE l p) := by
  unfold lookP lookV
  cases h : getE l p with
  | none => rw [findP_none (getE_none h)]
  | some e =>
    obtain ⟨j, h1, h2⟩ := getE_ix h
    rw [findP_some (g := e.g) h2 (by simp [ksOf, h1, (getE_some h).2])]
theorem BkW.look {w : World} {b m : Nat} {pb : PB} (h : BkW w b m pb) (p : Prt) (d : World) : (Instr.lookup 55 (.map (some m)) (.agg (pa p)) true).run Try.prog (gr w d) = .ok (lookV (getE pb.l p)) (gr w d) := by
  obtain ⟨es, c, hm, he⟩ := (h.below (gr_below w d)).map
  rw [run_lookP p hm he, lookP_of]
theorem agg57 (w : World) : (isAgg 57).run Try.prog w = .ok true w := by kernel_rfl
theorem siz57 (w : World) : (sizeOf 57).run Try.prog w = .ok 17 w := by kernel_rfl
@[go_sem] theorem bldBk (w : World) (m : Nat) : (bld 57 #[(1, .map (some m))]).run Try.prog w = .ok (.agg (ba (fun _ => 0) m)) w := run_bld w (by kernel_rfl)
theorem new_c (w : World) : Calls Try.prog 9 #[] w fun e w' => ∃ b m, e = .returned (.pointer (some ⟨b, 0, none⟩)) ∧ BkW w' b m zeroPB ∧ Below w.heap.size w w' ∧ w.heap.size ≤ b ∧ w.heap.size ≤ m := by
  have hmm := @run_makeMap Try.prog
  go_enter Try.func9, Try.ntmps9
  go_wp2
  go_ret
  exact ⟨_, _, rfl, ⟨by simp [row_alloc, rowOf, zeroPB], by simp [own_alloc, ownOf], ⟨#[], 0, by
    show ((w.heap.push _).push _)[w.heap.size]? = _
    simp [Array.getElem?_push], rfl⟩, fun x hx => absurd hx (by simp [zeroPB]), fun x hx => absurd hx (by simp [zeroPB]), by simp [zeroPB]⟩, ((Below.refl _ _).alloc (Nat.le_refl _) _).alloc (by simp) _, by simp, Nat.le_refl _⟩
theorem len_c {w : World} {b m : Nat} {pb : PB} (h : BkW w b m pb) : Calls Try.prog 13 #[.pointer (some ⟨b, 0, none⟩)] w fun e w' => e = .returned (.int .i64 pb.l.length) ∧ w' = w := by
  have hr := h.row
  obtain ⟨es, c, hm, he⟩ := h.map
  have hl : (Builtin.len_ #[55] 3 #[.map (some m)]).run Try.prog w = .ok (.int .i64 pb.l.length) w := by
    unfold Builtin.len_
    simp [Sem.run_bind, run_underlying Try.underlying55, Go.MapKept.run_getObj_map hm, he.len, ksOf, goInt]
  clear he hm h
  go_enter Try.func13, Try.ntmps13
  go_wp2
  go_ret
  exact ⟨rfl, rfl⟩
def nextB (pb : PB) (k : Int) : PB × Int := if kindB k = true then (⟨upd pb.nx k.toNat (headN (pb.nx k.toNat)), pb.l⟩, pb.nx k.toNat) else (pb, 0)
theorem headN_ok {n : Int} : 0 ≤ headN n ∧ headN n ≤ 65535 := by unfold headN; split <;> omega
theorem nextB_ok {pb : PB} (h : pb.Ok) (k : Int) : (nextB pb k).1.Ok := by
  unfold nextB
  split
  · refine ⟨fun j => ?_, h.last, h.len⟩
    show 0 ≤ upd _ _ _ j ∧ upd _ _ _ j ≤ 65535
    unfold upd
    split
    · exact headN_ok
    · exact h.nx j
  · exact h
theorem next_c {w : World} {b m : Nat} {pb : PB} (k : Int) (h : BkW w b m pb) (hok : pb.Ok) : Calls Try.prog 17 #[.pointer (some ⟨b, 0, none⟩), .int .i64 k] w fun e w' => e = .returned (.int .i64 (nextB pb k).2) ∧ BkW w' b m (nextB pb k).1 ∧ Stq b m pb.l w (nextB pb k).1.l w' := by
  have hlong := long_fn k w
  cases hk : kindB k with
  | false =>
    have hkl := kindB_long k
    rw [hk] at hkl
    have e : nextB pb k = (pb, 0) := by unfold nextB; rw [hk, if_neg (by simp)]
    rw [e]
    clear e hk hok
    generalize longK k = n at *
    have H_ := hid h
    clear h
    have HLONG_ := hid hlong
    clear hlong
    go_enter Try.func17, Try.ntmps17
    go_wp2_with fail
    refine HLONG_.out.mono ?_
    rintro e w1 ⟨rfl, b1⟩
    dsimp only
    have B1_ := hid b1
    clear b1
    clear HLONG_
    go_wp2
    go_ret
    exact ⟨rfl, H_.out.below B1_.out, .below B1_.out⟩
  | true =>
    have hkl := kindB_long k
    rw [hk] at hkl
    have e : nextB pb k = (⟨upd pb.nx k.toNat (headN (pb.nx k.toNat)), pb.l⟩, pb.nx k.toNat) := by unfold nextB; rw [hk, if_pos rfl]
    obtain ⟨j, rfl, hj⟩ := kindB_nat hk
    rw [e]
    rw [Int.toNat_natCast]
    have hn := hok.nx j
    have hnext := headN_fn (pb.nx j) (by omega)
    have hbm := ba_set pb.nx m j hj (headN (pb.nx j))
    have hat := ba_at pb.nx m hj
    have hget : (ba pb.nx m)[j]? = some (.int .i64 (pb.nx j)) := by rw [ba_get, if_pos hj]
    generalize headN (pb.nx j) = v at *
    generalize hnj : pb.nx j = nj at *
    generalize longK (j : Int) = n at *
    have hj0 : ¬ (j : Int) < 0 := by omega
    have hj1 : (j : Int) < 16 := by omega
    have hj2 : ¬ (16 : Int) ≤ (j : Int) := by omega
    clear e hk hok
    have H_ := hid h
    clear h
    have HLONG_ := hid hlong
    clear hlong
    have HNEXT_ := hid hnext
    clear hnext
    have HBM_ := hid hbm
    clear hbm
    have HN_ := hid hn
    clear hn
    have HNJ_ := hid hnj
    clear hnj
    go_enter Try.func17, Try.ntmps17
    go_wp2_with fail
    refine HLONG_.out.mono ?_
    rintro e w1 ⟨rfl, b1⟩
    dsimp only
    have h1 := H_.out.below b1
    have r1 : row? w1 b = ba pb.nx m := h1.row
    have o1 := h1.own
    have l1 := h1.ltb
    clear HLONG_
    have B1_ := hid b1
    clear b1
    have H1_ := hid h1
    clear h1
    go_upto_region 4 with (fail)
    have kr := gr_row r1 l1
    have ko := gr_own o1
    obtain ⟨d8, hd8⟩ : ∃ d, w1 = gr w1 d := ⟨w1, gr_self w1⟩
    rw [hd8]
    clear hd8
    refine wp_region_gr_tail w1 7 (by kernel_rfl) (by kernel_rfl) ⟨_, rfl⟩ ?_
    simp only [List.take_succ_cons, List.take_zero, List.drop_succ_cons, List.drop_zero]
    repeat (go_big_quiet_step (((go_at_call 27; exact HNEXT_.out.q))))
    refine wpQuiet_nil ?_
    rintro _ ⟨y, rfl⟩
    have h2 := H1_.out.below (gr_below w1 y)
    have b2 := B1_.out.trans ((gr_below w1 y).mono B1_.out.size)
    clear kr ko r1 o1 l1 H1_ B1_ H_
    generalize gr w1 y = w2 at *
    have r2 := h2.row
    have o2 := h2.own
    have H2_ := hid h2
    clear h2
    have B2_ := hid b2
    clear b2
    go_wp2
    go_ret
    have hc : Chg (InB b m pb.l) w2 (w2.setCell ⟨b, j, none⟩ (.int .i64 v)) := (Chg.refl (InB b m pb.l) w2).setCell (p := ⟨b, j, none⟩) (.inr (.inl rfl)) _
    obtain ⟨es, c, hm, he⟩ := H2_.out.map
    have hx : ∀ x ∈ pb.l, row? (w2.setCell ⟨b, j, none⟩ (.int .i64 v)) x.g = sd x.s ∧ own? (w2.setCell ⟨b, j, none⟩ (.int .i64 v)) x.g = true := fun x hx => ⟨by rw [row_setCell, if_neg (H2_.out.ngb hx)]; exact (H2_.out.snd x hx).1, by rw [own_setCell]; exact (H2_.out.snd x hx).2⟩
    refine ⟨rfl, ⟨?_, ?_, ⟨es, c, ?_, he⟩, hx, H2_.out.inj, H2_.out.nd⟩, ⟨(Chg.of_below B2_.out).trans' hc, fun x hx => .inr ⟨x, hx, rfl⟩⟩⟩
    · rw [row_setCell, if_pos rfl, r2]
      exact HBM_.out
    · rw [own_setCell]
      exact o2
    · rw [Below.heap_setCell _ _ _ _ (Ne.symm H2_.out.nbm)]
      exact hm
end Go.Proofs.Ytoblgdjjpbnemaa
