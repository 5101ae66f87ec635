/-
  The walk of does: a call on a queue, as plain data. No condition.
-/
import Derived.Test.YtbdpnmocbpplbaaQuR
import Derived.Test.YtbdpnmocbpplbaaRegW
namespace Go.Proofs.Ytbdpnmocbpplbaa
open Go.RowKit Go.Conc Go.Shelf

structure OpI where
  kd : Int
  k : Int
  p : Int
  x : Itm
def oa (o : OpI) (a : Option Addr) (c : Nat) : Array Value := #[.int .i64 o.kd, .int .i64 o.k, .int .i64 o.p, .int .i64 o.x.k, .slice a o.x.bs.length c]
@[simp, go_sem] theorem oa_size (o : OpI) (a : Option Addr) (c : Nat) : (oa o a c).size = 5 := rfl
@[simp, go_sem] theorem oa_ne (o : OpI) (a : Option Addr) (c : Nat) : oa o a c ≠ #[] := fun e => by have := oa_size o a c; rw [e] at this; cases this
@[simp, go_sem] theorem oa_0 (o : OpI) (a : Option Addr) (c : Nat) : (oa o a c)[0]? = some (.int .i64 o.kd) := rfl
@[simp, go_sem] theorem oa_1 (o : OpI) (a : Option Addr) (c : Nat) : (oa o a c)[1]? = some (.int .i64 o.k) := rfl
@[simp, go_sem] theorem oa_2 (o : OpI) (a : Option Addr) (c : Nat) : (oa o a c)[2]? = some (.int .i64 o.p) := rfl
@[simp, go_sem] theorem oa_at0 (o : OpI) (a : Option Addr) (c : Nat) (h : 0 < (oa o a c).size) : (oa o a c)[0]'h = .int .i64 o.kd := rfl
@[simp, go_sem] theorem oa_at1 (o : OpI) (a : Option Addr) (c : Nat) (h : 1 < (oa o a c).size) : (oa o a c)[1]'h = .int .i64 o.k := rfl
@[simp, go_sem] theorem oa_at2 (o : OpI) (a : Option Addr) (c : Nat) (h : 2 < (oa o a c).size) : (oa o a c)[2]'h = .int .i64 o.p := rfl
@[simp, go_sem] theorem oa_x (o : OpI) (a : Option Addr) (c : Nat) : sub (oa o a c) 3 2 = ic o.x.k a o.x.bs.length c := rfl
@[simp, go_sem] theorem oa_all (o : OpI) (a : Option Addr) (c : Nat) : sub (oa o a c) 0 5 = oa o a c := sub_all _ _ (by simp)
/-- The cells of an answer. -/
def aa (e : Int) (q : Int) (a : Option Addr) (n c : Nat) (m : Int) : Array Value := #[.int .i64 e, .int .i64 q, .slice a n c, .int .i64 m]
@[simp, go_sem] theorem aa_size (e q : Int) (a : Option Addr) (n c : Nat) (m : Int) : (aa e q a n c m).size = 4 := rfl
@[simp, go_sem] theorem aa_ne (e q : Int) (a : Option Addr) (n c : Nat) (m : Int) : aa e q a n c m ≠ #[] := fun h => by have := aa_size e q a n c m; rw [h] at this; cases this
@[simp, go_sem] theorem aa_all (e q : Int) (a : Option Addr) (n c : Nat) (m : Int) : sub (aa e q a n c m) 0 4 = aa e q a n c m := sub_all _ _ (by simp)
theorem aa_one (e q : Int) (a : Option Addr) (n c : Nat) (m : Int) : ∀ v ∈ aa e q a n c m, v.oneCell' = true := by
  intro v hv
  simp [aa] at hv
  rcases hv with rfl | rfl | rfl | rfl <;> rfl
theorem agg49 (w : World) : (isAgg 49).run Try.prog w = .ok true w := by kernel_rfl
theorem siz49 (w : World) : (sizeOf 49).run Try.prog w = .ok 5 w := by kernel_rfl
@[go_sem] theorem ldOp (w : World) (b off : Nat) (h : off + 5 ≤ (row? w b).size) : (ldAt 49 (.pointer (some ⟨b, off, none⟩))).run Try.prog w = .ok (.agg (sub (row? w b) off 5)) w := run_ldAt_agg agg49 siz49 w b off h
theorem agg51 (w : World) : (isAgg 51).run Try.prog w = .ok true w := by kernel_rfl
theorem siz51 (w : World) : (sizeOf 51).run Try.prog w = .ok 4 w := by kernel_rfl
@[go_sem] theorem ldAns (w : World) (b off : Nat) (h : off + 4 ≤ (row? w b).size) : (ldAt 51 (.pointer (some ⟨b, off, none⟩))).run Try.prog w = .ok (.agg (sub (row? w b) off 4)) w := run_ldAt_agg agg51 siz51 w b off h
@[go_sem] theorem stAns (w : World) (b : Nat) (e q : Int) (a : Option Addr) (n c : Nat) (m : Int) (h : (row? w b).size = 4) (ho : own? w b = true) : (stAt 51 (.pointer (some ⟨b, 0, none⟩)) (.agg (aa e q a n c m))).run Try.prog w = .ok () (w.setRow b (aa e q a n c m)) :=
  run_stAt_row siz51 w b _ (Array.all_eq_true_iff_forall_mem.2 (aa_one e q a n c m)) (by simp) h ho
theorem aa_put (e q q' : Int) (a a' : Option Addr) (n c n' c' : Nat) (m : Int) : wrL (ic q' a' n' c').toList 1 (aa e q a n c m) = aa e q' a' n' c' m := rfl
@[go_sem] theorem stRItmP (w : World) (b : Nat) (e q q' : Int) (a a' : Option Addr) (n c n' c' : Nat) (m : Int) (hr : row? w b = aa e q a n c m) (ho : own? w b = true) : (stAt 30 (.pointer (some ⟨b, 1, none⟩)) (.agg (ic q' a' n' c'))).run Try.prog w = .ok () (w.setRow b (aa e q' a' n' c' m)) := by
  have h := run_stAt_part siz30 w b 1 (ic q' a' n' c') (ic_one q' a' n' c') (by simp) (by rw [hr]; simp) ho
  rw [hr, aa_put] at h
  exact h
theorem aa_lit : (#[.int .i64 0, .int .i64 0, .slice none 0 0, .int .i64 0] : Array Value) = aa 0 0 none 0 0 0 := rfl
theorem aa_set0 (e e' q : Int) (a : Option Addr) (n c : Nat) (m : Int) : (aa e q a n c m).setIfInBounds 0 (.int .i64 e') = aa e' q a n c m := rfl
theorem aa_set3 (e q : Int) (a : Option Addr) (n c : Nat) (m m' : Int) : (aa e q a n c m).setIfInBounds 3 (.int .i64 m') = aa e q a n c m' := rfl
/-- What a call comes to. -/
structure Res where
  ys : List Itm
  e : Int
  x : Itm
  n : Int
  is : Bool
/-- The error of a call: none that is laid. -/
def eR (R : Res) : Int := if R.is = true then R.e else 1
def doR (most : Nat) (o : OpI) (xs : List Itm) : Res :=
  if o.kd = 0 then (if xs.length < most then ⟨xs ++ [o.x], 0, zeroI, 0, true⟩ else ⟨xs, 180, zeroI, 0, true⟩)
  else if o.kd = 1 then (match xs with | [] => ⟨[], 181, zeroI, 0, true⟩ | x :: r => ⟨r, 0, x, 0, true⟩)
  else if o.kd = 2 then ⟨keptN (fun i => decide ((i : Int) ≠ o.k)) xs xs.length, 0, if 0 ≤ o.k ∧ o.k < xs.length then xs.getD o.k.toNat zeroI else zeroI, 0, decide (0 ≤ o.k ∧ o.k < xs.length)⟩
  else if o.kd = 3 then ⟨xs, 0, if 0 ≤ o.k ∧ o.k < xs.length then xs.getD o.k.toNat zeroI else zeroI, 0, decide (0 ≤ o.k ∧ o.k < xs.length)⟩
  else if o.kd = 4 then ⟨twiceL most o.k xs, 0, zeroI, 0, twiceB most o.k xs⟩
  else if o.kd = 5 then ⟨turnL o.k o.p xs, 0, zeroI, 0, doneT o.k o.p xs xs.length⟩
  else if o.kd = 6 then ⟨[], 0, zeroI, xs.length, true⟩
  else ⟨xs, 0, zeroI, 0, true⟩
/-- Behind the switch: what holds. -/
structure MidD (w : World) (b ch most : Nat) (vs : List Value) (R : Res) (v7 : Value) (wr : World) : Prop where
  v7 : v7 = .bool R.is
  ex : ∃ us, QS wr b ch most us R.ys ∧ (∀ b', Bl us b' → w.heap.size + 4 ≤ b' ∨ Bl vs b')
  chg : Chg (fun b' => b' = ch ∨ Bl vs b') w wr
  r2 : row? wr (w.heap.size + 1 + 1) = aa R.e 0 none 0 0 R.n
  o2 : own? wr (w.heap.size + 1 + 1) = true
  r3 : ∃ a c, row? wr (w.heap.size + 1 + 1 + 1) = ic R.x.k a R.x.bs.length c ∧ RowsIn b1 0 1 wr a R.x.bs
  o3 : own? wr (w.heap.size + 1 + 1 + 1) = true
  r1 : row? wr (w.heap.size + 1) = aa 0 0 none 0 0 0
  o1 : own? wr (w.heap.size + 1) = true
theorem RowsIn.keptU {w w' : World} {a : Option Addr} {bs : List Int} (h : RowsIn b1 0 1 w a bs) {S : Nat → Prop} (hc : Chg S w w') (hS : ∀ b, S b → ∀ v ∈ row? w b, ∀ n, v ≠ .int .u8 n) : RowsIn b1 0 1 w' a bs := by
  rcases h with h | ⟨b, off, rfl, h⟩
  · exact .inl h
  · by_cases h0 : bs = []
    · exact .inl h0
    · have hl := List.length_pos_iff.2 h0
      have hcell := bytes_cells h 0 (.int .u8 (bs.getD 0 0)) (by simp [byts, hl])
      rw [add_pl, cell_row] at hcell
      have hn : ¬ S b := fun hs => hS b hs _ (Array.mem_of_getElem? hcell) _ rfl
      exact .inr ⟨b, off, rfl, h.same (hc.row (h.lt (by decide) h0) hn)⟩
theorem aa_nou (e q : Int) (a : Option Addr) (n c : Nat) (m : Int) : ∀ v ∈ aa e q a n c m, ∀ i, v ≠ .int .u8 i := by
  intro v hv i
  simp [aa] at hv
  rcases hv with rfl | rfl | rfl | rfl <;> simp
theorem ic_nou (q : Int) (a : Option Addr) (n c : Nat) : ∀ v ∈ ic q a n c, ∀ i, v ≠ .int .u8 i := by
  intro v hv i
  simp [ic] at hv
  rcases hv with rfl | rfl <;> simp
theorem set_e {w3 : World} {B2 B3 : Nat} (h : B3 ≠ B2) {q m : Int} {a : Option Addr} {n c : Nat} (r2 : row? w3 B2 = aa 0 0 none 0 0 m) (o2 : own? w3 B2 = true) (r3 : row? w3 B3 = ic q a n c) (o3 : own? w3 B3 = true) (E : Int) :
    Chg (fun b => b = B2 ∨ b = B3) w3 (w3.setCell ⟨B2, 0, none⟩ (.int .i64 E)) ∧ row? (w3.setCell ⟨B2, 0, none⟩ (.int .i64 E)) B2 = aa E 0 none 0 0 m ∧ own? (w3.setCell ⟨B2, 0, none⟩ (.int .i64 E)) B2 = true ∧ row? (w3.setCell ⟨B2, 0, none⟩ (.int .i64 E)) B3 = ic q a n c ∧ own? (w3.setCell ⟨B2, 0, none⟩ (.int .i64 E)) B3 = true :=
  ⟨(Chg.refl (fun b => b = B2 ∨ b = B3) w3).setCell (p := ⟨B2, 0, none⟩) (.inr (.inl rfl)) _, by rw [row_setCell, if_pos rfl, r2]; rfl, by rw [own_setCell]; exact o2, by rw [row_setCell, if_neg h]; exact r3, by rw [own_setCell]; exact o3⟩
theorem set_n {w3 : World} {B2 B3 : Nat} (h : B3 ≠ B2) {q : Int} {a : Option Addr} {n c : Nat} (r2 : row? w3 B2 = aa 0 0 none 0 0 0) (o2 : own? w3 B2 = true) (r3 : row? w3 B3 = ic q a n c) (o3 : own? w3 B3 = true) (N : Int) :
    Chg (fun b => b = B2 ∨ b = B3) w3 (w3.setCell ⟨B2, 3, none⟩ (.int .i64 N)) ∧ row? (w3.setCell ⟨B2, 3, none⟩ (.int .i64 N)) B2 = aa 0 0 none 0 0 N ∧ own? (w3.setCell ⟨B2, 3, none⟩ (.int .i64 N)) B2 = true ∧ row? (w3.setCell ⟨B2, 3, none⟩ (.int .i64 N)) B3 = ic q a n c ∧ own? (w3.setCell ⟨B2, 3, none⟩ (.int .i64 N)) B3 = true :=
  ⟨(Chg.refl (fun b => b = B2 ∨ b = B3) w3).setCell (p := ⟨B2, 3, none⟩) (.inr (.inl rfl)) _, by rw [row_setCell, if_pos rfl, r2]; rfl, by rw [own_setCell]; exact o2, by rw [row_setCell, if_neg h]; exact r3, by rw [own_setCell]; exact o3⟩
theorem set_x {w3 : World} {B2 B3 : Nat} (h : B3 ≠ B2) {q e m : Int} {a : Option Addr} {n c : Nat} (r2 : row? w3 B2 = aa e 0 none 0 0 m) (o2 : own? w3 B2 = true) (r3 : row? w3 B3 = ic 0 none 0 0) (o3 : own? w3 B3 = true) :
    Chg (fun b => b = B2 ∨ b = B3) w3 (w3.setRow B3 (ic q a n c)) ∧ row? (w3.setRow B3 (ic q a n c)) B2 = aa e 0 none 0 0 m ∧ own? (w3.setRow B3 (ic q a n c)) B2 = true ∧ row? (w3.setRow B3 (ic q a n c)) B3 = ic q a n c ∧ own? (w3.setRow B3 (ic q a n c)) B3 = true :=
  ⟨(Chg.refl (fun b => b = B2 ∨ b = B3) w3).setRow (.inr (.inr rfl)) _, by rw [row_setRow _ _ _ _ (by rw [r3]; simp), if_neg (Ne.symm h)]; exact r2, by rw [own_setRow]; exact o2, by rw [row_setRow _ _ _ _ (by rw [r3]; simp), if_pos rfl], by rw [own_setRow]; exact o3⟩
theorem set_xe {w3 : World} {B2 B3 : Nat} (h : B3 ≠ B2) {q m : Int} {a : Option Addr} {n c : Nat} (r2 : row? w3 B2 = aa 0 0 none 0 0 m) (o2 : own? w3 B2 = true) (r3 : row? w3 B3 = ic 0 none 0 0) (o3 : own? w3 B3 = true) (E : Int) :
    Chg (fun b => b = B2 ∨ b = B3) w3 ((w3.setRow B3 (ic q a n c)).setCell ⟨B2, 0, none⟩ (.int .i64 E)) ∧ row? ((w3.setRow B3 (ic q a n c)).setCell ⟨B2, 0, none⟩ (.int .i64 E)) B2 = aa E 0 none 0 0 m ∧ own? ((w3.setRow B3 (ic q a n c)).setCell ⟨B2, 0, none⟩ (.int .i64 E)) B2 = true ∧ row? ((w3.setRow B3 (ic q a n c)).setCell ⟨B2, 0, none⟩ (.int .i64 E)) B3 = ic q a n c ∧ own? ((w3.setRow B3 (ic q a n c)).setCell ⟨B2, 0, none⟩ (.int .i64 E)) B3 = true := by
  obtain ⟨h1, h2, h3, h4, h5⟩ := set_x (q := q) (a := a) (n := n) (c := c) h r2 o2 r3 o3
  obtain ⟨g1, g2, g3, g4, g5⟩ := set_e h h2 h3 h4 h5 E
  exact ⟨h1.trans g1, g2, g3, g4, g5⟩
theorem mid_of {w W1 w3 w4 : World} {b ch most : Nat} {vs us : List Value} {R : Res} (hW : w.heap.size + 4 ≤ W1.heap.size) (hb1 : Below w.heap.size w W1) (lc : ch < w.heap.size) (lb : b < w.heap.size) (hlt : ∀ b', Bl vs b' → b' < w.heap.size) (hr1 : row? W1 (w.heap.size + 1) = aa 0 0 none 0 0 0) (ho1 : own? W1 (w.heap.size + 1) = true)
    (q3 : QS w3 b ch most us R.ys) (f : ∀ b', Bl us b' → W1.heap.size ≤ b' ∨ Bl vs b') (c3 : Chg (fun b' => b' = ch ∨ Bl vs b') W1 w3) (c4 : Chg (fun b' => b' = w.heap.size + 1 + 1 ∨ b' = w.heap.size + 1 + 1 + 1) w3 w4)
    (r2 : row? w4 (w.heap.size + 1 + 1) = aa R.e 0 none 0 0 R.n) (o2 : own? w4 (w.heap.size + 1 + 1) = true) (r3 : ∃ a c, row? w4 (w.heap.size + 1 + 1 + 1) = ic R.x.k a R.x.bs.length c ∧ RowsIn b1 0 1 w4 a R.x.bs) (o3 : own? w4 (w.heap.size + 1 + 1 + 1) = true) : MidD w b ch most vs R (.bool R.is) w4 := by
  have hus : ∀ b', Bl us b' → ¬ (b' = w.heap.size + 1 + 1 ∨ b' = w.heap.size + 1 + 1 + 1) := fun b' hb' h => by
    rcases f b' hb' with h1 | h1
    · omega
    · have := hlt b' h1
      omega
  have hn1 : ¬ (w.heap.size + 1 = ch ∨ Bl vs (w.heap.size + 1)) := fun h => by
    rcases h with h | h
    · omega
    · have := hlt _ h
      omega
  have l1 := own_lt ho1
  have s3 := c3.size
  refine ⟨rfl, ⟨us, q3.kept c4 (by show ¬ (_ ∨ _); omega) (by show ¬ (_ ∨ _); omega) hus, fun b' hb' => (f b' hb').imp (fun h => by omega) id⟩, ((Chg.of_below hb1).trans c3).then' c4 (fun i e h => by omega), r2, o2, r3, o3, ?_, ?_⟩
  · rw [c4.row (by omega) (by omega), c3.row l1 hn1]
    exact hr1
  · rw [c4.own (by omega) (by omega), c3.own l1 hn1]
    exact ho1
set_option maxRecDepth 100000 in
set_option maxHeartbeats 2000000 in
theorem does_c {b ch most : Nat} {vs : List Value} {xs : List Itm} (o : OpI) (a : Option Addr) (c : Nat) (w : World) (hq : QS w b ch most vs xs) (hx : RowsIn b1 0 1 w a o.x.bs) (hm : most ≤ 1000) (hn : xs.length ≤ most) (hl : ∀ k, k < xs.length → (xs.getD k zeroI).bs.length ≤ 140737488351232) (hok : ∀ k, k < xs.length → okI (xs.getD k zeroI)) (hlo : o.x.bs.length ≤ 140737488351232) :
    Calls Try.prog 21 #[.pointer (some ⟨b, 0, none⟩), .agg (oa o a c)] w fun e w' => ∃ a' c' us, e = .returned (.agg (aa (eR (doR most o xs)) (doR most o xs).x.k a' (doR most o xs).x.bs.length c' (doR most o xs).n)) ∧ RowsIn b1 0 1 w' a' (doR most o xs).x.bs ∧ QS w' b ch most us (doR most o xs).ys ∧ (∀ b', Bl us b' → w.heap.size ≤ b' ∨ Bl vs b') ∧ Chg (fun b' => b' = ch ∨ Bl vs b') w w' := by
  have lb := hq.que.ltb
  have lc := hq.que.ltc
  have hlt := fun b' (h : Bl vs b') => hq.lt h
  have HLT_ := hid hlt
  clear hlt
  have HOK_ := hid hok
  clear hok
  go_enter Try.func21, Try.ntmps21
  go_upto_region 4 with (fail)
  obtain ⟨W1, hW1⟩ : ∃ W1, (((w.alloc (.cells (oa o a c) 49)).alloc (.cells (aa 0 0 none 0 0 0) 51)).alloc (.cells (aa 0 0 none 0 0 0) 51)).alloc (.cells (ic 0 none 0 0) 32) = W1 := ⟨_, rfl⟩
  have hb1 : Below w.heap.size w W1 := by rw [← hW1]; exact ((((Below.refl _ _).alloc (Nat.le_refl _) _).alloc (by simp) _).alloc (by simp; omega) _).alloc (by simp; omega) _
  have r0 : row? W1 w.heap.size = oa o a c := by
    rw [← hW1]
    simp [row_alloc, rowOf]
    rw [if_neg (by omega), if_neg (by omega)]
  have r1 : row? W1 (w.heap.size + 1) = aa 0 0 none 0 0 0 := by rw [← hW1]; simp [row_alloc, rowOf]
  have r2 : row? W1 (w.heap.size + 1 + 1) = aa 0 0 none 0 0 0 := by rw [← hW1]; simp [row_alloc, rowOf]
  have r3 : row? W1 (w.heap.size + 1 + 1 + 1) = ic 0 none 0 0 := by rw [← hW1]; simp [row_alloc, rowOf]
  have o1 : own? W1 (w.heap.size + 1) = true := by rw [← hW1]; simp [own_alloc, ownOf]
  have o2 : own? W1 (w.heap.size + 1 + 1) = true := by rw [← hW1]; simp [own_alloc, ownOf]
  have o3 : own? W1 (w.heap.size + 1 + 1 + 1) = true := by rw [← hW1]; simp [own_alloc, ownOf]
  have hs1 : w.heap.size + 4 ≤ W1.heap.size := by rw [← hW1]; simp
  simp only [aa_lit]
  rw [hW1]
  clear hW1
  have q1 := hq.below hb1
  have hx1 := hx.below (by decide) hb1
  have hB : ∀ w3, Chg (fun b' => b' = ch ∨ Bl vs b') W1 w3 → ∀ B, w.heap.size ≤ B → B < W1.heap.size → row? w3 B = row? W1 B ∧ own? w3 B = own? W1 B := fun w3 c3 B h1 h2 => by
    have hn : ¬ (B = ch ∨ Bl vs B) := fun h => by
      rcases h with h | h
      · omega
      · have := HLT_.out B h
        omega
    exact ⟨c3.row h2 hn, c3.own h2 hn⟩
  have hmid := fun (w3 w4 : World) (us : List Value) (R : Res) => mid_of (w := w) (W1 := W1) (w3 := w3) (w4 := w4) (b := b) (ch := ch) (most := most) (vs := vs) (us := us) (R := R) hs1 hb1 lc lb HLT_.out r1 o1
  clear hx hq
  obtain ⟨kd, k, p, x⟩ := o
  have HB1_ := hid hb1
  clear hb1
  have Q1_ := hid q1
  clear q1
  have HX1_ := hid hx1
  clear hx1
  have HB_ := hid hB
  clear hB
  have HMID_ := hid hmid
  clear hmid
  have R1_ := hid r1
  clear r1
  have O1_ := hid o1
  clear o1
  go_upto_block 0 with (fail)
  go_cut [7] (fun v7 wr => MidD w b ch most vs (doR most ⟨kd, k, p, x⟩ xs) v7 wr)
  case first =>
    rcases (show kd = 0 ∨ kd ≠ 0 by omega) with h0 | h0
    · subst h0
      by_cases hr : xs.length < most
      · have hR : doR most ⟨0, k, p, x⟩ xs = ⟨xs ++ [x], 0, zeroI, 0, true⟩ := by unfold doR; rw [if_pos rfl, if_pos hr]
        have hr' : vs.length < most := by rw [Q1_.out.its.1]; exact hr
        have HR'_ := hid hr'
        clear hr'
        have HR_ := hid hR
        clear hR
        go_wp2_with fail
        refine (put_q _ x hlo W1 Q1_.out ⟨a, c, rfl, HX1_.out⟩ HR'_.out).mono ?_
        rintro e w3 ⟨rfl, v', q3, n3, c3⟩
        dsimp only
        have cg : Chg (fun b' => b' = ch ∨ Bl vs b') W1 w3 := c3.mono (fun _ _ h => .inl h)
        obtain ⟨e2, p2⟩ := HB_.out w3 cg _ (by omega) (by omega : w.heap.size + 1 + 1 < W1.heap.size)
        obtain ⟨e3, p3⟩ := HB_.out w3 cg _ (by omega) (by omega : w.heap.size + 1 + 1 + 1 < W1.heap.size)
        have r2w := e2.trans r2
        have o2w := p2.trans o2
        have r3w := e3.trans r3
        have o3w := p3.trans o3
        clear e2 e3 p2 p3
        have hf : ∀ b', Bl (vs ++ [v']) b' → W1.heap.size ≤ b' ∨ Bl vs b' := fun b' hb' => (Bl.snoc.1 hb').elim .inr (fun h => .inl (n3.blk h).1)
        clear n3 c3
        have Q3_ := hid q3
        clear q3
        have CG_ := hid cg
        clear cg
        have HF_ := hid hf
        clear hf
        go_wp2
        go_meet
        case rel =>
          obtain ⟨c4, s2, t2, s3, t3⟩ := set_e (show w.heap.size + 1 + 1 + 1 ≠ w.heap.size + 1 + 1 by omega) r2w o2w r3w o3w 0
          rw [HR_.out]
          exact HMID_.out w3 _ _ _ Q3_.out HF_.out CG_.out c4 s2 t2 ⟨_, _, s3, (.inl rfl)⟩ t3
      · have hR : doR most ⟨0, k, p, x⟩ xs = ⟨xs, 180, zeroI, 0, true⟩ := by unfold doR; rw [if_pos rfl, if_neg hr]
        have hr' : most ≤ vs.length := by rw [Q1_.out.its.1]; omega
        have HR'_ := hid hr'
        clear hr'
        have HR_ := hid hR
        clear hR
        go_wp2_with fail
        refine (put_qf _ x hlo W1 Q1_.out ⟨a, c, rfl, HX1_.out⟩ HR'_.out).mono ?_
        rintro e w3 ⟨rfl, q3, b3⟩
        dsimp only
        have cg : Chg (fun b' => b' = ch ∨ Bl vs b') W1 w3 := .of_below b3
        obtain ⟨e2, p2⟩ := HB_.out w3 cg _ (by omega) (by omega : w.heap.size + 1 + 1 < W1.heap.size)
        obtain ⟨e3, p3⟩ := HB_.out w3 cg _ (by omega) (by omega : w.heap.size + 1 + 1 + 1 < W1.heap.size)
        have r2w := e2.trans r2
        have o2w := p2.trans o2
        have r3w := e3.trans r3
        have o3w := p3.trans o3
        clear e2 e3 p2 p3
        have hf : ∀ b', Bl vs b' → W1.heap.size ≤ b' ∨ Bl vs b' := fun b' hb' => .inr hb'
        clear b3
        have Q3_ := hid q3
        clear q3
        have CG_ := hid cg
        clear cg
        have HF_ := hid hf
        clear hf
        go_wp2
        go_meet
        case rel =>
          obtain ⟨c4, s2, t2, s3, t3⟩ := set_e (show w.heap.size + 1 + 1 + 1 ≠ w.heap.size + 1 + 1 by omega) r2w o2w r3w o3w 180
          rw [HR_.out]
          exact HMID_.out w3 _ _ _ Q3_.out HF_.out CG_.out c4 s2 t2 ⟨_, _, s3, (.inl rfl)⟩ t3
    rcases (show kd = 1 ∨ kd ≠ 1 by omega) with h1 | h1
    · subst h1
      match xs, vs, Q1_.out.its.1 with
      | [], [], _ =>
        have hR : doR most ⟨1, k, p, x⟩ [] = ⟨[], 181, zeroI, 0, true⟩ := by unfold doR; rw [if_neg (show ¬ ((1 : Int) = 0) by decide), if_pos rfl]
        have HR_ := hid hR
        clear hR
        go_wp2_with fail
        refine (take_none W1 Q1_.out.que).mono ?_
        rintro e w3 ⟨rfl, b3⟩
        dsimp only
        have q3 := Q1_.out.below b3
        have cg : Chg (fun b' => b' = ch ∨ Bl [] b') W1 w3 := .of_below b3
        obtain ⟨e2, p2⟩ := HB_.out w3 cg _ (by omega) (by omega : w.heap.size + 1 + 1 < W1.heap.size)
        obtain ⟨e3, p3⟩ := HB_.out w3 cg _ (by omega) (by omega : w.heap.size + 1 + 1 + 1 < W1.heap.size)
        have r2w := e2.trans r2
        have o2w := p2.trans o2
        have r3w := e3.trans r3
        have o3w := p3.trans o3
        clear e2 e3 p2 p3
        have hf : ∀ b', Bl [] b' → W1.heap.size ≤ b' ∨ Bl [] b' := fun b' hb' => .inr hb'
        clear b3
        have Q3_ := hid q3
        clear q3
        have CG_ := hid cg
        clear cg
        have HF_ := hid hf
        clear hf
        go_wp2
        go_meet
        case rel =>
          obtain ⟨c4, s2, t2, s3, t3⟩ := set_xe (q := 0) (a := none) (n := 0) (c := 0) (show w.heap.size + 1 + 1 + 1 ≠ w.heap.size + 1 + 1 by omega) r2w o2w r3w o3w 181
          rw [HR_.out]
          exact HMID_.out w3 _ _ _ Q3_.out HF_.out CG_.out c4 s2 t2 ⟨_, _, s3, (.inl rfl)⟩ t3
      | y :: ys, v :: vs, _ =>
        have hR : doR most ⟨1, k, p, x⟩ (y :: ys) = ⟨ys, 0, y, 0, true⟩ := by unfold doR; rw [if_neg (show ¬ ((1 : Int) = 0) by decide), if_pos rfl]
        have HR_ := hid hR
        clear hR
        go_wp2_with fail
        refine (take_q W1 Q1_.out).mono ?_
        rintro e w3 ⟨rfl, q3, ⟨a2, c2, rfl, hr2⟩, _, c3⟩
        dsimp only
        have cg : Chg (fun b' => b' = ch ∨ Bl (.agg (ic y.k a2 y.bs.length c2) :: vs) b') W1 w3 := c3.mono (fun _ _ h => .inl h)
        obtain ⟨e2, p2⟩ := HB_.out w3 cg _ (by omega) (by omega : w.heap.size + 1 + 1 < W1.heap.size)
        obtain ⟨e3, p3⟩ := HB_.out w3 cg _ (by omega) (by omega : w.heap.size + 1 + 1 + 1 < W1.heap.size)
        have r2w := e2.trans r2
        have o2w := p2.trans o2
        have r3w := e3.trans r3
        have o3w := p3.trans o3
        clear e2 e3 p2 p3
        have hf : ∀ b', Bl vs b' → W1.heap.size ≤ b' ∨ Bl (.agg (ic y.k a2 y.bs.length c2) :: vs) b' := fun b' hb' => .inr (Bl.cons.2 (.inr hb'))
        clear c3
        have Q3_ := hid q3
        clear q3
        have CG_ := hid cg
        clear cg
        have HF_ := hid hf
        clear hf
        have HR2_ := hid hr2
        clear hr2
        go_wp2
        go_meet
        case rel =>
          obtain ⟨c4, s2, t2, s3, t3⟩ := set_xe (q := y.k) (a := a2) (n := y.bs.length) (c := c2) (show w.heap.size + 1 + 1 + 1 ≠ w.heap.size + 1 + 1 by omega) r2w o2w r3w o3w 0
          rw [HR_.out]
          exact HMID_.out w3 _ _ _ Q3_.out HF_.out CG_.out c4 s2 t2 ⟨_, _, s3, HR2_.out.keptU c4 (fun g hg => by
              rcases hg with rfl | rfl
              · rw [r2w]; exact aa_nou _ _ _ _ _ _
              · rw [r3w]; exact ic_nou _ _ _ _)⟩ t3
    rcases (show kd = 2 ∨ kd ≠ 2 by omega) with h2 | h2
    · subst h2
      by_cases hh : 0 ≤ k ∧ k < (xs.length : Int)
      · have hR : doR most ⟨2, k, p, x⟩ xs = ⟨keptN (fun i => decide ((i : Int) ≠ k)) xs xs.length, 0, xs.getD k.toNat zeroI, 0, true⟩ := by unfold doR; rw [if_neg (show ¬ ((2 : Int) = 0) by decide), if_neg (show ¬ ((2 : Int) = 1) by decide), if_pos rfl, if_pos hh, decide_eq_true hh]
        have hcall := pick_q k W1 Q1_.out hm hn hl
        have HR_ := hid hR
        clear hR
        have HCALL_ := hid hcall
        clear hcall
        go_wp2_with fail
        refine HCALL_.out.mono ?_
        rintro e w3 ⟨v, us, rfl, q3, f3, hit, hmiss, c3⟩
        dsimp only
        rw [decide_eq_true hh]
        obtain ⟨a2, c2, rfl, hr2⟩ := hit hh
        have hR := HR_.out
        generalize xs.getD k.toNat zeroI = y at *
        have cg : Chg (fun b' => b' = ch ∨ Bl vs b') W1 w3 := c3
        obtain ⟨e2, p2⟩ := HB_.out w3 cg _ (by omega) (by omega : w.heap.size + 1 + 1 < W1.heap.size)
        obtain ⟨e3, p3⟩ := HB_.out w3 cg _ (by omega) (by omega : w.heap.size + 1 + 1 + 1 < W1.heap.size)
        have r2w := e2.trans r2
        have o2w := p2.trans o2
        have r3w := e3.trans r3
        have o3w := p3.trans o3
        clear e2 e3 p2 p3
        have hf : ∀ b', Bl us b' → W1.heap.size ≤ b' ∨ Bl vs b' := fun b' hb' => .inl (f3 b' hb')
        clear c3 f3 hit hmiss HR_ HCALL_
        have Q3_ := hid q3
        clear q3
        have CG_ := hid cg
        clear cg
        have HF_ := hid hf
        clear hf
        have HR_ := hid hR
        clear hR
        have HR2_ := hid hr2
        clear hr2
        go_wp2
        go_meet
        case rel =>
          obtain ⟨c4, s2, t2, s3, t3⟩ := set_x (q := y.k) (a := a2) (n := y.bs.length) (c := c2) (show w.heap.size + 1 + 1 + 1 ≠ w.heap.size + 1 + 1 by omega) r2w o2w r3w o3w
          rw [HR_.out]
          exact HMID_.out w3 _ _ _ Q3_.out HF_.out CG_.out c4 s2 t2 ⟨_, _, s3, HR2_.out.keptU c4 (fun g hg => by
              rcases hg with rfl | rfl
              · rw [r2w]; exact aa_nou _ _ _ _ _ _
              · rw [r3w]; exact ic_nou _ _ _ _)⟩ t3
      · have hR : doR most ⟨2, k, p, x⟩ xs = ⟨keptN (fun i => decide ((i : Int) ≠ k)) xs xs.length, 0, zeroI, 0, false⟩ := by unfold doR; rw [if_neg (show ¬ ((2 : Int) = 0) by decide), if_neg (show ¬ ((2 : Int) = 1) by decide), if_pos rfl, if_neg hh, decide_eq_false hh]
        have hcall := pick_q k W1 Q1_.out hm hn hl
        have HR_ := hid hR
        clear hR
        have HCALL_ := hid hcall
        clear hcall
        go_wp2_with fail
        refine HCALL_.out.mono ?_
        rintro e w3 ⟨v, us, rfl, q3, f3, hit, hmiss, c3⟩
        dsimp only
        rw [decide_eq_false hh]
        obtain rfl := hmiss hh
        have hR := HR_.out
        have cg : Chg (fun b' => b' = ch ∨ Bl vs b') W1 w3 := c3
        obtain ⟨e2, p2⟩ := HB_.out w3 cg _ (by omega) (by omega : w.heap.size + 1 + 1 < W1.heap.size)
        obtain ⟨e3, p3⟩ := HB_.out w3 cg _ (by omega) (by omega : w.heap.size + 1 + 1 + 1 < W1.heap.size)
        have r2w := e2.trans r2
        have o2w := p2.trans o2
        have r3w := e3.trans r3
        have o3w := p3.trans o3
        clear e2 e3 p2 p3
        have hf : ∀ b', Bl us b' → W1.heap.size ≤ b' ∨ Bl vs b' := fun b' hb' => .inl (f3 b' hb')
        clear c3 f3 hit hmiss HR_ HCALL_
        have Q3_ := hid q3
        clear q3
        have CG_ := hid cg
        clear cg
        have HF_ := hid hf
        clear hf
        have HR_ := hid hR
        clear hR
        go_wp2
        go_meet
        case rel =>
          obtain ⟨c4, s2, t2, s3, t3⟩ := set_x (q := 0) (a := none) (n := 0) (c := 0) (show w.heap.size + 1 + 1 + 1 ≠ w.heap.size + 1 + 1 by omega) r2w o2w r3w o3w
          rw [HR_.out]
          exact HMID_.out w3 _ _ _ Q3_.out HF_.out CG_.out c4 s2 t2 ⟨_, _, s3, (.inl rfl)⟩ t3
    rcases (show kd = 3 ∨ kd ≠ 3 by omega) with h3 | h3
    · subst h3
      by_cases hh : 0 ≤ k ∧ k < (xs.length : Int)
      · have hR : doR most ⟨3, k, p, x⟩ xs = ⟨xs, 0, xs.getD k.toNat zeroI, 0, true⟩ := by unfold doR; rw [if_neg (show ¬ ((3 : Int) = 0) by decide), if_neg (show ¬ ((3 : Int) = 1) by decide), if_neg (show ¬ ((3 : Int) = 2) by decide), if_pos rfl, if_pos hh, decide_eq_true hh]
        have hcall := look_c k W1 Q1_.out hm hn hl
        have HR_ := hid hR
        clear hR
        have HCALL_ := hid hcall
        clear hcall
        go_wp2_with fail
        refine HCALL_.out.mono ?_
        rintro e w3 ⟨v, us, rfl, q3, f3, hit, hmiss, c3⟩
        dsimp only
        rw [decide_eq_true hh]
        obtain ⟨a2, c2, rfl, hr2⟩ := (hit hh).itm
        have hR := HR_.out
        generalize xs.getD k.toNat zeroI = y at *
        have cg : Chg (fun b' => b' = ch ∨ Bl vs b') W1 w3 := c3
        obtain ⟨e2, p2⟩ := HB_.out w3 cg _ (by omega) (by omega : w.heap.size + 1 + 1 < W1.heap.size)
        obtain ⟨e3, p3⟩ := HB_.out w3 cg _ (by omega) (by omega : w.heap.size + 1 + 1 + 1 < W1.heap.size)
        have r2w := e2.trans r2
        have o2w := p2.trans o2
        have r3w := e3.trans r3
        have o3w := p3.trans o3
        clear e2 e3 p2 p3
        have hf : ∀ b', Bl us b' → W1.heap.size ≤ b' ∨ Bl vs b' := fun b' hb' => .inl ((f3 b' hb').1)
        clear c3 f3 hit hmiss HR_ HCALL_
        have Q3_ := hid q3
        clear q3
        have CG_ := hid cg
        clear cg
        have HF_ := hid hf
        clear hf
        have HR_ := hid hR
        clear hR
        have HR2_ := hid hr2
        clear hr2
        go_wp2
        go_meet
        case rel =>
          obtain ⟨c4, s2, t2, s3, t3⟩ := set_x (q := y.k) (a := a2) (n := y.bs.length) (c := c2) (show w.heap.size + 1 + 1 + 1 ≠ w.heap.size + 1 + 1 by omega) r2w o2w r3w o3w
          rw [HR_.out]
          exact HMID_.out w3 _ _ _ Q3_.out HF_.out CG_.out c4 s2 t2 ⟨_, _, s3, HR2_.out.keptU c4 (fun g hg => by
              rcases hg with rfl | rfl
              · rw [r2w]; exact aa_nou _ _ _ _ _ _
              · rw [r3w]; exact ic_nou _ _ _ _)⟩ t3
      · have hR : doR most ⟨3, k, p, x⟩ xs = ⟨xs, 0, zeroI, 0, false⟩ := by unfold doR; rw [if_neg (show ¬ ((3 : Int) = 0) by decide), if_neg (show ¬ ((3 : Int) = 1) by decide), if_neg (show ¬ ((3 : Int) = 2) by decide), if_pos rfl, if_neg hh, decide_eq_false hh]
        have hcall := look_c k W1 Q1_.out hm hn hl
        have HR_ := hid hR
        clear hR
        have HCALL_ := hid hcall
        clear hcall
        go_wp2_with fail
        refine HCALL_.out.mono ?_
        rintro e w3 ⟨v, us, rfl, q3, f3, hit, hmiss, c3⟩
        dsimp only
        rw [decide_eq_false hh]
        obtain rfl := hmiss hh
        have hR := HR_.out
        have cg : Chg (fun b' => b' = ch ∨ Bl vs b') W1 w3 := c3
        obtain ⟨e2, p2⟩ := HB_.out w3 cg _ (by omega) (by omega : w.heap.size + 1 + 1 < W1.heap.size)
        obtain ⟨e3, p3⟩ := HB_.out w3 cg _ (by omega) (by omega : w.heap.size + 1 + 1 + 1 < W1.heap.size)
        have r2w := e2.trans r2
        have o2w := p2.trans o2
        have r3w := e3.trans r3
        have o3w := p3.trans o3
        clear e2 e3 p2 p3
        have hf : ∀ b', Bl us b' → W1.heap.size ≤ b' ∨ Bl vs b' := fun b' hb' => .inl ((f3 b' hb').1)
        clear c3 f3 hit hmiss HR_ HCALL_
        have Q3_ := hid q3
        clear q3
        have CG_ := hid cg
        clear cg
        have HF_ := hid hf
        clear hf
        have HR_ := hid hR
        clear hR
        go_wp2
        go_meet
        case rel =>
          obtain ⟨c4, s2, t2, s3, t3⟩ := set_x (q := 0) (a := none) (n := 0) (c := 0) (show w.heap.size + 1 + 1 + 1 ≠ w.heap.size + 1 + 1 by omega) r2w o2w r3w o3w
          rw [HR_.out]
          exact HMID_.out w3 _ _ _ Q3_.out HF_.out CG_.out c4 s2 t2 ⟨_, _, s3, (.inl rfl)⟩ t3
    rcases (show kd = 4 ∨ kd ≠ 4 by omega) with h4 | h4
    · subst h4
      have hR : doR most ⟨4, k, p, x⟩ xs = ⟨twiceL most k xs, 0, zeroI, 0, twiceB most k xs⟩ := by unfold doR; rw [if_neg (show ¬ ((4 : Int) = 0) by decide), if_neg (show ¬ ((4 : Int) = 1) by decide), if_neg (show ¬ ((4 : Int) = 2) by decide), if_neg (show ¬ ((4 : Int) = 3) by decide), if_pos rfl]
      have hcall := twice_c k W1 Q1_.out hm hn hl
      have HR_ := hid hR
      clear hR
      have HCALL_ := hid hcall
      clear hcall
      go_wp2_with fail
      refine HCALL_.out.mono ?_
      rintro e w3 ⟨rfl, us, q3, f3, c3⟩
      dsimp only
      have cg : Chg (fun b' => b' = ch ∨ Bl vs b') W1 w3 := c3
      obtain ⟨e2, p2⟩ := HB_.out w3 cg _ (by omega) (by omega : w.heap.size + 1 + 1 < W1.heap.size)
      obtain ⟨e3, p3⟩ := HB_.out w3 cg _ (by omega) (by omega : w.heap.size + 1 + 1 + 1 < W1.heap.size)
      have r2w := e2.trans r2
      have o2w := p2.trans o2
      have r3w := e3.trans r3
      have o3w := p3.trans o3
      clear e2 e3 p2 p3
      have hf : ∀ b', Bl us b' → W1.heap.size ≤ b' ∨ Bl vs b' := fun b' hb' => .inl (f3 b' hb')
      clear c3 f3 HCALL_
      have Q3_ := hid q3
      clear q3
      have CG_ := hid cg
      clear cg
      have HF_ := hid hf
      clear hf
      go_wp2
      go_meet
      case rel =>
        rw [HR_.out]
        exact HMID_.out w3 _ _ _ Q3_.out HF_.out CG_.out (Chg.refl _ _) r2w o2w ⟨_, _, r3w, (.inl rfl)⟩ o3w
    rcases (show kd = 5 ∨ kd ≠ 5 by omega) with h5 | h5
    · subst h5
      have hR : doR most ⟨5, k, p, x⟩ xs = ⟨turnL k p xs, 0, zeroI, 0, doneT k p xs xs.length⟩ := by unfold doR; rw [if_neg (show ¬ ((5 : Int) = 0) by decide), if_neg (show ¬ ((5 : Int) = 1) by decide), if_neg (show ¬ ((5 : Int) = 2) by decide), if_neg (show ¬ ((5 : Int) = 3) by decide), if_neg (show ¬ ((5 : Int) = 4) by decide), if_pos rfl]
      have hcall := turn_c k p W1 Q1_.out hm hn hl HOK_.out
      have HR_ := hid hR
      clear hR
      have HCALL_ := hid hcall
      clear hcall
      go_wp2_with fail
      refine HCALL_.out.mono ?_
      rintro e w3 ⟨rfl, us, q3, f3, c3⟩
      dsimp only
      have cg : Chg (fun b' => b' = ch ∨ Bl vs b') W1 w3 := c3
      obtain ⟨e2, p2⟩ := HB_.out w3 cg _ (by omega) (by omega : w.heap.size + 1 + 1 < W1.heap.size)
      obtain ⟨e3, p3⟩ := HB_.out w3 cg _ (by omega) (by omega : w.heap.size + 1 + 1 + 1 < W1.heap.size)
      have r2w := e2.trans r2
      have o2w := p2.trans o2
      have r3w := e3.trans r3
      have o3w := p3.trans o3
      clear e2 e3 p2 p3
      have hf : ∀ b', Bl us b' → W1.heap.size ≤ b' ∨ Bl vs b' := fun b' hb' => .inl (f3 b' hb')
      clear c3 f3 HCALL_
      have Q3_ := hid q3
      clear q3
      have CG_ := hid cg
      clear cg
      have HF_ := hid hf
      clear hf
      go_wp2
      go_meet
      case rel =>
        rw [HR_.out]
        exact HMID_.out w3 _ _ _ Q3_.out HF_.out CG_.out (Chg.refl _ _) r2w o2w ⟨_, _, r3w, (.inl rfl)⟩ o3w
    rcases (show kd = 6 ∨ kd ≠ 6 by omega) with h6 | h6
    · subst h6
      have hR : doR most ⟨6, k, p, x⟩ xs = ⟨[], 0, zeroI, xs.length, true⟩ := by unfold doR; rw [if_neg (show ¬ ((6 : Int) = 0) by decide), if_neg (show ¬ ((6 : Int) = 1) by decide), if_neg (show ¬ ((6 : Int) = 2) by decide), if_neg (show ¬ ((6 : Int) = 3) by decide), if_neg (show ¬ ((6 : Int) = 4) by decide), if_neg (show ¬ ((6 : Int) = 5) by decide), if_pos rfl]
      have hcall := clear_q W1 Q1_.out hm hn hl
      have HR_ := hid hR
      clear hR
      have HCALL_ := hid hcall
      clear hcall
      go_wp2_with fail
      refine HCALL_.out.mono ?_
      rintro e w3 ⟨rfl, q3, c3⟩
      dsimp only
      have cg : Chg (fun b' => b' = ch ∨ Bl vs b') W1 w3 := c3
      obtain ⟨e2, p2⟩ := HB_.out w3 cg _ (by omega) (by omega : w.heap.size + 1 + 1 < W1.heap.size)
      obtain ⟨e3, p3⟩ := HB_.out w3 cg _ (by omega) (by omega : w.heap.size + 1 + 1 + 1 < W1.heap.size)
      have r2w := e2.trans r2
      have o2w := p2.trans o2
      have r3w := e3.trans r3
      have o3w := p3.trans o3
      clear e2 e3 p2 p3
      have hf : ∀ b', Bl [] b' → W1.heap.size ≤ b' ∨ Bl vs b' := fun b' ⟨v, hv, _⟩ => absurd hv (by simp)
      clear c3 HCALL_
      have Q3_ := hid q3
      clear q3
      have CG_ := hid cg
      clear cg
      have HF_ := hid hf
      clear hf
      go_wp2
      go_meet
      case rel =>
        obtain ⟨c4, s2, t2, s3, t3⟩ := set_n (show w.heap.size + 1 + 1 + 1 ≠ w.heap.size + 1 + 1 by omega) r2w o2w r3w o3w xs.length
        rw [HR_.out]
        exact HMID_.out w3 _ _ _ Q3_.out HF_.out CG_.out c4 s2 t2 ⟨_, _, s3, (.inl rfl)⟩ t3
    have hR : doR most ⟨kd, k, p, x⟩ xs = ⟨xs, 0, zeroI, 0, true⟩ := by unfold doR; rw [if_neg h0, if_neg h1, if_neg h2, if_neg h3, if_neg h4, if_neg h5, if_neg h6]
    have HR_ := hid hR
    clear hR
    go_wp2
    go_meet
    case rel =>
      rw [HR_.out]
      exact HMID_.out W1 W1 vs ⟨xs, 0, zeroI, 0, true⟩ Q1_.out (fun b' hb' => .inr hb') (Chg.refl _ _) (Chg.refl _ _) r2 o2 ⟨_, _, r3, (.inl rfl)⟩ o3
  case rest =>
    obtain ⟨rfl, ⟨us, q2, f2⟩, c2, r2', o2', ⟨a', c', r3', hr3⟩, o3', r1', o1'⟩ := hcut
    clear hlo
    obtain ⟨R, hR⟩ : ∃ R, doR most ⟨kd, k, p, x⟩ xs = R := ⟨_, rfl⟩
    rw [hR] at q2 r2' r3' hr3 ⊢
    obtain ⟨ys, E, y, N, is⟩ := R
    dsimp only at q2 r2' r3' hr3 ⊢
    have hst := stRItmP wc (w.heap.size + 1 + 1) E 0 y.k none a' 0 0 y.bs.length c' N r2' o2'
    have hu : ∀ b', Bl us b' → ¬ (b' = w.heap.size + 1 + 1 ∨ b' = w.heap.size + 1) := fun b' hb' h => by
      rcases f2 b' hb' with h1 | h1
      · omega
      · have := HLT_.out b' h1
        omega
    clear HMID_ HB_ HB1_ Q1_ HX1_ R1_ O1_ r0 r2 r3 o2 o3 hs1
    have Q2_ := hid q2
    clear q2
    have F2_ := hid f2
    clear f2
    have C2_ := hid c2
    clear c2
    have HR3_ := hid hr3
    clear hr3
    have HU_ := hid hu
    clear hu
    have HR_ := hid hR
    clear hR
    go_upto_region 20 with (fail)
    have d1 : Chg (fun b => b = w.heap.size + 1 + 1 ∨ b = w.heap.size + 1) wc (wc.setRow (w.heap.size + 1 + 1) (aa E y.k a' y.bs.length c' N)) := (Chg.refl (fun b => b = w.heap.size + 1 + 1 ∨ b = w.heap.size + 1) wc).setRow (.inr (.inl rfl)) _
    have s2 : row? (wc.setRow (w.heap.size + 1 + 1) (aa E y.k a' y.bs.length c' N)) (w.heap.size + 1 + 1) = aa E y.k a' y.bs.length c' N := by rw [row_setRow _ _ _ _ (by rw [r2']; simp), if_pos rfl]
    have t2 : own? (wc.setRow (w.heap.size + 1 + 1) (aa E y.k a' y.bs.length c' N)) (w.heap.size + 1 + 1) = true := by rw [own_setRow]; exact o2'
    have s1 : row? (wc.setRow (w.heap.size + 1 + 1) (aa E y.k a' y.bs.length c' N)) (w.heap.size + 1) = aa 0 0 none 0 0 0 := by rw [row_setRow _ _ _ _ (by rw [r2']; simp), if_neg (by omega)]; exact r1'
    have t1 : own? (wc.setRow (w.heap.size + 1 + 1) (aa E y.k a' y.bs.length c' N)) (w.heap.size + 1) = true := by rw [own_setRow]; exact o1'
    have e2 : RowsIn b1 0 1 (wc.setRow (w.heap.size + 1 + 1) (aa E y.k a' y.bs.length c' N)) a' y.bs := HR3_.out.keptU d1 (fun g hg => by
      rcases hg with rfl | rfl
      · rw [r2']; exact aa_nou _ _ _ _ _ _
      · rw [r1']; exact aa_nou _ _ _ _ _ _)
    generalize wc.setRow (w.heap.size + 1 + 1) (aa E y.k a' y.bs.length c' N) = w3 at *
    clear hst r2' o2' r3' o3' r1' o1' HR3_
    cases is with
    | true =>
      have D1_ := hid d1
      clear d1
      have E2_ := hid e2
      clear e2
      go_wp2
      have d3 : Chg (fun b => b = w.heap.size + 1 + 1 ∨ b = w.heap.size + 1) w3 (w3.setRow (w.heap.size + 1) (aa E y.k a' y.bs.length c' N)) := (Chg.refl (fun b => b = w.heap.size + 1 + 1 ∨ b = w.heap.size + 1) w3).setRow (.inr (.inr rfl)) _
      have s4 : row? (w3.setRow (w.heap.size + 1) (aa E y.k a' y.bs.length c' N)) (w.heap.size + 1) = aa E y.k a' y.bs.length c' N := by rw [row_setRow _ _ _ _ (by rw [s1]; simp), if_pos rfl]
      have e4 : RowsIn b1 0 1 (w3.setRow (w.heap.size + 1) (aa E y.k a' y.bs.length c' N)) a' y.bs := E2_.out.keptU ((Chg.refl (fun b => b = w.heap.size + 1) w3).setRow (.inr rfl) _) (fun g hg => by
        rw [hg, s1]
        exact aa_nou _ _ _ _ _ _)
      generalize w3.setRow (w.heap.size + 1) (aa E y.k a' y.bs.length c' N) = w5 at *
      have dd := D1_.out.trans d3
      refine bodyPost_ret (results_cell rfl rfl (v := .agg (aa E y.k a' y.bs.length c' N)) (by rw [ldAns _ _ _ (by rw [s4]; simp), s4]; simp)) rfl (by rw [HR_.out]; exact ⟨a', c', us, rfl, e4, Q2_.out.kept dd (by show ¬ (_ ∨ _); omega) (by show ¬ (_ ∨ _); omega) HU_.out, fun b' hb' => (F2_.out b' hb').imp (fun h => by omega) id, C2_.out.then' dd (fun i e h => by omega)⟩)
    | false =>
      have E2_ := hid e2
      clear e2
      go_upto_region 22 with (fail)
      have d2 : Chg (fun b => b = w.heap.size + 1 + 1 ∨ b = w.heap.size + 1) w3 (w3.setCell ⟨w.heap.size + 1 + 1, 0, none⟩ (.int .i64 1)) := (Chg.refl (fun b => b = w.heap.size + 1 + 1 ∨ b = w.heap.size + 1) w3).setCell (p := ⟨w.heap.size + 1 + 1, 0, none⟩) (.inr (.inl rfl)) _
      have e3 := E2_.out.keptU d2 (fun g hg => by
        rcases hg with rfl | rfl
        · rw [s2]; exact aa_nou _ _ _ _ _ _
        · rw [s1]; exact aa_nou _ _ _ _ _ _)
      have u2 : row? (w3.setCell ⟨w.heap.size + 1 + 1, 0, none⟩ (.int .i64 1)) (w.heap.size + 1 + 1) = aa 1 y.k a' y.bs.length c' N := by rw [row_setCell, if_pos rfl, s2]; rfl
      have u1 : row? (w3.setCell ⟨w.heap.size + 1 + 1, 0, none⟩ (.int .i64 1)) (w.heap.size + 1) = aa 0 0 none 0 0 0 := by rw [row_setCell, if_neg (by show ¬ w.heap.size + 1 = w.heap.size + 1 + 1; omega)]; exact s1
      have v1 : own? (w3.setCell ⟨w.heap.size + 1 + 1, 0, none⟩ (.int .i64 1)) (w.heap.size + 1) = true := by rw [own_setCell]; exact t1
      generalize w3.setCell ⟨w.heap.size + 1 + 1, 0, none⟩ (.int .i64 1) = w4 at *
      have d1' := d1.trans d2
      clear d1 d2 s1 s2 t1 t2 E2_
      have D1'_ := hid d1'
      clear d1'
      have E3_ := hid e3
      clear e3
      go_wp2
      have d3 : Chg (fun b => b = w.heap.size + 1 + 1 ∨ b = w.heap.size + 1) w4 (w4.setRow (w.heap.size + 1) (aa 1 y.k a' y.bs.length c' N)) := (Chg.refl (fun b => b = w.heap.size + 1 + 1 ∨ b = w.heap.size + 1) w4).setRow (.inr (.inr rfl)) _
      have s4 : row? (w4.setRow (w.heap.size + 1) (aa 1 y.k a' y.bs.length c' N)) (w.heap.size + 1) = aa 1 y.k a' y.bs.length c' N := by rw [row_setRow _ _ _ _ (by rw [u1]; simp), if_pos rfl]
      have e4 : RowsIn b1 0 1 (w4.setRow (w.heap.size + 1) (aa 1 y.k a' y.bs.length c' N)) a' y.bs := E3_.out.keptU ((Chg.refl (fun b => b = w.heap.size + 1) w4).setRow (.inr rfl) _) (fun g hg => by
        rw [hg, u1]
        exact aa_nou _ _ _ _ _ _)
      generalize w4.setRow (w.heap.size + 1) (aa 1 y.k a' y.bs.length c' N) = w5 at *
      have dd := D1'_.out.trans d3
      refine bodyPost_ret (results_cell rfl rfl (v := .agg (aa 1 y.k a' y.bs.length c' N)) (by rw [ldAns _ _ _ (by rw [s4]; simp), s4]; simp)) rfl (by rw [HR_.out]; exact ⟨a', c', us, rfl, e4, Q2_.out.kept dd (by show ¬ (_ ∨ _); omega) (by show ¬ (_ ∨ _); omega) HU_.out, fun b' hb' => (F2_.out b' hb').imp (fun h => by omega) id, C2_.out.then' dd (fun i e h => by omega)⟩)
end Go.Proofs.Ytbdpnmocbpplbaa
