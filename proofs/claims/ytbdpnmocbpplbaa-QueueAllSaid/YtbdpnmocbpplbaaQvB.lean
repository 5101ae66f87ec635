/-
  The walk of the reference's Do: a call, as plain data. No condition.
-/
import Derived.Test.YtbdpnmocbpplbaaQvA
namespace Go.Proofs.Ytbdpnmocbpplbaa
open Go.RowKit Go.Conc

theorem results_cell22 {P : Program} {fn : Func} {t t2 ty ty2 b b2 : Nat} {tmps : Array Value} {w : World} {v v2 : Value} (h : fn.results = #[.cell t ty, .cell t2 ty2]) (ht : tmps.getD t undef = .pointer (some ⟨b, 0, none⟩)) (ht2 : tmps.getD t2 undef = .pointer (some ⟨b2, 0, none⟩)) (hv : (ldAt ty (.pointer (some ⟨b, 0, none⟩))).run P w = .ok v w) (hv2 : (ldAt ty2 (.pointer (some ⟨b2, 0, none⟩))).run P w = .ok v2 w) : (results fn tmps).run P w = .ok (.tuple #[v, v2]) w := by
  have hv' : (loadVar ty ⟨b, 0, none⟩).run P w = .ok v w := by
    unfold ldAt Instr.loadAt at hv
    simpa [Instr.sureAddr] using hv
  have hv2' : (loadVar ty2 ⟨b2, 0, none⟩).run P w = .ok v2 w := by
    unfold ldAt Instr.loadAt at hv2
    simpa [Instr.sureAddr] using hv2
  have ht' : tmps[t]?.getD undef = .pointer (some ⟨b, 0, none⟩) := by simpa using ht
  have ht2' : tmps[t2]?.getD undef = .pointer (some ⟨b2, 0, none⟩) := by simpa using ht2
  simp [results, h, ht', ht2', asAddr, Sem.run_bind, hv', hv2']
theorem itms_len (zs : List ItR) : (itms zs).length = zs.length := by simp [itms]
theorem qa_nou (m : Int) (a : Option Addr) (n c : Nat) : ∀ v ∈ qa m a n c, ∀ i, v ≠ .int .u8 i := by
  intro v hv i
  simp [qa] at hv
  rcases hv with rfl | rfl <;> simp
theorem PdR.keptU {w w' : World} {z : ItR} (h : PdR w z) {S : Nat → Prop} (hc : Chg S w w') (hS : ∀ b, S b → ∀ v ∈ row? w b, ∀ n, v ≠ .int .u8 n) : PdR w' z := ⟨RowsIn.keptU h.1 hc hS, h.2⟩
theorem RL.keptU {w w' : World} {a : Option Addr} {zs : List ItR} (h : RL w a zs) {S : Nat → Prop} (hc : Chg S w w') (hS : ∀ b, S b → ∀ v ∈ row? w b, ∀ n, v ≠ .int .u8 n) (hb : ∀ b, a.map (·.block) = some b → zs = [] ∨ ¬ S b) : RL w' a zs := by
  refine ⟨?_, fun z hz => (h.ok z hz).keptU hc hS⟩
  by_cases h0 : zs = []
  · exact .inl h0
  · exact h.row.kept (by decide) hc (fun b e hs => absurd hs ((hb b e).resolve_left h0))
/-- Where the items behind a call do not lie. -/
theorem Org.off {w W1 : World} {a a' : Option Addr} {zs zs' : List ItR} (h : RL w a zs) (ho : Org W1 a zs a' zs') (hs : w.heap.size + 5 ≤ W1.heap.size) : ∀ b, a'.map (·.block) = some b → zs' = [] ∨ ¬ (b = w.heap.size ∨ b = w.heap.size + 1 + 1 ∨ b = w.heap.size + 1 + 1 + 1 ∨ b = w.heap.size + 1 + 1 + 1 + 1) := fun b hb => by
  rcases ho b hb with h1 | h1 | ⟨_, h0, h1⟩
  · exact .inl h1
  · exact .inr (by omega)
  · obtain ⟨g, off, rfl, hr⟩ := h.row.at h0
    have := hr.lt (by decide) h0
    obtain rfl : g = b := by simpa using h1
    exact .inr (by omega)
theorem Org.down {w W1 : World} {a a' : Option Addr} {zs zs' : List ItR} (h : RL w a zs) (ho : Org W1 a zs a' zs') (hs : w.heap.size ≤ W1.heap.size) : Org w a zs a' zs' := fun b hb => by
  rcases ho b hb with h1 | h1 | ⟨_, h0, h1⟩
  · exact .inl h1
  · exact .inr (.inl (by omega))
  · obtain ⟨g, off, rfl, hr⟩ := h.row.at h0
    have := hr.lt (by decide) h0
    obtain rfl : g = b := by simpa using h1
    exact .inr (.inr ⟨this, h0, rfl⟩)
/-- The boxes of Do. -/
structure Bxs (w : World) (Q O : Array Value) (V : World) : Prop where
  r0 : row? V w.heap.size = Q
  o0 : own? V w.heap.size = true
  r1 : row? V (w.heap.size + 1) = O
  r2 : row? V (w.heap.size + 1 + 1) = ic 0 none 0 0
  o2 : own? V (w.heap.size + 1 + 1) = true
  r3 : row? V (w.heap.size + 1 + 1 + 1) = aa 0 0 none 0 0 0
  o3 : own? V (w.heap.size + 1 + 1 + 1) = true
  r4 : row? V (w.heap.size + 1 + 1 + 1 + 1) = aa 0 0 none 0 0 0
  o4 : own? V (w.heap.size + 1 + 1 + 1 + 1) = true
  lt : w.heap.size + 5 ≤ V.heap.size
  bel : Below w.heap.size w V
theorem Bxs.below {w V V' : World} {Q O : Array Value} (h : Bxs w Q O V) (hb : Below V.heap.size V V') : Bxs w Q O V' := by
  have hl := h.lt
  have hr : ∀ b, b < V.heap.size → row? V' b = row? V b := fun b h1 => row_of_block (hb.block b h1)
  have ho : ∀ b, b < V.heap.size → own? V' b = own? V b := fun b h1 => own_of_block (hb.block b h1)
  exact ⟨(hr _ (by omega)).trans h.r0, (ho _ (by omega)).trans h.o0, (hr _ (by omega)).trans h.r1, (hr _ (by omega)).trans h.r2, (ho _ (by omega)).trans h.o2, (hr _ (by omega)).trans h.r3, (ho _ (by omega)).trans h.o3, (hr _ (by omega)).trans h.r4, (ho _ (by omega)).trans h.o4, by have := hb.size; omega, h.bel.trans (hb.mono h.bel.size)⟩
/-- Where an item behind a call comes from. -/
def Src (w : World) (zs : List ItR) (z0 z : ItR) : Prop := z ∈ zs ∨ z = z0 ∨ ∀ b, z.a.map (·.block) = some b → w.heap.size ≤ b
theorem Src.down {w W1 : World} {zs : List ItR} {z0 z : ItR} (h : Src W1 zs z0 z) (hs : w.heap.size ≤ W1.heap.size) : Src w zs z0 z := h.imp id (fun h => h.imp id (fun h b hb => Nat.le_trans hs (h b hb)))
/-- A book that is handed back, and an answer, lie in their boxes. -/
structure FinR (w : World) (a : Option Addr) (zs : List ItR) (z0 : ItR) (m : Nat) (ks : List ItR) (a3 : Option Addr) (c3 : Nat) (A : Array Value) (xa : Option Addr) (bs : List Int) (wr : World) : Prop where
  x0 : row? wr w.heap.size = qa m a3 ks.length c3
  x4 : row? wr (w.heap.size + 1 + 1 + 1 + 1) = A
  y4 : own? wr (w.heap.size + 1 + 1 + 1 + 1) = true
  x2 : row? wr (w.heap.size + 1 + 1) = ic 0 none 0 0
  y2 : own? wr (w.heap.size + 1 + 1) = true
  x3 : row? wr (w.heap.size + 1 + 1 + 1) = aa 0 0 none 0 0 0
  y3 : own? wr (w.heap.size + 1 + 1 + 1) = true
  lt : w.heap.size + 5 ≤ wr.heap.size
  bel : Below w.heap.size w wr
  rl : RL wr a3 ks
  hl : RowsIn b1 0 1 wr xa bs
  org : Org w a zs a3 ks
  mem : ∀ z ∈ ks, Src w zs z0 z
  src : bs = [] ∨ ∃ z ∈ zs, z.a = xa ∧ z.x.bs = bs
  off : ∀ b, a3.map (·.block) = some b → ks = [] ∨ ¬ (b = w.heap.size ∨ b = w.heap.size + 1 + 1 ∨ b = w.heap.size + 1 + 1 + 1 ∨ b = w.heap.size + 1 + 1 + 1 + 1)
theorem FinR.setE {w wr : World} {z0 : ItR} {a a3 xa : Option Addr} {zs ks : List ItR} {m c3 n c : Nat} {e q N : Int} {bs : List Int} (h : FinR w a zs z0 m ks a3 c3 (aa e q xa n c N) xa bs wr) (e' : Int) : FinR w a zs z0 m ks a3 c3 (aa e' q xa n c N) xa bs (wr.setCell ⟨w.heap.size + 1 + 1 + 1 + 1, 0, none⟩ (.int .i64 e')) := by
  have hc : Chg (· = w.heap.size + 1 + 1 + 1 + 1) wr (wr.setCell ⟨w.heap.size + 1 + 1 + 1 + 1, 0, none⟩ (.int .i64 e')) := (Chg.refl (· = w.heap.size + 1 + 1 + 1 + 1) wr).setCell (p := ⟨w.heap.size + 1 + 1 + 1 + 1, 0, none⟩) (.inr rfl) _
  have hr : row? (wr.setCell ⟨w.heap.size + 1 + 1 + 1 + 1, 0, none⟩ (.int .i64 e')) (w.heap.size + 1 + 1 + 1 + 1) = aa e' q xa n c N := by rw [row_setCell, if_pos rfl, h.x4]; rfl
  have ho : own? (wr.setCell ⟨w.heap.size + 1 + 1 + 1 + 1, 0, none⟩ (.int .i64 e')) (w.heap.size + 1 + 1 + 1 + 1) = true := by rw [own_setCell]; exact h.y4
  generalize wr.setCell ⟨w.heap.size + 1 + 1 + 1 + 1, 0, none⟩ (.int .i64 e') = w' at *
  have hl := h.lt
  have hno : ∀ b, b = w.heap.size + 1 + 1 + 1 + 1 → ∀ v ∈ row? wr b, ∀ i, v ≠ .int .u8 i := fun b hb => by
    subst hb
    rw [h.x4]; exact aa_nou _ _ _ _ _ _
  exact ⟨(hc.row (by omega) (by omega)).trans h.x0, hr, ho, (hc.row (by omega) (by omega)).trans h.x2, (hc.own (by omega) (by omega)).trans h.y2, (hc.row (by omega) (by omega)).trans h.x3, (hc.own (by omega) (by omega)).trans h.y3, by have := hc.size; omega, h.bel.trans (hc.below h.bel.size (fun k hk e => by omega)), h.rl.keptU hc hno (fun b hb => (h.off b hb).imp id (fun hn e => hn (by omega))), RowsIn.keptU h.hl hc hno, h.org, h.mem, h.src, h.off⟩
theorem FinR.done {w wr w' : World} {z0 : ItR} {a a3 xa : Option Addr} {zs ks : List ItR} {m c3 : Nat} {A : Array Value} {bs : List Int} (h : FinR w a zs z0 m ks a3 c3 A xa bs wr) (hc : Chg (fun b => b = w.heap.size + 1 + 1 ∨ b = w.heap.size + 1 + 1 + 1) wr w') : RL w' a3 ks ∧ RowsIn b1 0 1 w' xa bs ∧ Below w.heap.size w w' ∧ Org w a zs a3 ks ∧ (∀ z ∈ ks, Src w zs z0 z) ∧ (bs = [] ∨ ∃ z ∈ zs, z.a = xa ∧ z.x.bs = bs) := by
  have hno : ∀ b, (b = w.heap.size + 1 + 1 ∨ b = w.heap.size + 1 + 1 + 1) → ∀ v ∈ row? wr b, ∀ i, v ≠ .int .u8 i := fun b hb => by
    rcases hb with rfl | rfl
    · rw [h.x2]; exact ic_nou _ _ _ _
    · rw [h.x3]; exact aa_nou _ _ _ _ _ _
  exact ⟨h.rl.keptU hc hno (fun b hb => (h.off b hb).imp id (fun hn e => hn (by omega))), RowsIn.keptU h.hl hc hno, h.bel.trans (hc.below h.bel.size (fun k hk e => by omega)), h.org, h.mem, h.src⟩
/-- Behind the switch. -/
structure MidR (w : World) (a : Option Addr) (zs : List ItR) (z0 : ItR) (m : Nat) (R : Res) (v7 : Value) (wr : World) : Prop where
  v7 : v7 = .bool R.is
  q : ∃ ks a3 c3 xa xc, itms ks = R.ys ∧ FinR w a zs z0 m ks a3 c3 (aa R.e R.x.k xa R.x.bs.length xc R.n) xa R.x.bs wr
theorem midr_of {w W1 w3 w4 : World} {z0 : ItR} {a a3 : Option Addr} {zs zs3 : List ItR} {m n c c3 : Nat} {O : Array Value} {R : Res} (h : RL w a zs) (hW : w.heap.size + 5 ≤ W1.heap.size) (bx : Bxs w (qa m a n c) O w3) (rl : RL w3 a3 zs3) (og : Org W1 a zs a3 zs3) (c4 : Chg (fun b => b = w.heap.size ∨ b = w.heap.size + 1 + 1 + 1 + 1) w3 w4)
    (hys : itms zs3 = R.ys) (hmem : ∀ z ∈ zs3, Src W1 zs z0 z) (r0 : row? w4 w.heap.size = qa m a3 zs3.length c3) (r4 : ∃ x' c, row? w4 (w.heap.size + 1 + 1 + 1 + 1) = aa R.e R.x.k x' R.x.bs.length c R.n ∧ RowsIn b1 0 1 w3 x' R.x.bs ∧ (R.x.bs = [] ∨ ∃ z ∈ zs, z.a = x' ∧ z.x.bs = R.x.bs)) (o4 : own? w4 (w.heap.size + 1 + 1 + 1 + 1) = true) : MidR w a zs z0 m R (.bool R.is) w4 := by
  have hoff := og.off h hW
  have hno : ∀ b, (b = w.heap.size ∨ b = w.heap.size + 1 + 1 + 1 + 1) → ∀ v ∈ row? w3 b, ∀ i, v ≠ .int .u8 i := fun b hb => by
    rcases hb with rfl | rfl
    · rw [bx.r0]; exact qa_nou _ _ _ _
    · rw [bx.r4]; exact aa_nou _ _ _ _ _ _
  obtain ⟨x', c', h4, hx, hsrc⟩ := r4
  have l3 := bx.lt
  have s4 := c4.size
  exact ⟨rfl, zs3, a3, c3, x', c', hys, r0, h4, o4, (c4.row (by omega) (by omega)).trans bx.r2, (c4.own (by omega) (by omega)).trans bx.o2, (c4.row (by omega) (by omega)).trans bx.r3, (c4.own (by omega) (by omega)).trans bx.o3, by omega, bx.bel.trans (c4.below bx.bel.size (fun k hk e => by omega)), rl.keptU c4 hno (fun b hb => (hoff b hb).imp id (fun hn e => hn (by omega))), RowsIn.keptU hx c4 hno, og.down h (by omega), fun z hz => (hmem z hz).down (by omega), hsrc, hoff⟩
theorem doR1 (m : Nat) (k p : Int) (x : Itm) (xs : List Itm) : doR m ⟨1, k, p, x⟩ xs = ⟨keptN (neK 0) xs xs.length, if inR 0 xs.length = true then 0 else 181, lookI 0 xs, 0, true⟩ := by
  unfold doR
  rw [if_neg (show ¬ ((1 : Int) = 0) by decide), if_pos rfl]
  match xs with
  | [] => rfl
  | y :: ys =>
    have h1 : keptN (neK 0) (y :: ys) (y :: ys).length = ys := kept_hit 0 (y :: ys) (by simp)
    have h2 : inR 0 (y :: ys).length = true := decide_eq_true (by simp)
    have h3 : lookI 0 (y :: ys) = y := by unfold lookI; rw [if_pos (by simp)]; rfl
    rw [h2, if_pos rfl, h3]
    rw [h1]
theorem doR2 (m : Nat) (k p : Int) (x : Itm) (xs : List Itm) : doR m ⟨2, k, p, x⟩ xs = ⟨keptN (neK k) xs xs.length, 0, lookI k xs, 0, inR k xs.length⟩ := by unfold doR; rw [if_neg (show ¬ ((2 : Int) = 0) by decide), if_neg (show ¬ ((2 : Int) = 1) by decide), if_pos rfl]; rfl
theorem doR3 (m : Nat) (k p : Int) (x : Itm) (xs : List Itm) : doR m ⟨3, k, p, x⟩ xs = ⟨xs, 0, lookI k xs, 0, inR k xs.length⟩ := by unfold doR; rw [if_neg (show ¬ ((3 : Int) = 0) by decide), if_neg (show ¬ ((3 : Int) = 1) by decide), if_neg (show ¬ ((3 : Int) = 2) by decide), if_pos rfl]; rfl
theorem doR4 (m : Nat) (k p : Int) (x : Itm) (xs : List Itm) : doR m ⟨4, k, p, x⟩ xs = ⟨twiceL m k xs, 0, zeroI, 0, twiceB m k xs⟩ := by unfold doR; rw [if_neg (show ¬ ((4 : Int) = 0) by decide), if_neg (show ¬ ((4 : Int) = 1) by decide), if_neg (show ¬ ((4 : Int) = 2) by decide), if_neg (show ¬ ((4 : Int) = 3) by decide), if_pos rfl]
theorem doR5 (m : Nat) (k p : Int) (x : Itm) (xs : List Itm) : doR m ⟨5, k, p, x⟩ xs = ⟨turnL k p xs, 0, zeroI, 0, doneT k p xs xs.length⟩ := by unfold doR; rw [if_neg (show ¬ ((5 : Int) = 0) by decide), if_neg (show ¬ ((5 : Int) = 1) by decide), if_neg (show ¬ ((5 : Int) = 2) by decide), if_neg (show ¬ ((5 : Int) = 3) by decide), if_neg (show ¬ ((5 : Int) = 4) by decide), if_pos rfl]
theorem doR6 (m : Nat) (k p : Int) (x : Itm) (xs : List Itm) : doR m ⟨6, k, p, x⟩ xs = ⟨[], 0, zeroI, xs.length, true⟩ := by unfold doR; rw [if_neg (show ¬ ((6 : Int) = 0) by decide), if_neg (show ¬ ((6 : Int) = 1) by decide), if_neg (show ¬ ((6 : Int) = 2) by decide), if_neg (show ¬ ((6 : Int) = 3) by decide), if_neg (show ¬ ((6 : Int) = 4) by decide), if_neg (show ¬ ((6 : Int) = 5) by decide), if_pos rfl]
theorem doR0 (m : Nat) (k p : Int) (x : Itm) (xs : List Itm) : doR m ⟨0, k, p, x⟩ xs = ⟨if xs.length < m then xs ++ [x] else xs, putE m xs.length, zeroI, 0, true⟩ := by
  unfold doR putE
  rw [if_pos rfl]
  split <;> rfl
theorem itms_put (m : Nat) (zs : List ItR) (z : ItR) : itms (putZ m zs z) = if (itms zs).length < m then itms zs ++ [z.x] else itms zs := by
  unfold putZ
  rw [itms_len]
  split <;> simp [itms]
theorem lookR_src (p : Int) (zs : List ItR) : (lookR p zs).x.bs = [] ∨ ∃ z ∈ zs, z.a = (lookR p zs).a ∧ z.x.bs = (lookR p zs).x.bs := by
  unfold lookR
  split
  · exact .inr ⟨_, memR (by omega), rfl, rfl⟩
  · exact .inl rfl
theorem putZ_mem {m : Nat} {zs : List ItR} {z y : ItR} (h : y ∈ putZ m zs z) : y ∈ zs ∨ y = z := by
  unfold putZ at h
  split at h
  · rcases List.mem_append.1 h with h1 | h1
    · exact .inl h1
    · exact .inr (List.mem_singleton.1 h1)
  · exact .inl h
theorem turnZ_mem {p at_ : Int} {zs : List ItR} {a : Option Addr} {c : Nat} {y : ItR} (h : y ∈ turnZ p at_ zs a c) : y ∈ zs ∨ y.a = a := by
  unfold turnZ at h
  split at h
  · rcases List.mem_or_eq_of_mem_set h with h1 | h1
    · exact .inl h1
    · exact .inr (by rw [h1])
  · exact .inl h
/-- Behind a call that hands back a book: it is stored, and more besides. -/
theorem set_q {w w3 : World} {Q O : Array Value} {m : Int} {a3 : Option Addr} {n3 c3 : Nat} (bx : Bxs w Q O w3) (hQ : Q ≠ #[]) : ∃ w4, w3.setRow w.heap.size (qa m a3 n3 c3) = w4 ∧ Chg (fun b => b = w.heap.size ∨ b = w.heap.size + 1 + 1 + 1 + 1) w3 w4 ∧ row? w4 w.heap.size = qa m a3 n3 c3 ∧ own? w4 w.heap.size = true ∧ row? w4 (w.heap.size + 1 + 1 + 1 + 1) = aa 0 0 none 0 0 0 ∧ own? w4 (w.heap.size + 1 + 1 + 1 + 1) = true :=
  ⟨_, rfl, (Chg.refl _ w3).setRow (.inr (.inl rfl)) _, by rw [row_setRow _ _ _ _ (by rw [bx.r0]; exact hQ), if_pos rfl], by rw [own_setRow]; exact bx.o0, by rw [row_setRow _ _ _ _ (by rw [bx.r0]; exact hQ), if_neg (by omega)]; exact bx.r4, by rw [own_setRow]; exact bx.o4⟩
set_option maxRecDepth 100000 in
set_option maxHeartbeats 4000000 in
theorem rdo_c (m : Nat) (zs : List ItR) (a : Option Addr) (c : Nat) (o : OpI) (oad : Option Addr) (oc : Nat) (w : World) (h : RL w a zs) (hm : m ≤ 900) (hlm : zs.length ≤ m) (hok : ∀ z ∈ zs, okI z.x) (hx : RowsIn b1 0 1 w oad o.x.bs) (hlo : o.x.bs.length ≤ 140737488351232) :
    Calls Try.prog 20 #[.agg (qa m a zs.length c), .agg (oa o oad oc)] w fun e w' => ∃ zs' a' c' x' xc, e = .returned (.tuple #[.agg (qa m a' zs'.length c'), .agg (aa (eR (doR m o (itms zs))) (doR m o (itms zs)).x.k x' (doR m o (itms zs)).x.bs.length xc (doR m o (itms zs)).n)]) ∧ itms zs' = (doR m o (itms zs)).ys ∧ RL w' a' zs' ∧ RowsIn b1 0 1 w' x' (doR m o (itms zs)).x.bs ∧ Below w.heap.size w w' ∧ Org w a zs a' zs' ∧ (∀ z ∈ zs', Src w zs ⟨o.x, oad, oc⟩ z) ∧ ((doR m o (itms zs)).x.bs = [] ∨ ∃ z ∈ zs, z.a = x' ∧ z.x.bs = (doR m o (itms zs)).x.bs) := by
  have hzl : zs.length ≤ 900 := by omega
  have H_ := hid h
  clear h
  have HOK_ := hid hok
  clear hok
  have HX_ := hid hx
  clear hx
  go_enter Try.func20, Try.ntmps20
  go_upto_region 2 with (fail)
  obtain ⟨W1, hW1⟩ : ∃ W1, ((((w.alloc (.cells (qa m a zs.length c) 47)).alloc (.cells (oa o oad oc) 49)).alloc (.cells (ic 0 none 0 0) 47)).alloc (.cells (aa 0 0 none 0 0 0) 51)).alloc (.cells (aa 0 0 none 0 0 0) 51) = W1 := ⟨_, rfl⟩
  have bx : Bxs w (qa m a zs.length c) (oa o oad oc) W1 := by
    have n2 : ¬ w.heap.size = w.heap.size + 1 + 1 := by omega
    have n3 : ¬ w.heap.size = w.heap.size + 1 + 1 + 1 := by omega
    have n4 : ¬ w.heap.size = w.heap.size + 1 + 1 + 1 + 1 := by omega
    rw [← hW1]
    refine ⟨?_, ?_, ?_, ?_, ?_, ?_, ?_, ?_, ?_, ?_, (((((Below.refl _ _).alloc (Nat.le_refl _) _).alloc (by simp) _).alloc (by simp; omega) _).alloc (by simp; omega) _).alloc (by simp; omega) _⟩
    · simp [row_alloc, rowOf, n2, n3, n4]
    · simp [own_alloc, ownOf]
    · simp [row_alloc, rowOf]
    · simp [row_alloc, rowOf]
    · simp [own_alloc, ownOf]
    · simp [row_alloc, rowOf]
    · simp [own_alloc, ownOf]
    · simp [row_alloc, rowOf]
    · simp [own_alloc, ownOf]
    · simp
  simp only [aa_lit]
  rw [hW1]
  clear hW1
  have h1 := H_.out.below bx.bel
  have hx1 := HX_.out.below (by decide) bx.bel
  have hmid := fun (w3 w4 : World) (a3 : Option Addr) (zs3 : List ItR) (c3 : Nat) (R : Res) => midr_of (w := w) (z0 := ⟨o.x, oad, oc⟩) (W1 := W1) (w3 := w3) (w4 := w4) (a3 := a3) (zs3 := zs3) (c3 := c3) (m := m) (n := zs.length) (c := c) (O := oa o oad oc) (R := R) H_.out bx.lt
  obtain ⟨kd, k, p, x⟩ := o
  rcases (show kd = 1 ∨ kd ≠ 1 by omega) with h1k | h1k
  · subst h1k
    have hR := doR1 m k p x (itms zs)
    rw [itms_len, ← lookR_x 0 zs, ← itms_keptR (neK 0) zs zs.length (Nat.le_refl _)] at hR
    have r0 := bx.r0
    have r1 := bx.r1
    have hcall := rpick_c m zs a c 0 W1 h1 hzl
    clear h1 hx1
    have HCALL_ := hid hcall
    clear hcall
    have BX_ := hid bx
    clear bx
    have HMID_ := hid hmid
    clear hmid
    go_wp2_with fail
    refine HCALL_.out.mono ?_
    rintro e w3 ⟨a3, c3, rfl, rl, b3, og⟩
    dsimp only
    have bx3 := BX_.out.below b3
    have hW := BX_.out.lt
    have hbw1 := BX_.out.bel
    have hmid := HMID_.out
    
    clear HCALL_ BX_ HMID_ r0 r1
    have hsrc : (lookR 0 zs).x.bs = [] ∨ ∃ z ∈ zs, z.a = (lookR 0 zs).a ∧ z.x.bs = (lookR 0 zs).x.bs := lookR_src 0 zs
    have hlkr : RowsIn b1 0 1 w3 (lookR 0 zs).a (lookR 0 zs).x.bs := (lookR_ok (H_.out.below (hbw1.trans (b3.mono hbw1.size))) 0).1
    have hmem : ∀ z ∈ keptR (neK 0) zs zs.length, Src W1 zs ⟨x, oad, oc⟩ z := fun z hz => .inl (keptR_sub _ _ _ (Nat.le_refl _) z hz)
    generalize keptR (neK 0) zs zs.length = ks at *
    generalize lookR 0 zs = lk at *
    generalize hib : inR 0 zs.length = ib at *
    obtain ⟨w4, e4, c4, s0, t0, s4, t4⟩ := set_q (m := m) (a3 := a3) (n3 := ks.length) (c3 := c3) bx3 (qa_ne _ _ _ _)
    have r0 := bx3.r0
    have o0 := bx3.o0
    have r4 := bx3.r4
    have o4 := bx3.o4
    have hst : (stAt 30 (.pointer (some ⟨w.heap.size + 1 + 1 + 1 + 1, 1, none⟩)) (.agg (fR lk))).run Try.prog w4 = .ok () (w4.setRow (w.heap.size + 1 + 1 + 1 + 1) (aa 0 lk.x.k lk.a lk.x.bs.length lk.c 0)) := stRItmP w4 (w.heap.size + 1 + 1 + 1 + 1) 0 0 lk.x.k none lk.a 0 0 lk.x.bs.length lk.c 0 s4 t4
    have RL_ := hid rl
    clear rl
    have OG_ := hid og
    clear og
    have HR_ := hid hR
    clear hR
    have HLKR_ := hid hlkr
    clear hlkr
    have HSRC_ := hid hsrc
    clear hsrc
    have HMEM_ := hid hmem
    clear hmem
    have BX3_ := hid bx3
    clear bx3
    have C4_ := hid c4
    clear c4
    have S0_ := hid s0
    clear s0
    have T0_ := hid t0
    clear t0
    have HMID_ := hid hmid
    clear hmid
    go_upto_region 8 with (fail)
    have c5 : Chg (fun b => b = w.heap.size ∨ b = w.heap.size + 1 + 1 + 1 + 1) w4 (w4.setRow (w.heap.size + 1 + 1 + 1 + 1) (aa 0 lk.x.k lk.a lk.x.bs.length lk.c 0)) := (Chg.refl (fun b => b = w.heap.size ∨ b = w.heap.size + 1 + 1 + 1 + 1) w4).setRow (.inr (.inr rfl)) _
    have e5 : row? (w4.setRow (w.heap.size + 1 + 1 + 1 + 1) (aa 0 lk.x.k lk.a lk.x.bs.length lk.c 0)) (w.heap.size + 1 + 1 + 1 + 1) = aa 0 lk.x.k lk.a lk.x.bs.length lk.c 0 := by rw [row_setRow _ _ _ _ (by rw [s4]; simp), if_pos rfl]
    have f5 : own? (w4.setRow (w.heap.size + 1 + 1 + 1 + 1) (aa 0 lk.x.k lk.a lk.x.bs.length lk.c 0)) (w.heap.size + 1 + 1 + 1 + 1) = true := by rw [own_setRow]; exact t4
    have d5 : row? (w4.setRow (w.heap.size + 1 + 1 + 1 + 1) (aa 0 lk.x.k lk.a lk.x.bs.length lk.c 0)) w.heap.size = qa m a3 ks.length c3 := by rw [row_setRow _ _ _ _ (by rw [s4]; simp), if_neg (by omega)]; exact S0_.out
    generalize w4.setRow (w.heap.size + 1 + 1 + 1 + 1) (aa 0 lk.x.k lk.a lk.x.bs.length lk.c 0) = w5 at *
    have hM := HMID_.out w3 w5 a3 ks c3 ⟨itms ks, 0, lk.x, 0, true⟩ BX3_.out RL_.out OG_.out (C4_.out.trans c5) rfl HMEM_.out d5 ⟨lk.a, lk.c, e5, HLKR_.out, HSRC_.out⟩ f5
    clear hst c5 r0 r4 o0 o4 s4 t4 e4 C4_ S0_ T0_ BX3_ HLKR_ HSRC_ HMEM_ RL_ HMID_ OG_ e5 f5 d5 b3 hbw1 hW
    clear w4 w3 W1
    obtain ⟨_, ks', a3', c3', xa, xc, hys', hF⟩ := hM
    dsimp only at hys' hF
    have hR := HR_.out
    clear HR_
    cases ib with
    | true =>
      rw [if_pos rfl] at hR
      have x0 := hF.x0
      have x2 := hF.x2
      have x3 := hF.x3
      have x4 := hF.x4
      have y2 := hF.y2
      have y3 := hF.y3
      have lt := hF.lt
      have HF_ := hid hF
      clear hF
      have HR_ := hid hR
      clear hR
      have HYS'_ := hid hys'
      clear hys'
      go_upto_region 10 with (fail)
      refine wp_region_ls (by kernel_rfl) (by kernel_rfl) [(0, 35, .agg (qa m a3' ks'.length c3')), (1, 36, .agg (aa 0 lk.x.k xa lk.x.bs.length xc 0))] [(2, w.heap.size + 1 + 1, qa m a3' ks'.length c3'), (3, w.heap.size + 1 + 1 + 1, aa 0 lk.x.k xa lk.x.bs.length xc 0)] ?_ ?_ ?_ ?_ ?_ ?_ ?_ ?_ ?_ ?_ ?_
      · intro i hi
        match i, hi with
        | 0, _ | 1, _ | 2, _ | 3, _ => simp
      · simp
      · simp
      · simp
      · simp
      · simp
      · simp
      · simp [x2, y2, x3, y3]
      · intro x hx o ho
        simp only [List.mem_cons, List.not_mem_nil, or_false] at hx
        rcases hx with rfl | rfl <;> cases ho <;> refine ⟨rfl, rfl, fun act w' hf hdep hc => ?_⟩
        · have e : act.tmps[2]?.getD undef = .pointer (some ⟨w.heap.size, 0, none⟩) := hf.at 2 (by simp) rfl
          have hr := (hc.row (by omega) (by simp [Blk] <;> omega)).trans x0
          simp [go_sem, e, hr]
        · have e : act.tmps[6]?.getD undef = .pointer (some ⟨w.heap.size + 1 + 1 + 1 + 1, 0, none⟩) := hf.at 6 (by simp) rfl
          have hr := (hc.row (by omega) (by simp [Blk] <;> omega)).trans x4
          simp [go_sem, e, hr]
      · intro x hx o ho
        simp only [List.mem_cons, List.not_mem_nil, or_false] at hx
        rcases hx with rfl | rfl <;> cases ho <;> refine ⟨rfl, rfl, fun act w' hf hdep hc how hsz => ?_⟩
        · have e : act.tmps[4]?.getD undef = .pointer (some ⟨w.heap.size + 1 + 1, 0, none⟩) := hf.at 4 (by simp) rfl
          have e' : act.tmps[35]?.getD undef = .agg (qa m a3' ks'.length c3') := hdep.at (0, 35, .agg (qa m a3' ks'.length c3')) (by simp) ⟨⟨0, .data⟩, by simp, rfl, rfl⟩
          simp only [qa_size] at how hsz
          simp [go_sem, e, e', how, hsz]
        · have e : act.tmps[5]?.getD undef = .pointer (some ⟨w.heap.size + 1 + 1 + 1, 0, none⟩) := hf.at 5 (by simp) rfl
          have e' : act.tmps[36]?.getD undef = .agg (aa 0 lk.x.k xa lk.x.bs.length xc 0) := hdep.at (1, 36, .agg (aa 0 lk.x.k xa lk.x.bs.length xc 0)) (by simp) ⟨⟨1, .data⟩, by simp, rfl, rfl⟩
          simp only [aa_size] at how hsz
          simp [go_sem, e, e', how, hsz]
      · intro act w' hdf hf hrd hc hwr
        have u2 := (hwr (2, w.heap.size + 1 + 1, qa m a3' ks'.length c3') (by simp)).1
        have u3 := (hwr (3, w.heap.size + 1 + 1 + 1, aa 0 lk.x.k xa lk.x.bs.length xc 0) (by simp)).1
        have hct : Chg (fun b => b = w.heap.size + 1 + 1 ∨ b = w.heap.size + 1 + 1 + 1) w5 w' := hc.mono (fun b _ h => by
          simp [Blk] at h
          omega)
        go_wp2
        refine bodyPost_ret (results_cell22 rfl ((hf 4 (by simp)).trans rfl) ((hf 5 (by simp)).trans rfl) (v := .agg (qa m a3' ks'.length c3')) (v2 := .agg (aa 0 lk.x.k xa lk.x.bs.length xc 0)) (by rw [ldRQ _ _ _ (by rw [u2]; simp), u2, qa_all]) (by rw [ldAns _ _ _ (by rw [u3]; simp), u3, aa_all])) hdf ?_
        obtain ⟨f1, f2, f3, f4, f5, f6⟩ := HF_.out.done hct
        rw [HR_.out]
        exact ⟨ks', a3', c3', xa, ⟨xc, rfl⟩, HYS'_.out, f1, f2, f3, f4, f5, f6⟩
    | false =>
      rw [if_neg (by simp)] at hR
      have x4 := hF.x4
      have y4 := hF.y4
      have HF_ := hid hF
      clear hF
      go_upto_region 10 with (fail)
      have hF := HF_.out.setE 181
      generalize w5.setCell ⟨w.heap.size + 1 + 1 + 1 + 1, 0, none⟩ (.int .i64 181) = w6 at *
      clear x4 y4 HF_
      have x0 := hF.x0
      have x2 := hF.x2
      have x3 := hF.x3
      have x4 := hF.x4
      have y2 := hF.y2
      have y3 := hF.y3
      have lt := hF.lt
      have HF_ := hid hF
      clear hF
      have HR_ := hid hR
      clear hR
      have HYS'_ := hid hys'
      clear hys'
      refine wp_region_ls (by kernel_rfl) (by kernel_rfl) [(0, 35, .agg (qa m a3' ks'.length c3')), (1, 36, .agg (aa 181 lk.x.k xa lk.x.bs.length xc 0))] [(2, w.heap.size + 1 + 1, qa m a3' ks'.length c3'), (3, w.heap.size + 1 + 1 + 1, aa 181 lk.x.k xa lk.x.bs.length xc 0)] ?_ ?_ ?_ ?_ ?_ ?_ ?_ ?_ ?_ ?_ ?_
      · intro i hi
        match i, hi with
        | 0, _ | 1, _ | 2, _ | 3, _ => simp
      · simp
      · simp
      · simp
      · simp
      · simp
      · simp
      · simp [x2, y2, x3, y3]
      · intro x hx o ho
        simp only [List.mem_cons, List.not_mem_nil, or_false] at hx
        rcases hx with rfl | rfl <;> cases ho <;> refine ⟨rfl, rfl, fun act w' hf hdep hc => ?_⟩
        · have e : act.tmps[2]?.getD undef = .pointer (some ⟨w.heap.size, 0, none⟩) := hf.at 2 (by simp) rfl
          have hr := (hc.row (by omega) (by simp [Blk] <;> omega)).trans x0
          simp [go_sem, e, hr]
        · have e : act.tmps[6]?.getD undef = .pointer (some ⟨w.heap.size + 1 + 1 + 1 + 1, 0, none⟩) := hf.at 6 (by simp) rfl
          have hr := (hc.row (by omega) (by simp [Blk] <;> omega)).trans x4
          simp [go_sem, e, hr]
      · intro x hx o ho
        simp only [List.mem_cons, List.not_mem_nil, or_false] at hx
        rcases hx with rfl | rfl <;> cases ho <;> refine ⟨rfl, rfl, fun act w' hf hdep hc how hsz => ?_⟩
        · have e : act.tmps[4]?.getD undef = .pointer (some ⟨w.heap.size + 1 + 1, 0, none⟩) := hf.at 4 (by simp) rfl
          have e' : act.tmps[35]?.getD undef = .agg (qa m a3' ks'.length c3') := hdep.at (0, 35, .agg (qa m a3' ks'.length c3')) (by simp) ⟨⟨0, .data⟩, by simp, rfl, rfl⟩
          simp only [qa_size] at how hsz
          simp [go_sem, e, e', how, hsz]
        · have e : act.tmps[5]?.getD undef = .pointer (some ⟨w.heap.size + 1 + 1 + 1, 0, none⟩) := hf.at 5 (by simp) rfl
          have e' : act.tmps[36]?.getD undef = .agg (aa 181 lk.x.k xa lk.x.bs.length xc 0) := hdep.at (1, 36, .agg (aa 181 lk.x.k xa lk.x.bs.length xc 0)) (by simp) ⟨⟨1, .data⟩, by simp, rfl, rfl⟩
          simp only [aa_size] at how hsz
          simp [go_sem, e, e', how, hsz]
      · intro act w' hdf hf hrd hc hwr
        have u2 := (hwr (2, w.heap.size + 1 + 1, qa m a3' ks'.length c3') (by simp)).1
        have u3 := (hwr (3, w.heap.size + 1 + 1 + 1, aa 181 lk.x.k xa lk.x.bs.length xc 0) (by simp)).1
        have hct : Chg (fun b => b = w.heap.size + 1 + 1 ∨ b = w.heap.size + 1 + 1 + 1) w6 w' := hc.mono (fun b _ h => by
          simp [Blk] at h
          omega)
        go_wp2
        refine bodyPost_ret (results_cell22 rfl ((hf 4 (by simp)).trans rfl) ((hf 5 (by simp)).trans rfl) (v := .agg (qa m a3' ks'.length c3')) (v2 := .agg (aa 181 lk.x.k xa lk.x.bs.length xc 0)) (by rw [ldRQ _ _ _ (by rw [u2]; simp), u2, qa_all]) (by rw [ldAns _ _ _ (by rw [u3]; simp), u3, aa_all])) hdf ?_
        obtain ⟨f1, f2, f3, f4, f5, f6⟩ := HF_.out.done hct
        rw [HR_.out]
        exact ⟨ks', a3', c3', xa, ⟨xc, rfl⟩, HYS'_.out, f1, f2, f3, f4, f5, f6⟩
  have r1 := bx.r1
  go_upto_block 0 with (fail)
  clear r1
  go_cut [7] (fun v7 wr => MidR w a zs ⟨x, oad, oc⟩ m (doR m ⟨kd, k, p, x⟩ (itms zs)) v7 wr)
  case first =>
    rcases (show kd = 0 ∨ kd ≠ 0 by omega) with h0k | h0k
    · subst h0k
      have hR := doR0 m k p x (itms zs)
      rw [itms_len] at hR
      have hpz := itms_put m zs ⟨x, oad, oc⟩
      rw [itms_len] at hpz
      rw [← hpz] at hR
      clear hpz
      have r0 := bx.r0
      have r1 := bx.r1
      have hcall := rput_c m zs a c ⟨x, oad, oc⟩ W1 h1 ⟨hx1, hlo⟩ hm hlm
      clear h1 hx1
      have HCALL_ := hid hcall
      clear hcall
      have BX_ := hid bx
      clear bx
      have HMID_ := hid hmid
      clear hmid
      go_wp2_with fail
      refine HCALL_.out.mono ?_
      rintro e w3 ⟨a3, c3, rfl, rl, b3, og⟩
      dsimp only
      have bx3 := BX_.out.below b3
      have hW := BX_.out.lt
      have hbw1 := BX_.out.bel
      have hmid := HMID_.out
      
      clear HCALL_ BX_ HMID_ r0 r1
      have hmem : ∀ z ∈ putZ m zs ⟨x, oad, oc⟩, Src W1 zs ⟨x, oad, oc⟩ z := fun z hz => (putZ_mem hz).imp id .inl
      generalize putZ m zs ⟨x, oad, oc⟩ = ks at *
      generalize putE m zs.length = E at *
      obtain ⟨w4, e4, c4, s0, t0, s4, t4⟩ := set_q (m := m) (a3 := a3) (n3 := ks.length) (c3 := c3) bx3 (qa_ne _ _ _ _)
      have r0 := bx3.r0
      have o0 := bx3.o0
      have r4 := bx3.r4
      have o4 := bx3.o4
      have RL_ := hid rl
      clear rl
      have OG_ := hid og
      clear og
      have HR_ := hid hR
      clear hR
      have BX3_ := hid bx3
      clear bx3
      have C4_ := hid c4
      clear c4
      have S0_ := hid s0
      clear s0
      have HMEM_ := hid hmem
      clear hmem
      have HMID_ := hid hmid
      clear hmid
      go_wp2
      go_meet
      case rel =>
        rw [HR_.out]
        have c5 : Chg (fun b => b = w.heap.size ∨ b = w.heap.size + 1 + 1 + 1 + 1) w4 (w4.setCell ⟨w.heap.size + 1 + 1 + 1 + 1, 0, none⟩ (.int .i64 E)) := (Chg.refl (fun b => b = w.heap.size ∨ b = w.heap.size + 1 + 1 + 1 + 1) w4).setCell (p := ⟨w.heap.size + 1 + 1 + 1 + 1, 0, none⟩) (.inr (.inr rfl)) _
        exact HMID_.out w3 _ a3 ks c3 ⟨itms ks, E, zeroI, 0, true⟩ BX3_.out RL_.out OG_.out (C4_.out.trans c5) rfl HMEM_.out (by rw [row_setCell, if_neg (by show ¬ w.heap.size = w.heap.size + 1 + 1 + 1 + 1; omega)]; exact S0_.out) ⟨none, 0, by rw [row_setCell, if_pos rfl, s4]; rfl, .inl rfl, .inl rfl⟩ (by rw [own_setCell]; exact t4)
    rcases (show kd = 2 ∨ kd ≠ 2 by omega) with h2k | h2k
    · subst h2k
      have hR := doR2 m k p x (itms zs)
      rw [itms_len, ← lookR_x k zs, ← itms_keptR (neK k) zs zs.length (Nat.le_refl _)] at hR
      have r0 := bx.r0
      have r1 := bx.r1
      have hcall := rpick_c m zs a c k W1 h1 hzl
      clear h1 hx1
      have HCALL_ := hid hcall
      clear hcall
      have BX_ := hid bx
      clear bx
      have HMID_ := hid hmid
      clear hmid
      go_wp2_with fail
      refine HCALL_.out.mono ?_
      rintro e w3 ⟨a3, c3, rfl, rl, b3, og⟩
      dsimp only
      have bx3 := BX_.out.below b3
      have hW := BX_.out.lt
      have hbw1 := BX_.out.bel
      have hmid := HMID_.out
      
      clear HCALL_ BX_ HMID_ r0 r1
      have hsrc : (lookR k zs).x.bs = [] ∨ ∃ z ∈ zs, z.a = (lookR k zs).a ∧ z.x.bs = (lookR k zs).x.bs := lookR_src k zs
      have hlkr : RowsIn b1 0 1 w3 (lookR k zs).a (lookR k zs).x.bs := (lookR_ok (H_.out.below (hbw1.trans (b3.mono hbw1.size))) k).1
      have hmem : ∀ z ∈ keptR (neK k) zs zs.length, Src W1 zs ⟨x, oad, oc⟩ z := fun z hz => .inl (keptR_sub _ _ _ (Nat.le_refl _) z hz)
      generalize keptR (neK k) zs zs.length = ks at *
      generalize lookR k zs = lk at *
      generalize hib : inR k zs.length = ib at *
      obtain ⟨w4, e4, c4, s0, t0, s4, t4⟩ := set_q (m := m) (a3 := a3) (n3 := ks.length) (c3 := c3) bx3 (qa_ne _ _ _ _)
      have r0 := bx3.r0
      have o0 := bx3.o0
      have r4 := bx3.r4
      have o4 := bx3.o4
      have hst : (stAt 30 (.pointer (some ⟨w.heap.size + 1 + 1 + 1 + 1, 1, none⟩)) (.agg (fR lk))).run Try.prog w4 = .ok () (w4.setRow (w.heap.size + 1 + 1 + 1 + 1) (aa 0 lk.x.k lk.a lk.x.bs.length lk.c 0)) := stRItmP w4 (w.heap.size + 1 + 1 + 1 + 1) 0 0 lk.x.k none lk.a 0 0 lk.x.bs.length lk.c 0 s4 t4
      have RL_ := hid rl
      clear rl
      have OG_ := hid og
      clear og
      have HR_ := hid hR
      clear hR
      have HLKR_ := hid hlkr
      clear hlkr
      have HSRC_ := hid hsrc
      clear hsrc
      have HMEM_ := hid hmem
      clear hmem
      have BX3_ := hid bx3
      clear bx3
      have C4_ := hid c4
      clear c4
      have S0_ := hid s0
      clear s0
      have T0_ := hid t0
      clear t0
      have HMID_ := hid hmid
      clear hmid
      go_wp2
      go_meet
      case rel =>
        have c5 : Chg (fun b => b = w.heap.size ∨ b = w.heap.size + 1 + 1 + 1 + 1) w4 (w4.setRow (w.heap.size + 1 + 1 + 1 + 1) (aa 0 lk.x.k lk.a lk.x.bs.length lk.c 0)) := (Chg.refl (fun b => b = w.heap.size ∨ b = w.heap.size + 1 + 1 + 1 + 1) w4).setRow (.inr (.inr rfl)) _
        have e5 : row? (w4.setRow (w.heap.size + 1 + 1 + 1 + 1) (aa 0 lk.x.k lk.a lk.x.bs.length lk.c 0)) (w.heap.size + 1 + 1 + 1 + 1) = aa 0 lk.x.k lk.a lk.x.bs.length lk.c 0 := by rw [row_setRow _ _ _ _ (by rw [s4]; simp), if_pos rfl]
        have f5 : own? (w4.setRow (w.heap.size + 1 + 1 + 1 + 1) (aa 0 lk.x.k lk.a lk.x.bs.length lk.c 0)) (w.heap.size + 1 + 1 + 1 + 1) = true := by rw [own_setRow]; exact t4
        have d5 : row? (w4.setRow (w.heap.size + 1 + 1 + 1 + 1) (aa 0 lk.x.k lk.a lk.x.bs.length lk.c 0)) w.heap.size = qa m a3 ks.length c3 := by rw [row_setRow _ _ _ _ (by rw [s4]; simp), if_neg (by omega)]; exact S0_.out
        generalize w4.setRow (w.heap.size + 1 + 1 + 1 + 1) (aa 0 lk.x.k lk.a lk.x.bs.length lk.c 0) = w5 at *
        rw [HR_.out]
        exact HMID_.out w3 w5 a3 ks c3 ⟨itms ks, 0, lk.x, 0, ib⟩ BX3_.out RL_.out OG_.out (C4_.out.trans c5) rfl HMEM_.out d5 ⟨lk.a, lk.c, e5, HLKR_.out, HSRC_.out⟩ f5
    rcases (show kd = 3 ∨ kd ≠ 3 by omega) with h3k | h3k
    · subst h3k
      have hR := doR3 m k p x (itms zs)
      rw [itms_len, ← lookR_x k zs] at hR
      have r0 := bx.r0
      have r1 := bx.r1
      have hcall := rlook_c m zs a c k W1 h1
      clear h1 hx1
      have HCALL_ := hid hcall
      clear hcall
      have BX_ := hid bx
      clear bx
      have HMID_ := hid hmid
      clear hmid
      go_wp2_with fail
      refine HCALL_.out.mono ?_
      rintro e w3 ⟨rfl, b3⟩
      dsimp only
      have bx3 := BX_.out.below b3
      have hW := BX_.out.lt
      have hbw1 := BX_.out.bel
      have hmid := HMID_.out
      
      clear HCALL_ BX_ HMID_ r0 r1
      have hsrc : (lookR k zs).x.bs = [] ∨ ∃ z ∈ zs, z.a = (lookR k zs).a ∧ z.x.bs = (lookR k zs).x.bs := lookR_src k zs
      have hlkr : RowsIn b1 0 1 w3 (lookR k zs).a (lookR k zs).x.bs := (lookR_ok (H_.out.below (hbw1.trans (b3.mono hbw1.size))) k).1
      generalize lookR k zs = lk at *
      generalize hib : inR k zs.length = ib at *
      have r0 := bx3.r0
      have o0 := bx3.o0
      have s4 := bx3.r4
      have t4 := bx3.o4
      have hst : (stAt 30 (.pointer (some ⟨w.heap.size + 1 + 1 + 1 + 1, 1, none⟩)) (.agg (fR lk))).run Try.prog w3 = .ok () (w3.setRow (w.heap.size + 1 + 1 + 1 + 1) (aa 0 lk.x.k lk.a lk.x.bs.length lk.c 0)) := stRItmP w3 (w.heap.size + 1 + 1 + 1 + 1) 0 0 lk.x.k none lk.a 0 0 lk.x.bs.length lk.c 0 s4 t4
      have rl := H_.out.below bx3.bel
      have RL_ := hid rl
      clear rl
      have HR_ := hid hR
      clear hR
      have HLKR_ := hid hlkr
      clear hlkr
      have HSRC_ := hid hsrc
      clear hsrc
      have BX3_ := hid bx3
      clear bx3
      have HMID_ := hid hmid
      clear hmid
      go_wp2
      go_meet
      case rel =>
        have c5 : Chg (fun b => b = w.heap.size ∨ b = w.heap.size + 1 + 1 + 1 + 1) w3 (w3.setRow (w.heap.size + 1 + 1 + 1 + 1) (aa 0 lk.x.k lk.a lk.x.bs.length lk.c 0)) := (Chg.refl (fun b => b = w.heap.size ∨ b = w.heap.size + 1 + 1 + 1 + 1) w3).setRow (.inr (.inr rfl)) _
        have e5 : row? (w3.setRow (w.heap.size + 1 + 1 + 1 + 1) (aa 0 lk.x.k lk.a lk.x.bs.length lk.c 0)) (w.heap.size + 1 + 1 + 1 + 1) = aa 0 lk.x.k lk.a lk.x.bs.length lk.c 0 := by rw [row_setRow _ _ _ _ (by rw [s4]; simp), if_pos rfl]
        have f5 : own? (w3.setRow (w.heap.size + 1 + 1 + 1 + 1) (aa 0 lk.x.k lk.a lk.x.bs.length lk.c 0)) (w.heap.size + 1 + 1 + 1 + 1) = true := by rw [own_setRow]; exact t4
        have d5 : row? (w3.setRow (w.heap.size + 1 + 1 + 1 + 1) (aa 0 lk.x.k lk.a lk.x.bs.length lk.c 0)) w.heap.size = qa m a zs.length c := by rw [row_setRow _ _ _ _ (by rw [s4]; simp), if_neg (by omega)]; exact BX3_.out.r0
        generalize w3.setRow (w.heap.size + 1 + 1 + 1 + 1) (aa 0 lk.x.k lk.a lk.x.bs.length lk.c 0) = w5 at *
        rw [HR_.out]
        exact HMID_.out w3 w5 a zs c ⟨itms zs, 0, lk.x, 0, ib⟩ BX3_.out RL_.out (.self (H_.out.below hbw1)) c5 rfl (fun z hz => .inl hz) d5 ⟨lk.a, lk.c, e5, HLKR_.out, HSRC_.out⟩ f5
    rcases (show kd = 4 ∨ kd ≠ 4 by omega) with h4k | h4k
    · subst h4k
      have hR := doR4 m k p x (itms zs)
      have hlx := lookR_x k zs
      have r0 := bx.r0
      have r1 := bx.r1
      have hcall := rlook_c m zs a c k W1 h1
      clear hx1
      have HCALL_ := hid hcall
      clear hcall
      have BX_ := hid bx
      clear bx
      have HMID_ := hid hmid
      clear hmid
      go_wp2_with fail
      refine HCALL_.out.mono ?_
      rintro e w3 ⟨rfl, b3⟩
      dsimp only
      have bx3 := BX_.out.below b3
      have hW := BX_.out.lt
      have hbw1 := BX_.out.bel
      have hmid := HMID_.out
      
      clear HCALL_ BX_ HMID_ r0 r1
      go_upto_region 17 with (fail)
      obtain ⟨w4, hE, r9, o9, b9, lt9⟩ := newb w3 (ic 0 none 0 0) (fR (lookR k zs)) 30 (by simp)
      rw [hE]
      clear hE
      have bx4 := bx3.below b9
      have hsz := bx3.lt
      generalize w3.heap.size = nb at *
      have rl4 := H_.out.below bx4.bel
      have hlk4 := lookR_ok rl4 k
      have r0 := bx4.r0
      cases hib : inR k zs.length with
      | false =>
        have hb : twiceB m k (itms zs) = false := by
          unfold twiceB
          rw [itms_len]
          unfold inR at hib
          rw [hib, Bool.false_and]
        have hl : twiceL m k (itms zs) = itms zs := by unfold twiceL; rw [hb, if_neg (by simp)]
        rw [hb, hl] at hR
        clear hb hl
        have s4 := bx4.r4
        have t4 := bx4.o4
        have RL4_ := hid rl4
        clear rl4
        have HR_ := hid hR
        clear hR
        have BX4_ := hid bx4
        clear bx4
        have HMID_ := hid hmid
        clear hmid
        have HLK4_ := hid hlk4
        clear hlk4
        have S4_ := hid s4
        clear s4
        have T4_ := hid t4
        clear t4
        have H1_ := hid h1
        clear h1
        go_wp2
        go_meet
        case rel =>
          rw [HR_.out]
          exact HMID_.out w4 w4 a zs c ⟨itms zs, 0, zeroI, 0, false⟩ BX4_.out RL4_.out (.self H1_.out) (Chg.refl _ _) rfl (fun z hz => .inl hz) BX4_.out.r0 ⟨none, 0, S4_.out, .inl rfl, .inl rfl⟩ T4_.out
      | true =>
        have hi' := hib
        unfold inR at hib
        have hin := of_decide_eq_true hib
        have hg : (itms zs).getD k.toNat zeroI = (lookR k zs).x := by
          rw [hlx]
          unfold lookI
          rw [itms_len, if_pos hin]
        have hput := rput_c m zs a c (lookR k zs) w4 rl4 hlk4 hm hlm
        have hb : twiceB m k (itms zs) = decide (zs.length < m) := by
          unfold twiceB
          rw [itms_len, hib, Bool.true_and]
        have hl : twiceL m k (itms zs) = itms (putZ m zs (lookR k zs)) := by
          rw [itms_put, itms_len]
          unfold twiceL
          rw [hb, hg]
          by_cases hr : zs.length < m
          · rw [if_pos (decide_eq_true hr), if_pos hr]
          · rw [if_neg (by simpa using hr), if_neg hr]
        rw [hb, hl] at hR
        have hlm : lookR k zs ∈ zs := by
          unfold lookR
          rw [if_pos hin]
          exact memR (by omega)
        have hmem : ∀ z ∈ putZ m zs (lookR k zs), Src W1 zs ⟨x, oad, oc⟩ z := fun z hz => .inl ((putZ_mem hz).elim id (fun e => by rw [e]; exact hlm))
        clear hlm
        generalize lookR k zs = lk at *
        generalize putZ m zs lk = ks at *
        clear hb hl hg hlx hi' hib hin
        have HPUT_ := hid hput
        clear hput
        have HR_ := hid hR
        clear hR
        have HMID_ := hid hmid
        clear hmid
        have RL4_ := hid rl4
        clear rl4
        have BX4_ := hid bx4
        clear bx4
        have HLK4_ := hid hlk4
        clear hlk4
        have H1_ := hid h1
        clear h1
        go_wp2_with fail
        refine HPUT_.out.mono ?_
        rintro e w5 ⟨a5, c5, rfl, rl, b5, og⟩
        dsimp only
        have bx5 := BX4_.out.below b5
        have og := og.down H1_.out (by have := b9.size; have := b3.size; have := BX4_.out.lt; have hx9 := b3.size; omega)
        have hR := HR_.out
        have hmid := HMID_.out
        clear HPUT_ HR_ HMID_ BX4_ RL4_ HLK4_ b5 r0 r9 o9 b9 lt9
        rcases (show zs.length < m ∨ ¬ zs.length < m by omega) with hr | hr
        · rw [show putE m zs.length = 0 from if_pos hr]
          rw [decide_eq_true hr] at hR
          obtain ⟨w6, e6, c6, s0, t0, s4, t4⟩ := set_q (m := m) (a3 := a5) (n3 := ks.length) (c3 := c5) bx5 (qa_ne _ _ _ _)
          have r0 := bx5.r0
          have o0 := bx5.o0
          have RL_ := hid rl
          clear rl
          have OG_ := hid og
          clear og
          have HR_ := hid hR
          clear hR
          have BX5_ := hid bx5
          clear bx5
          have C6_ := hid c6
          clear c6
          have S0_ := hid s0
          clear s0
          have HMEM_ := hid hmem
          clear hmem
          have HMID_ := hid hmid
          clear hmid
          have S4_ := hid s4
          clear s4
          have T4_ := hid t4
          clear t4
          go_wp2
          go_meet
          case rel =>
            rw [HR_.out]
            exact HMID_.out w5 w6 a5 ks c5 ⟨itms ks, 0, zeroI, 0, true⟩ BX5_.out RL_.out OG_.out C6_.out rfl HMEM_.out S0_.out ⟨none, 0, S4_.out, .inl rfl, .inl rfl⟩ T4_.out
        · rw [show putE m zs.length = 180 from if_neg hr]
          rw [decide_eq_false hr] at hR
          obtain ⟨w6, e6, c6, s0, t0, s4, t4⟩ := set_q (m := m) (a3 := a5) (n3 := ks.length) (c3 := c5) bx5 (qa_ne _ _ _ _)
          have r0 := bx5.r0
          have o0 := bx5.o0
          have RL_ := hid rl
          clear rl
          have OG_ := hid og
          clear og
          have HR_ := hid hR
          clear hR
          have BX5_ := hid bx5
          clear bx5
          have C6_ := hid c6
          clear c6
          have S0_ := hid s0
          clear s0
          have HMEM_ := hid hmem
          clear hmem
          have HMID_ := hid hmid
          clear hmid
          have S4_ := hid s4
          clear s4
          have T4_ := hid t4
          clear t4
          go_wp2
          go_meet
          case rel =>
            rw [HR_.out]
            exact HMID_.out w5 w6 a5 ks c5 ⟨itms ks, 0, zeroI, 0, false⟩ BX5_.out RL_.out OG_.out C6_.out rfl HMEM_.out S0_.out ⟨none, 0, S4_.out, .inl rfl, .inl rfl⟩ T4_.out
    rcases (show kd = 5 ∨ kd ≠ 5 by omega) with h5k | h5k
    · subst h5k
      have hR := doR5 m k p x (itms zs)
      have r0 := bx.r0
      have r1 := bx.r1
      have hcall := rturn_c m zs a c k p W1 h1 hzl HOK_.out
      clear h1 hx1
      have HCALL_ := hid hcall
      clear hcall
      have BX_ := hid bx
      clear bx
      have HMID_ := hid hmid
      clear hmid
      go_wp2_with fail
      refine HCALL_.out.mono ?_
      rintro e w3 ⟨a3, c3, a2, c2, rfl, rl, b3, og, ha2⟩
      dsimp only
      have bx3 := BX_.out.below b3
      have hW := BX_.out.lt
      have hbw1 := BX_.out.bel
      have hmid := HMID_.out
      
      clear HCALL_ BX_ HMID_ r0 r1
      rw [← turnZ_itms k p zs a2 c2] at hR
      have hmem : ∀ z ∈ turnZ k p zs a2 c2, Src W1 zs ⟨x, oad, oc⟩ z := fun z hz => (turnZ_mem hz).imp id (fun e => .inr (fun b hb => ha2 b (by rw [← e]; exact hb)))
      clear ha2
      generalize turnZ k p zs a2 c2 = ks at *
      generalize doneT k p (itms zs) (itms zs).length = ib at *
      obtain ⟨w4, e4, c4, s0, t0, s4, t4⟩ := set_q (m := m) (a3 := a3) (n3 := ks.length) (c3 := c3) bx3 (qa_ne _ _ _ _)
      have r0 := bx3.r0
      have o0 := bx3.o0
      have r4 := bx3.r4
      have o4 := bx3.o4
      have RL_ := hid rl
      clear rl
      have OG_ := hid og
      clear og
      have HR_ := hid hR
      clear hR
      have BX3_ := hid bx3
      clear bx3
      have C4_ := hid c4
      clear c4
      have S0_ := hid s0
      clear s0
      have HMEM_ := hid hmem
      clear hmem
      have HMID_ := hid hmid
      clear hmid
      have S4_ := hid s4
      clear s4
      have T4_ := hid t4
      clear t4
      go_wp2
      go_meet
      case rel =>
        rw [HR_.out]
        exact HMID_.out w3 w4 a3 ks c3 ⟨itms ks, 0, zeroI, 0, ib⟩ BX3_.out RL_.out OG_.out C4_.out rfl HMEM_.out S0_.out ⟨none, 0, S4_.out, .inl rfl, .inl rfl⟩ T4_.out
    rcases (show kd = 6 ∨ kd ≠ 6 by omega) with h6k | h6k
    · subst h6k
      have hR := doR6 m k p x (itms zs)
      rw [itms_len] at hR
      have r0 := bx.r0
      have o0 := bx.o0
      have r1 := bx.r1
      have r4 := bx.r4
      have o4 := bx.o4
      have HR_ := hid hR
      clear hR
      have BX_ := hid bx
      clear bx
      have HMID_ := hid hmid
      clear hmid
      go_wp2
      go_meet
      case rel =>
        have c5 : Chg (fun b => b = w.heap.size ∨ b = w.heap.size + 1 + 1 + 1 + 1) W1 ((W1.setCell ⟨w.heap.size + 1 + 1 + 1 + 1, 3, none⟩ (.int .i64 zs.length)).setCell ⟨w.heap.size, 1, none⟩ (.slice none 0 0)) := ((Chg.refl (fun b => b = w.heap.size ∨ b = w.heap.size + 1 + 1 + 1 + 1) W1).setCell (p := ⟨w.heap.size + 1 + 1 + 1 + 1, 3, none⟩) (.inr (.inr rfl)) _).setCell (p := ⟨w.heap.size, 1, none⟩) (.inr (.inl rfl)) _
        rw [HR_.out]
        exact HMID_.out W1 _ none [] 0 ⟨[], 0, zeroI, zs.length, true⟩ BX_.out ⟨.inl rfl, fun z hz => absurd hz (by simp)⟩ (fun b hb => by simp at hb) c5 rfl (fun z hz => absurd hz (by simp)) (by rw [row_setCell, if_pos rfl, row_setCell, if_neg (by show ¬ w.heap.size = w.heap.size + 1 + 1 + 1 + 1; omega), r0]; rfl) ⟨none, 0, by rw [row_setCell, if_neg (by show ¬ w.heap.size + 1 + 1 + 1 + 1 = w.heap.size; omega), row_setCell, if_pos rfl, r4]; rfl, .inl rfl, .inl rfl⟩ (by rw [own_setCell, own_setCell]; exact o4)
    have hR : doR m ⟨kd, k, p, x⟩ (itms zs) = ⟨itms zs, 0, zeroI, 0, true⟩ := by unfold doR; rw [if_neg h0k, if_neg h1k, if_neg h2k, if_neg h3k, if_neg h4k, if_neg h5k, if_neg h6k]
    have HR_ := hid hR
    clear hR
    have BX_ := hid bx
    clear bx
    have HMID_ := hid hmid
    clear hmid
    have H1_ := hid h1
    clear h1
    go_wp2
    go_meet
    case rel =>
      rw [HR_.out]
      exact HMID_.out W1 W1 a zs c ⟨itms zs, 0, zeroI, 0, true⟩ BX_.out H1_.out (.self H1_.out) (Chg.refl _ _) rfl (fun z hz => .inl hz) BX_.out.r0 ⟨none, 0, BX_.out.r4, .inl rfl, .inl rfl⟩ BX_.out.o4
  case rest =>
    obtain ⟨rfl, ks, a3, c3, xa, xc, hys, hF⟩ := hcut
    obtain ⟨R, hR⟩ : ∃ R, doR m ⟨kd, k, p, x⟩ (itms zs) = R := ⟨_, rfl⟩
    rw [hR] at hys hF ⊢
    obtain ⟨ys, E, y, N, is⟩ := R
    dsimp only at hys hF ⊢
    clear hmid h1 hx1 bx
    cases is with
    | true =>
      have x0 := hF.x0
      have x2 := hF.x2
      have x3 := hF.x3
      have x4 := hF.x4
      have y2 := hF.y2
      have y3 := hF.y3
      have lt := hF.lt
      have HF_ := hid hF
      clear hF
      have HR_ := hid hR
      clear hR
      have HYS_ := hid hys
      clear hys
      go_upto_region 28 with (fail)
      refine wp_region_ls (by kernel_rfl) (by kernel_rfl) [(0, 97, .agg (qa m a3 ks.length c3)), (1, 98, .agg (aa E y.k xa y.bs.length xc N))] [(2, w.heap.size + 1 + 1, qa m a3 ks.length c3), (3, w.heap.size + 1 + 1 + 1, aa E y.k xa y.bs.length xc N)] ?_ ?_ ?_ ?_ ?_ ?_ ?_ ?_ ?_ ?_ ?_
      · intro i hi
        match i, hi with
        | 0, _ | 1, _ | 2, _ | 3, _ => simp
      · simp
      · simp
      · simp
      · simp
      · simp
      · simp
      · simp [x2, y2, x3, y3]
      · intro x hx o ho
        simp only [List.mem_cons, List.not_mem_nil, or_false] at hx
        rcases hx with rfl | rfl <;> cases ho <;> refine ⟨rfl, rfl, fun act w' hf hdep hc => ?_⟩
        · have e : act.tmps[2]?.getD undef = .pointer (some ⟨w.heap.size, 0, none⟩) := hf.at 2 (by simp) rfl
          have hr := (hc.row (by omega) (by simp [Blk] <;> omega)).trans x0
          simp [go_sem, e, hr]
        · have e : act.tmps[6]?.getD undef = .pointer (some ⟨w.heap.size + 1 + 1 + 1 + 1, 0, none⟩) := hf.at 6 (by simp) rfl
          have hr := (hc.row (by omega) (by simp [Blk] <;> omega)).trans x4
          simp [go_sem, e, hr]
      · intro x hx o ho
        simp only [List.mem_cons, List.not_mem_nil, or_false] at hx
        rcases hx with rfl | rfl <;> cases ho <;> refine ⟨rfl, rfl, fun act w' hf hdep hc how hsz => ?_⟩
        · have e : act.tmps[4]?.getD undef = .pointer (some ⟨w.heap.size + 1 + 1, 0, none⟩) := hf.at 4 (by simp) rfl
          have e' : act.tmps[97]?.getD undef = .agg (qa m a3 ks.length c3) := hdep.at (0, 97, .agg (qa m a3 ks.length c3)) (by simp) ⟨⟨0, .data⟩, by simp, rfl, rfl⟩
          simp only [qa_size] at how hsz
          simp [go_sem, e, e', how, hsz]
        · have e : act.tmps[5]?.getD undef = .pointer (some ⟨w.heap.size + 1 + 1 + 1, 0, none⟩) := hf.at 5 (by simp) rfl
          have e' : act.tmps[98]?.getD undef = .agg (aa E y.k xa y.bs.length xc N) := hdep.at (1, 98, .agg (aa E y.k xa y.bs.length xc N)) (by simp) ⟨⟨1, .data⟩, by simp, rfl, rfl⟩
          simp only [aa_size] at how hsz
          simp [go_sem, e, e', how, hsz]
      · intro act w' hdf hf hrd hc hwr
        have u2 := (hwr (2, w.heap.size + 1 + 1, qa m a3 ks.length c3) (by simp)).1
        have u3 := (hwr (3, w.heap.size + 1 + 1 + 1, aa E y.k xa y.bs.length xc N) (by simp)).1
        have hct : Chg (fun b => b = w.heap.size + 1 + 1 ∨ b = w.heap.size + 1 + 1 + 1) wc w' := hc.mono (fun b _ h => by
          simp [Blk] at h
          omega)
        go_wp2
        refine bodyPost_ret (results_cell22 rfl ((hf 4 (by simp)).trans rfl) ((hf 5 (by simp)).trans rfl) (v := .agg (qa m a3 ks.length c3)) (v2 := .agg (aa E y.k xa y.bs.length xc N)) (by rw [ldRQ _ _ _ (by rw [u2]; simp), u2, qa_all]) (by rw [ldAns _ _ _ (by rw [u3]; simp), u3, aa_all])) hdf ?_
        obtain ⟨f1, f2, f3, f4, f5, f6⟩ := HF_.out.done hct
        rw [HR_.out]
        exact ⟨ks, a3, c3, xa, ⟨xc, rfl⟩, HYS_.out, f1, f2, f3, f4, f5, f6⟩
    | false =>
      have x4 := hF.x4
      have y4 := hF.y4
      have HF_ := hid hF
      clear hF
      go_upto_region 28 with (fail)
      have hF := HF_.out.setE 1
      generalize wc.setCell ⟨w.heap.size + 1 + 1 + 1 + 1, 0, none⟩ (.int .i64 1) = w6 at *
      clear x4 y4 HF_
      have x0 := hF.x0
      have x2 := hF.x2
      have x3 := hF.x3
      have x4 := hF.x4
      have y2 := hF.y2
      have y3 := hF.y3
      have lt := hF.lt
      have HF_ := hid hF
      clear hF
      have HR_ := hid hR
      clear hR
      have HYS_ := hid hys
      clear hys
      refine wp_region_ls (by kernel_rfl) (by kernel_rfl) [(0, 97, .agg (qa m a3 ks.length c3)), (1, 98, .agg (aa 1 y.k xa y.bs.length xc N))] [(2, w.heap.size + 1 + 1, qa m a3 ks.length c3), (3, w.heap.size + 1 + 1 + 1, aa 1 y.k xa y.bs.length xc N)] ?_ ?_ ?_ ?_ ?_ ?_ ?_ ?_ ?_ ?_ ?_
      · intro i hi
        match i, hi with
        | 0, _ | 1, _ | 2, _ | 3, _ => simp
      · simp
      · simp
      · simp
      · simp
      · simp
      · simp
      · simp [x2, y2, x3, y3]
      · intro x hx o ho
        simp only [List.mem_cons, List.not_mem_nil, or_false] at hx
        rcases hx with rfl | rfl <;> cases ho <;> refine ⟨rfl, rfl, fun act w' hf hdep hc => ?_⟩
        · have e : act.tmps[2]?.getD undef = .pointer (some ⟨w.heap.size, 0, none⟩) := hf.at 2 (by simp) rfl
          have hr := (hc.row (by omega) (by simp [Blk] <;> omega)).trans x0
          simp [go_sem, e, hr]
        · have e : act.tmps[6]?.getD undef = .pointer (some ⟨w.heap.size + 1 + 1 + 1 + 1, 0, none⟩) := hf.at 6 (by simp) rfl
          have hr := (hc.row (by omega) (by simp [Blk] <;> omega)).trans x4
          simp [go_sem, e, hr]
      · intro x hx o ho
        simp only [List.mem_cons, List.not_mem_nil, or_false] at hx
        rcases hx with rfl | rfl <;> cases ho <;> refine ⟨rfl, rfl, fun act w' hf hdep hc how hsz => ?_⟩
        · have e : act.tmps[4]?.getD undef = .pointer (some ⟨w.heap.size + 1 + 1, 0, none⟩) := hf.at 4 (by simp) rfl
          have e' : act.tmps[97]?.getD undef = .agg (qa m a3 ks.length c3) := hdep.at (0, 97, .agg (qa m a3 ks.length c3)) (by simp) ⟨⟨0, .data⟩, by simp, rfl, rfl⟩
          simp only [qa_size] at how hsz
          simp [go_sem, e, e', how, hsz]
        · have e : act.tmps[5]?.getD undef = .pointer (some ⟨w.heap.size + 1 + 1 + 1, 0, none⟩) := hf.at 5 (by simp) rfl
          have e' : act.tmps[98]?.getD undef = .agg (aa 1 y.k xa y.bs.length xc N) := hdep.at (1, 98, .agg (aa 1 y.k xa y.bs.length xc N)) (by simp) ⟨⟨1, .data⟩, by simp, rfl, rfl⟩
          simp only [aa_size] at how hsz
          simp [go_sem, e, e', how, hsz]
      · intro act w' hdf hf hrd hc hwr
        have u2 := (hwr (2, w.heap.size + 1 + 1, qa m a3 ks.length c3) (by simp)).1
        have u3 := (hwr (3, w.heap.size + 1 + 1 + 1, aa 1 y.k xa y.bs.length xc N) (by simp)).1
        have hct : Chg (fun b => b = w.heap.size + 1 + 1 ∨ b = w.heap.size + 1 + 1 + 1) w6 w' := hc.mono (fun b _ h => by
          simp [Blk] at h
          omega)
        go_wp2
        refine bodyPost_ret (results_cell22 rfl ((hf 4 (by simp)).trans rfl) ((hf 5 (by simp)).trans rfl) (v := .agg (qa m a3 ks.length c3)) (v2 := .agg (aa 1 y.k xa y.bs.length xc N)) (by rw [ldRQ _ _ _ (by rw [u2]; simp), u2, qa_all]) (by rw [ldAns _ _ _ (by rw [u3]; simp), u3, aa_all])) hdf ?_
        obtain ⟨f1, f2, f3, f4, f5, f6⟩ := HF_.out.done hct
        rw [HR_.out]
        exact ⟨ks, a3, c3, xa, ⟨xc, rfl⟩, HYS_.out, f1, f2, f3, f4, f5, f6⟩
end Go.Proofs.Ytbdpnmocbpplbaa
