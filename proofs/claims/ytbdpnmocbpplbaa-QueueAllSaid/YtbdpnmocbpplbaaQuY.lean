/-
  The reference's Look and Put walked. No condition.
-/
import Derived.Test.YtbdpnmocbpplbaaQuW
import Derived.Test.YtbdpnmocbpplbaaQuK
import Derived.Great.FillDense
import Derived.Great.BuildSlice
namespace Go.Proofs.Ytbdpnmocbpplbaa
open Go.RowKit Go.Conc

/-- The cells of the reference's queue. -/
def qa (m : Int) (a : Option Addr) (n c : Nat) : Array Value := #[.int .i64 m, .slice a n c]
@[simp, go_sem] theorem qa_size (m : Int) (a : Option Addr) (n c : Nat) : (qa m a n c).size = 2 := rfl
@[simp, go_sem] theorem qa_ne (m : Int) (a : Option Addr) (n c : Nat) : qa m a n c ≠ #[] := fun e => by have := qa_size m a n c; rw [e] at this; cases this
@[simp, go_sem] theorem qa_0 (m : Int) (a : Option Addr) (n c : Nat) : (qa m a n c)[0]? = some (.int .i64 m) := rfl
@[simp, go_sem] theorem qa_1 (m : Int) (a : Option Addr) (n c : Nat) : (qa m a n c)[1]? = some (.slice a n c) := rfl
@[simp, go_sem] theorem qa_at0 (m : Int) (a : Option Addr) (n c : Nat) (h : 0 < (qa m a n c).size) : (qa m a n c)[0]'h = .int .i64 m := rfl
@[simp, go_sem] theorem qa_at1 (m : Int) (a : Option Addr) (n c : Nat) (h : 1 < (qa m a n c).size) : (qa m a n c)[1]'h = .slice a n c := rfl
@[simp, go_sem] theorem qa_all (m : Int) (a : Option Addr) (n c : Nat) : sub (qa m a n c) 0 2 = qa m a n c := sub_all _ _ (by simp)
theorem qa_one (m : Int) (a : Option Addr) (n c : Nat) : ∀ v ∈ qa m a n c, v.oneCell' = true := by
  intro v hv
  simp [qa] at hv
  rcases hv with rfl | rfl <;> rfl
@[simp, go_sem] theorem qa_set (m : Int) (a a' : Option Addr) (n c n' c' : Nat) : (qa m a n c).setIfInBounds 1 (.slice a' n' c') = qa m a' n' c' := rfl
theorem qa_lit : (#[.int .i64 0, .slice none 0 0] : Array Value) = qa 0 none 0 0 := rfl
theorem agg47 (w : World) : (isAgg 47).run Try.prog w = .ok true w := by kernel_rfl
theorem siz47 (w : World) : (sizeOf 47).run Try.prog w = .ok 2 w := by kernel_rfl
@[go_sem] theorem ldRQ (w : World) (b off : Nat) (h : off + 2 ≤ (row? w b).size) : (ldAt 47 (.pointer (some ⟨b, off, none⟩))).run Try.prog w = .ok (.agg (sub (row? w b) off 2)) w := run_ldAt_agg agg47 siz47 w b off h
@[go_sem] theorem stRQ (w : World) (b : Nat) (m : Int) (a : Option Addr) (n c : Nat) (h : (row? w b).size = 2) (ho : own? w b = true) : (stAt 47 (.pointer (some ⟨b, 0, none⟩)) (.agg (qa m a n c))).run Try.prog w = .ok () (w.setRow b (qa m a n c)) :=
  run_stAt_row siz47 w b _ (Array.all_eq_true_iff_forall_mem.2 (qa_one m a n c)) (by simp) h ho
@[go_sem] theorem bldRItm0 (w : World) : (bld 30 #[]).run Try.prog w = .ok (.agg (ic 0 none 0 0)) w := run_bld w (by kernel_rfl)
@[go_sem] theorem stRItmF (w : World) (b : Nat) (z : ItR) (h : (row? w b).size = 2) (ho : own? w b = true) : (stAt 30 (.pointer (some ⟨b, 0, none⟩)) (.agg (fR z))).run Try.prog w = .ok () (w.setRow b (fR z)) := stRItm w b _ _ _ _ h ho
@[simp, go_sem] theorem fR_all (z : ItR) : sub (fR z) 0 2 = fR z := sub_all _ _ (by simp)
@[simp, go_sem] theorem fR_ne (z : ItR) : fR z ≠ #[] := fun e => by have := fR_size z; rw [e] at this; cases this
theorem fR_zero : fR zeroR = ic 0 none 0 0 := rfl
@[simp, go_sem] theorem fR_0 (z : ItR) : (fR z)[0]? = some (.int .i64 z.x.k) := rfl
@[simp, go_sem] theorem fR_1 (z : ItR) : (fR z)[1]? = some (.slice z.a z.x.bs.length z.c) := rfl
@[simp, go_sem] theorem fR_at0 (z : ItR) (h : 0 < (fR z).size) : (fR z)[0]'h = .int .i64 z.x.k := rfl
@[simp, go_sem] theorem fR_at1 (z : ItR) (h : 1 < (fR z).size) : (fR z)[1]'h = .slice z.a z.x.bs.length z.c := rfl
/-- A row of one's own is set anew. -/
theorem set_row {w0 w : World} {b : Nat} {A B : Array Value} (hb : w0.heap.size ≤ b) (hr : row? w b = A) (ho : own? w b = true) (hA : A ≠ #[]) (hw : Below w0.heap.size w0 w) : ∃ W1, w.setRow b B = W1 ∧ row? W1 b = B ∧ own? W1 b = true ∧ Below w0.heap.size w0 W1 ∧ Chg (· = b) w W1 := by
  obtain ⟨W1, h1, h2, h3, h4⟩ := setb (B := B) hb hr ho hA hw
  exact ⟨W1, h1, h2, h3, h4, by rw [← h1]; exact (Chg.refl (· = b) w).setRow (.inr rfl) _⟩
/-- The reference's items, as they lie. -/
structure RL (w : World) (a : Option Addr) (zs : List ItR) : Prop where
  row : RowsIn fR zeroR 2 w a zs
  ok : ∀ z ∈ zs, PdR w z
theorem PdR.below {w w' : World} {s : ItR} (h : PdR w s) (hb : Below w.heap.size w w') : PdR w' s := ⟨h.1.below (by decide) hb, h.2⟩
theorem RL.below {w w' : World} {a : Option Addr} {zs : List ItR} (h : RL w a zs) (hb : Below w.heap.size w w') : RL w' a zs := ⟨h.row.below (by decide) hb, fun z hz => (h.ok z hz).below hb⟩
/-- Is there an item of that number? -/
def inR (p : Int) (n : Nat) : Bool := decide (0 ≤ p ∧ p < (n : Int))
def lookR (p : Int) (zs : List ItR) : ItR := if 0 ≤ p ∧ p < zs.length then zs.getD p.toNat zeroR else zeroR
theorem memR {zs : List ItR} {k : Nat} (h : k < zs.length) : zs.getD k zeroR ∈ zs := by
  rw [List.getD_eq_getElem?_getD, List.getElem?_eq_getElem h]
  exact List.getElem_mem h
theorem PdR_zero (w : World) : PdR w zeroR := ⟨.inl rfl, by simp [zeroR, zeroI]⟩
theorem lookR_ok {w : World} {a : Option Addr} {zs : List ItR} (h : RL w a zs) (p : Int) : PdR w (lookR p zs) := by
  unfold lookR
  split
  · exact h.ok _ (memR (by omega))
  · exact PdR_zero w
theorem lookR_x (p : Int) (zs : List ItR) : (lookR p zs).x = lookI p (itms zs) := by
  unfold lookR lookI
  have hl : (itms zs).length = zs.length := by simp [itms]
  rw [hl]
  split
  · rw [itms_getD zs _ (by omega)]
  · rfl
set_option maxRecDepth 100000 in
set_option maxHeartbeats 2000000 in
theorem rlook_c (m : Int) (zs : List ItR) (a : Option Addr) (c : Nat) (p : Int) (w : World) (h : RL w a zs) :
    Calls Try.prog 30 #[.agg (qa m a zs.length c), .int .i64 p] w fun e w' => e = .returned (.tuple #[.agg (fR (lookR p zs)), .bool (inR p zs.length)]) ∧ Below w.heap.size w w' := by
  have hrow := h.row
  have H_ := hid h
  clear h
  have HROW_ := hid hrow
  clear hrow
  go_enter Try.func30, Try.ntmps30
  go_upto_region 1 with (fail)
  obtain ⟨W1, hW1⟩ : ∃ W1, (w.alloc (.cells (qa m a zs.length c) 47)).alloc (.cells (ic 0 none 0 0) 30) = W1 := ⟨_, rfl⟩
  have hb1 : Below w.heap.size w W1 := by rw [← hW1]; exact ((Below.refl _ _).alloc (Nat.le_refl _) _).alloc (by simp) _
  have r0 : row? W1 w.heap.size = qa m a zs.length c := by rw [← hW1]; simp [row_alloc, rowOf]
  have r1 : row? W1 (w.heap.size + 1) = ic 0 none 0 0 := by rw [← hW1]; simp [row_alloc, rowOf]
  have o1 : own? W1 (w.heap.size + 1) = true := by rw [← hW1]; simp [own_alloc, ownOf]
  rw [hW1]
  clear hW1
  have hs1 : w.heap.size + 1 < W1.heap.size := own_lt o1
  have HB1_ := hid hb1
  clear hb1
  have HS1_ := hid hs1
  clear hs1
  by_cases hp : 0 ≤ p ∧ p < (zs.length : Int)
  · obtain ⟨k, rfl⟩ : ∃ k : Nat, p = k := ⟨p.toNat, by omega⟩
    have hk : k < zs.length := by omega
    have hne : zs ≠ [] := by intro e; rw [e] at hk; simp at hk
    obtain ⟨g, off, rfl, hr⟩ := (HROW_.out.below (by decide) HB1_.out).at hne
    obtain ⟨s1, s2⟩ := hr k hk
    have hp1 : ¬ (k : Int) < 0 := by omega
    have hp2 : ¬ (zs.length : Int) ≤ (k : Int) := by omega
    have hp3 : (k : Int) < (zs.length : Int) := by omega
    have hlk : lookR k zs = zs.getD k zeroR := by unfold lookR; rw [if_pos hp, Int.toNat_natCast]
    have hdd : inR k zs.length = true := decide_eq_true hp
    generalize zs.getD k zeroR = z at *
    clear hr hp
    have HLK_ := hid hlk
    clear hlk
    have HDD_ := hid hdd
    clear hdd
    have HK_ := hid hk
    clear hk
    have HNE_ := hid hne
    clear hne
    go_wp2
    obtain ⟨W2, hE, r2, _, b2, _⟩ := set_row (w0 := w) (B := fR z) (by omega) r1 o1 (by simp) HB1_.out
    rw [hE]
    exact bodyPost_ret (results_cell2 rfl rfl (v := .agg (fR z)) (by rw [ldRItm _ _ _ (by rw [r2]; simp), r2, fR_all])) rfl ⟨by rw [HLK_.out, HDD_.out]; rfl, b2⟩
  · have hlk : lookR p zs = zeroR := if_neg hp
    have hdd : inR p zs.length = false := decide_eq_false hp
    have hcase : p < 0 ∨ (¬ p < 0 ∧ (zs.length : Int) ≤ p) := by omega
    have HLK_ := hid hlk
    clear hlk
    have HDD_ := hid hdd
    clear hdd
    clear hp
    rcases hcase with hp1 | ⟨hp1, hp2⟩ <;> (
      go_wp2
      obtain ⟨W2, hE, r2, _, b2, _⟩ := set_row (w0 := w) (B := ic 0 none 0 0) (by omega) r1 o1 (by simp) HB1_.out
      rw [hE]
      exact bodyPost_ret (results_cell2 rfl rfl (v := .agg (ic 0 none 0 0)) (by rw [ldRItm _ _ _ (by rw [r2]; simp), r2, ic_all])) rfl ⟨by rw [HLK_.out, HDD_.out]; rfl, b2⟩)
theorem fillR1 (z : ItR) (cells : Array Value) (h : cells.size = 2) : Instr.fill (fun i => some (i * 2, 2)) cells [(0, .agg (fR z))] = some (fR z) := by
  have hc : ∀ c : ItR, (Value.agg (fR c)).cells = fR c := fun _ => rfl
  have := Great.fill_whole (s := 2) (by decide) [.agg (fR z)] cells (by intro v hv; simp at hv; rw [hv, hc]; simp) (by simp [h])
  refine this.trans ?_
  congr 1
theorem run_bsR1 (w : World) (z : ItR) : (Instr.buildSlice 22 1 #[(0, .agg (fR z))]).run Try.prog w = .ok (.slice (some ⟨w.heap.size, 0, none⟩) 1 1) (w.alloc (.cells (fR z) 30)) := by
  obtain ⟨i0, hi0, hz0, hz1, hz2⟩ := info_parts' infoR
  refine run_buildSlice w 22 30 1 _ _ i0 (.agg (ic 0 none 0 0)) (by kernel_rfl) hi0 hz0 (by rw [hz1]; decide) (by rw [hz1]; decide) ?_
  rw [hz1]
  exact fillR1 z _ (Array.size_map.trans Array.size_range)
theorem fR_one (z : ItR) : ∀ u ∈ (fR z).toList, u.oneCell' = true := fun u hu => ic_one _ _ _ _ u (by simpa [fR] using hu)
/-- 'append([]Item{}, l...)': what comes is one's own. -/
theorem run_all2 (xs : List ItR) (hl : xs.length ≤ 1000) (a : Option Addr) (cap : Nat) {w : World} (h : RowsIn fR zeroR 2 w a xs) :
    ∃ v w', (Builtin.append_ #[22, 22] 22 #[.slice (some ⟨w.heap.size, 0, none⟩) 0 0, .slice a xs.length cap]).run Try.prog (w.alloc (.cells #[] 30)) = .ok v w' ∧
      w'.ownsRow w.heap.size 30 2 v xs.length (rowsL fR xs) ∧ Below w.heap.size w w' := by
  obtain ⟨i0, hi0, hz0, hz1, hz2⟩ := info_parts' infoR
  have hal : Below w.heap.size w (w.alloc (.cells #[] 30)) := (Below.refl _ _).alloc (Nat.le_refl _) _
  have hown : (w.alloc (.cells #[] 30)).ownsRow w.heap.size 30 2 (.slice (some ⟨w.heap.size, 0, none⟩) 0 0) 0 [] := ⟨rfl, .inr ⟨_, 0, #[], rfl, Nat.le_refl _, alloc_new _ _, Nat.le_refl _, by unfold maxLen; omega, rfl, rfl⟩⟩
  cases a with
  | none =>
    have hb : xs = [] := by
      rcases h with h | ⟨_, _, e, _⟩
      · exact h
      · cases e
    subst hb
    refine ⟨.slice (some ⟨w.heap.size, 0, none⟩) 0 0, _, ?_, hown, hal⟩
    simp [Builtin.append_, run_underlying Try.underlying22, sizeOf, typeInfo, hi0, Builtin.lenOf, storeCells, Builtin.firstCells]
  | some ad =>
    obtain ⟨v', w', hr, h2, h3, h4, h5⟩ := run_append_own_at (P := Try.prog) (w := w.alloc (.cells #[] 30)) w.heap.size 22 22 30 i0 (.agg (ic 0 none 0 0)) 2 32 Try.underlying22 hi0 hz0 hz1 hz2 (by simp [Value.cells]) (by decide) _ _ _ hown ad xs.length cap (rowsL fR xs) (rowsL_length fR_size xs) (by
        intro j u hu
        rcases h.below (by decide) hal with h9 | ⟨b, off, e, h9⟩
        · subst h9
          simp [rowsL] at hu
        · cases e
          exact rows_cells fR_size (by decide) zeroR h9 j u hu) (by
        intro u hu
        simp only [rowsL, List.mem_flatMap] at hu
        obtain ⟨s, _, hs⟩ := hu
        exact fR_one s u hs) (by unfold maxLen; omega) (by omega) (by simp)
    rw [Nat.zero_add, List.nil_append] at h2
    exact ⟨v', w', hr, h2, hal.grown h3 hal.size (own_block_le hown)⟩
/-- 'append(l, x)' of a row of one's own. -/
theorem app_one (z : ItR) (zs : List ItR) (hl : zs.length ≤ 1000) {w : World} {B : Nat} {v : Value} (ho : w.ownsRow B 30 2 v zs.length (rowsL fR zs)) (hB : B ≤ w.heap.size) :
    ∃ v' w', (Builtin.append_ #[22, 22] 22 #[v, .slice (some ⟨w.heap.size, 0, none⟩) 1 1]).run Try.prog (w.alloc (.cells (fR z) 30)) = .ok v' w' ∧
      w'.ownsRow B 30 2 v' (zs ++ [z]).length (rowsL fR (zs ++ [z])) ∧ Below B w w' := by
  obtain ⟨i0, hi0, hz0, hz1, hz2⟩ := info_parts' infoR
  have hal : Below B w (w.alloc (.cells (fR z) 30)) := (Below.refl _ _).alloc hB _
  have ho1 := ho.alloc (.cells (fR z) 30)
  obtain ⟨v', w', hr, h2, h3, h4, h5⟩ := run_append_own_at (P := Try.prog) (w := w.alloc (.cells (fR z) 30)) B 22 22 30 i0 (.agg (ic 0 none 0 0)) 2 32 Try.underlying22 hi0 hz0 hz1 hz2 (by simp [Value.cells]) (by decide) _ _ _ ho1 ⟨w.heap.size, 0, none⟩ 1 1 (fR z).toList (by simp) (new_cells w (fR z) 30) (fR_one z) (by unfold maxLen; omega) (by omega) (by simp; omega)
  refine ⟨v', w', hr, by rw [rowsL_snoc, List.length_append]; exact h2, hal.grown h3 (Nat.le_trans hB hal.size) (own_block_le ho1)⟩
theorem run_bsR0 (w : World) : (Instr.buildSlice 22 0 #[]).run Try.prog w = .ok (.slice (some ⟨w.heap.size, 0, none⟩) 0 0) (w.alloc (.cells #[] 30)) := by simp [go_sem]
theorem run_bsB0 (w : World) : (Instr.buildSlice 28 0 #[]).run Try.prog w = .ok (.slice (some ⟨w.heap.size, 0, none⟩) 0 0) (w.alloc (.cells #[] 5)) := by simp [go_sem]
attribute [-go_sem] Instr.buildSlice
attribute [local go_sem] run_bsR1 run_bsR0 run_bsB0
theorem own_rows2 {w : World} {base : Nat} {v : Value} {n : Nat} {ys : List ItR} (h : w.ownsRow base 30 2 v n (rowsL fR ys)) : n = ys.length ∧ ∃ a cap, v = .slice a ys.length cap ∧ RowsIn fR zeroR 2 w a ys ∧ ∀ b, a.map (·.block) = some b → base ≤ b := by
  obtain ⟨hn, a, cap, rfl, hr⟩ := own_rows fR_size (by decide) zeroR h
  subst hn
  refine ⟨rfl, a, cap, rfl, hr, fun b hb => ?_⟩
  rcases h.2 with ⟨e, _⟩ | ⟨g, cap', cur, e, hge, _⟩
  · injection e with e1
    subst e1
    simp at hb
  · injection e with e1
    subst e1
    simp at hb
    omega
/-- Where the items behind a call lie: nowhere, behind the world before, or where they lay. -/
def Org (w : World) (a : Option Addr) (zs : List ItR) (a' : Option Addr) (zs' : List ItR) : Prop := ∀ b, a'.map (·.block) = some b → zs' = [] ∨ w.heap.size ≤ b ∨ (b < w.heap.size ∧ zs ≠ [] ∧ a.map (·.block) = some b)
theorem Org.self {w : World} {a : Option Addr} {zs : List ItR} (h : RL w a zs) : Org w a zs a zs := fun b hb => by
  by_cases h0 : zs = []
  · exact .inl h0
  · obtain ⟨g, off, rfl, hr⟩ := h.row.at h0
    cases hb
    exact .inr (.inr ⟨hr.lt (by decide) h0, h0, rfl⟩)
def putE (m n : Nat) : Int := if n < m then 0 else 180
def putZ (m : Nat) (zs : List ItR) (z : ItR) : List ItR := if zs.length < m then zs ++ [z] else zs
set_option maxRecDepth 100000 in
set_option maxHeartbeats 2000000 in
theorem rput_c (m : Nat) (zs : List ItR) (a : Option Addr) (c : Nat) (z : ItR) (w : World) (h : RL w a zs) (hz : PdR w z) (hm : m ≤ 900) (hlm : zs.length ≤ m) :
    Calls Try.prog 28 #[.agg (qa m a zs.length c), .agg (fR z)] w fun e w' => ∃ a' c', e = .returned (.tuple #[.agg (qa m a' (putZ m zs z).length c'), .int .i64 (putE m zs.length)]) ∧ RL w' a' (putZ m zs z) ∧ Below w.heap.size w w' ∧ Org w a zs a' (putZ m zs z) := by
  have hrow := h.row
  have H_ := hid h
  clear h
  have HZ_ := hid hz
  clear hz
  have HROW_ := hid hrow
  clear hrow
  go_enter Try.func28, Try.ntmps28
  go_upto_region 1 with (fail)
  obtain ⟨W1, hW1⟩ : ∃ W1, ((w.alloc (.cells (qa m a zs.length c) 47)).alloc (.cells (fR z) 30)).alloc (.cells (ic 0 none 0 0) 47) = W1 := ⟨_, rfl⟩
  have hb1 : Below w.heap.size w W1 := by rw [← hW1]; exact (((Below.refl _ _).alloc (Nat.le_refl _) _).alloc (by simp) _).alloc (by simp; omega) _
  have r0 : row? W1 w.heap.size = qa m a zs.length c := by
    rw [← hW1]
    simp [row_alloc, rowOf]
    intro e
    omega
  have r1 : row? W1 (w.heap.size + 1) = fR z := by rw [← hW1]; simp [row_alloc, rowOf]
  have r2 : row? W1 (w.heap.size + 1 + 1) = ic 0 none 0 0 := by rw [← hW1]; simp [row_alloc, rowOf]
  have o0 : own? W1 w.heap.size = true := by
    rw [← hW1]
    simp [own_alloc, ownOf]
  have o2 : own? W1 (w.heap.size + 1 + 1) = true := by rw [← hW1]; simp [own_alloc, ownOf]
  rw [hW1]
  clear hW1
  have hs1 : w.heap.size + 1 + 1 < W1.heap.size := own_lt o2
  have HB1_ := hid hb1
  clear hb1
  have HS1_ := hid hs1
  clear hs1
  by_cases hr : zs.length < m
  · have hp1 : ¬ (m : Int) ≤ (zs.length : Int) := by omega
    have hpe : putE m zs.length = 0 := if_pos hr
    have hpz : putZ m zs z = zs ++ [z] := if_pos hr
    have hle : zs.length ≤ 1000 := by omega
    have hRA := fun V => run_all2 zs (by omega) a c (w := V)
    have HR_ := hid hr
    clear hr
    have HLM_ := hid hlm
    clear hlm
    have HPE_ := hid hpe
    clear hpe
    have HPZ_ := hid hpz
    clear hpz
    have HRA_ := hid hRA
    clear hRA
    have HLE_ := hid hle
    clear hle
    obtain ⟨v1, w2, hr1, ho2, hb2⟩ := HRA_.out W1 (HROW_.out.below (by decide) HB1_.out)
    obtain ⟨_, a1, c1, rfl, _⟩ := own_rows2 ho2
    have e0 : row? w2 w.heap.size = qa m a zs.length c := (Below_row hb2 (own_lt o0)).trans r0
    have e1 : row? w2 (w.heap.size + 1) = fR z := (Below_row hb2 (row_lt (by rw [r1]; simp))).trans r1
    have p0 : own? w2 w.heap.size = true := (Below_own hb2 (own_lt o0)).trans o0
    have e2 : row? w2 (w.heap.size + 1 + 1) = ic 0 none 0 0 := (Below_row hb2 (own_lt o2)).trans r2
    have p2 : own? w2 (w.heap.size + 1 + 1) = true := (Below_own hb2 (own_lt o2)).trans o2
    have bw2 : Below w.heap.size w w2 := HB1_.out.trans (hb2.mono HB1_.out.size)
    obtain ⟨v3, w3, hr3, ho3, hb3⟩ := app_one z zs HLE_.out ho2 hb2.size
    obtain ⟨_, a3, c3, rfl, hrow3, hge3⟩ := own_rows2 ho3
    have lt0 : w.heap.size < W1.heap.size := own_lt o0
    have lt2 : w.heap.size + 1 + 1 < W1.heap.size := own_lt o2
    have d0 : row? w3 w.heap.size = qa m a zs.length c := (row_of_block (hb3.block _ lt0)).trans e0
    have q0 : own? w3 w.heap.size = true := (own_of_block (hb3.block _ lt0)).trans p0
    have d2 : row? w3 (w.heap.size + 1 + 1) = ic 0 none 0 0 := (row_of_block (hb3.block _ lt2)).trans e2
    have q2 : own? w3 (w.heap.size + 1 + 1) = true := (own_of_block (hb3.block _ lt2)).trans p2
    have bw3 : Below w.heap.size w w3 := bw2.trans (hb3.mono (by omega))
    have n0 : ¬ w.heap.size = W1.heap.size := by omega
    have n2 : ¬ w.heap.size = w2.heap.size := by have := hb2.size; omega
    have n3 : ¬ w.heap.size + 1 = w2.heap.size := by have := hb2.size; omega
    clear hb2 hb3 ho2 ho3 lt0 lt2 p2 e2 p0
    have HR1_ := hid hr1
    clear hr1
    have HR3_ := hid hr3
    clear hr3
    have HROW3_ := hid hrow3
    clear hrow3
    have BW2_ := hid bw2
    clear bw2
    have BW3_ := hid bw3
    clear bw3
    have HGE3_ := hid hge3
    clear hge3
    go_wp2_with (at_builtin; first | (refine wpList_append_run rfl _ _ 22 rfl _ _ rfl rfl HR1_.out ?_) | (refine wpList_append_run rfl _ _ 22 rfl _ _ rfl rfl HR3_.out ?_))
    have bw5 : Below w.heap.size w ((w3.setCell ⟨w.heap.size, 1, none⟩ (.slice a3 (zs.length + 1) c3)).setRow (w.heap.size + 1 + 1) (qa m a3 (zs.length + 1) c3)) := BW3_.out.trans ((((Chg.refl (fun b => b = w.heap.size ∨ b = w.heap.size + 1 + 1) w3).setCell (p := ⟨w.heap.size, 1, none⟩) (.inr (.inl rfl)) _).setRow (.inr (.inr rfl)) _).below BW3_.out.size (fun k hk e => by omega))
    have ch5 : Chg (fun b => b = w.heap.size ∨ b = w.heap.size + 1 + 1) w3 ((w3.setCell ⟨w.heap.size, 1, none⟩ (.slice a3 (zs.length + 1) c3)).setRow (w.heap.size + 1 + 1) (qa m a3 (zs.length + 1) c3)) := ((Chg.refl (fun b => b = w.heap.size ∨ b = w.heap.size + 1 + 1) w3).setCell (p := ⟨w.heap.size, 1, none⟩) (.inr (.inl rfl)) _).setRow (.inr (.inr rfl)) _
    have r5 : row? ((w3.setCell ⟨w.heap.size, 1, none⟩ (.slice a3 (zs.length + 1) c3)).setRow (w.heap.size + 1 + 1) (qa m a3 (zs.length + 1) c3)) (w.heap.size + 1 + 1) = qa m a3 (zs.length + 1) c3 := by
      rw [row_setRow _ _ _ _ (by rw [row_setCell, if_neg (by show ¬ w.heap.size + 1 + 1 = w.heap.size; omega), d2]; simp), if_pos rfl]
    generalize (w3.setCell ⟨w.heap.size, 1, none⟩ (.slice a3 (zs.length + 1) c3)).setRow (w.heap.size + 1 + 1) (qa m a3 (zs.length + 1) c3) = w5 at *
    refine bodyPost_ret (results_cell2 rfl rfl (v := .agg (qa m a3 (zs.length + 1) c3)) (by rw [ldRQ _ _ _ (by rw [r5]; simp), r5, qa_all])) rfl ⟨a3, ⟨c3, by rw [HPE_.out, HPZ_.out, List.length_append]; rfl⟩, ?_, bw5, fun b hb => .inr (.inl (by have := HGE3_.out b hb; have := HS1_.out; omega))⟩
    rw [HPZ_.out]
    refine ⟨HROW3_.out.kept (by decide) ch5 (fun b hb e => ?_), fun y hy => ?_⟩
    · have := HGE3_.out b hb
      have := HS1_.out
      omega
    · rcases List.mem_append.1 hy with h1 | h1
      · exact (H_.out.below bw5).ok y h1
      · rw [List.mem_singleton.1 h1]
        exact HZ_.out.below bw5
  · have hp1 : (m : Int) ≤ (zs.length : Int) := by omega
    have hpe : putE m zs.length = 180 := if_neg hr
    have hpz : putZ m zs z = zs := if_neg hr
    have HR_ := hid hr
    clear hr
    have HLM_ := hid hlm
    clear hlm
    have HPE_ := hid hpe
    clear hpe
    have HPZ_ := hid hpz
    clear hpz
    go_wp2
    obtain ⟨W2, hE, s2, _, b2, _⟩ := set_row (w0 := w) (B := qa m a zs.length c) (by omega) r2 o2 (by simp) HB1_.out
    rw [hE]
    exact bodyPost_ret (results_cell2 rfl rfl (v := .agg (qa m a zs.length c)) (by rw [ldRQ _ _ _ (by rw [s2]; simp), s2, qa_all])) rfl ⟨a, c, by rw [HPE_.out, HPZ_.out]; rfl, by rw [HPZ_.out]; exact H_.out.below b2, b2, by rw [HPZ_.out]; exact .self H_.out⟩
end Go.Proofs.Ytbdpnmocbpplbaa
