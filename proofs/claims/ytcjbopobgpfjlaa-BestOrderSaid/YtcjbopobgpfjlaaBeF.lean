/-
  The walk of the laws' own: the choices, in a slice of one's own. No condition but that there are at most 1000.
-/
import Derived.Test.YtcjbopobgpfjlaaBeE
namespace Go.Proofs.Ytcjbopobgpfjlaa
open Go.RowKit

theorem agg54 (w : World) : (isAgg 54).run Try.prog w = .ok true w := by kernel_rfl
theorem siz54 (w : World) : (sizeOf 54).run Try.prog w = .ok 33 w := by kernel_rfl
@[go_sem] theorem ldRCho (w : World) (b off : Nat) (h : off + 33 ≤ (row? w b).size) : (ldAt 54 (.pointer (some ⟨b, off, none⟩))).run Try.prog w = .ok (.agg (sub (row? w b) off 33)) w := run_ldAt_agg agg54 siz54 w b off h
@[go_sem] theorem stRCho (w : World) (b : Nat) (c : Cho) (h : (row? w b).size = 33) (ho : own? w b = true) : (stAt 54 (.pointer (some ⟨b, 0, none⟩)) (.agg (cha c))).run Try.prog w = .ok () (w.setRow b (cha c)) :=
  run_stAt_row siz54 w b _ (by rw [Array.all_eq_true_iff_forall_mem]; exact cha_one c) (by simp) h ho
theorem infoC : (Try.prog.info? 49).map (fun i => (i.zero, i.size, i.bytes)) = some (some (.agg (cha zeroCh)), 33, 96) := by kernel_rfl
theorem cha_one' (c : Cho) : ∀ v ∈ (cha c).toList, v.oneCell' = true := fun v hv => cha_one c v (by simpa using hv)
theorem take_snoc' {α : Type} (xs : List α) (z : α) (j : Nat) (h : j < xs.length) : xs.take (j + 1) = xs.take j ++ [xs.getD j z] := by
  rw [List.take_succ_eq_append_getElem h]
  simp [h]
/-- An element of one's own slice lies in the block that was laid for it. -/
theorem built_cells (w : World) (z cs : Array Value) (n : Nat) (t : TypeId) (hn : cs.size = n) (h : z.size = n) : ∀ j u, cs.toList[j]? = some u →
    (w.alloc (.cells (Array.foldl (fun c x => c.setIfInBounds x.2 x.1) z (cs.zipIdx) 0 n) t)).cell? ((⟨w.heap.size, 0, none⟩ : Addr).add j) = some u := by
  rw [fold_rows z cs n hn h]
  exact new_cells w cs t
set_option maxRecDepth 100000 in
set_option maxHeartbeats 2000000 in
theorem own_c (xs : List Cho) (hl : xs.length ≤ 1000) (a : Option Addr) (cap : Nat) {W d : World} (hX : ∀ d, RowsIn cha zeroCh 33 (gr W d) a xs) {R : Ending → World → Prop}
    (kk : ∀ W1 a' cap', (∀ d, RowsIn cha zeroCh 33 (gr W1 d) a' xs) → (∀ d, ∃ d', gr W1 d = gr W d') → R (.returned (.slice a' xs.length cap')) (gr W1 W1)) :
    Calls Try.prog 28 #[.slice a xs.length cap] (gr W d) R := by
  suffices h : Calls Try.prog 28 #[.slice a xs.length cap] (gr W d) fun e w' => ∃ v V, e = .returned v ∧ V.ownsRow W.heap.size 49 33 v xs.length (rowsL cha xs) ∧ Below W.heap.size W V ∧ w' = V from by
    refine h.mono ?_
    rintro e w' ⟨v, V, rfl, ho, hb, rfl⟩
    obtain ⟨_, a', cap', rfl, hX'⟩ := own_rows cha_size (by decide) zeroCh ho
    have := kk w' a' cap' (fun d => hX'.gr (by decide) d) (fun d => gr_ex (hb.trans ((gr_below w' d).mono hb.size)))
    rwa [← gr_self w'] at this
  clear kk
  obtain ⟨i0, hi0, hz0, hz1, hz2⟩ := info_parts infoC
  have HX_ := hid hX
  clear hX
  go_enter Try.func28, Try.ntmps28
  go_wp2
  go_loopw [3, 8] (fun v3 i wr => ∃ (j : Nat) (V : World), j ≤ xs.length ∧ i = .int .i64 j ∧ V.ownsRow W.heap.size 49 33 v3 j (rowsL cha (xs.take j)) ∧ Below W.heap.size W V ∧ wr = gr V V) (fun _ i _ => xs.length - (intOf i).toNat)
  case atStart => exact ⟨0, gr W d, by omega, rfl, by simpa [rowsL] using World.ownsRow_nil _ _ _ _, gr_below W d, gr_self _⟩
  case round =>
    obtain ⟨j, V, hj, rfl, h3, hb, rfl⟩ := hrel
    by_cases hjt : j < xs.length
    · have h0 : xs ≠ [] := by intro e; rw [e] at hjt; simp at hjt
      obtain ⟨c, off, rfl, _⟩ := (HX_.out W).at h0
      have hA : ∀ d, RowsAt cha zeroCh 33 (gr V d) c off xs := fun d => by
        obtain ⟨x, hx⟩ := gr_ex (hb.trans ((gr_below V d).mono hb.size))
        rw [hx]
        obtain ⟨c', off', e, hs⟩ := (HX_.out x).at h0
        cases e
        exact hs
      have s1 := fun d => (hA d j hjt).1
      have s2 := fun d => (hA d j hjt).2
      have es := take_snoc' xs zeroCh j hjt
      generalize xs.getD j zeroCh = c1 at *
      clear hA
      have H3_ := hid h3
      clear h3
      have HB_ := hid hb
      clear hb
      have ES_ := hid es
      clear es
      go_upto_region 5 with (fail)
      obtain ⟨W1, hE, r1, q1, u1, _⟩ := newblk V V (cha zeroCh) (cha c1) 54 (by simp)
      rw [hE]
      clear hE s1 s2
      generalize (gr V V).heap.size = nb at *
      have h3 := ownsRow_up u1 H3_.out W1
      have hb := below_up u1 HB_.out W1
      clear H3_ HB_ u1
      have hbs := hb.size
      have H3_ := hid h3
      clear h3
      have HB_ := hid hb
      clear hb
      go_wp2_with (at_builtin; refine wpList_append_own_at _ rfl _ _ 44 rfl W.heap.size 49 i0 (.agg (cha zeroCh)) 33 96 Try.underlying44 hi0 hz0 hz1 hz2 (by simp [Value.cells]) (by decide) _ _ _ rfl (H3_.out.alloc _) ⟨(gr W1 W1).heap.size, 0, none⟩ 1 1 (cha c1).toList rfl (by simp) ?c1 (cha_one' _) ?c3 ?c4 ?c5 ?_)
      case c1 => exact built_cells _ _ _ _ _ (by simp) (by simp)
      case c3 => unfold maxLen; omega
      case c4 => omega
      case c5 => simp; omega
      intro v3' w1 h3' hg3 _ hl3
      have hb3 := (HB_.out.alloc hbs _).grown hg3 (by simp; omega) (own_block_le H3_.out)
      clear H3_ HB_ hg3 hl3
      have H3'_ := hid h3'
      clear h3'
      have HB3_ := hid hb3
      clear hb3
      go_wp2
      refine ⟨⟨j + 1, w1, by omega, by go_num, ?_, HB3_.out, gr_self _⟩, by simp [intOf]; omega⟩
      rw [ES_.out, rowsL_snoc]
      exact H3'_.out
    · obtain rfl : j = xs.length := by omega
      rw [List.take_length] at h3
      have H3_ := hid h3
      clear h3
      have HB_ := hid hb
      clear hb
      go_wp2
      go_ret
      exact ⟨_, V, rfl, H3_.out, HB_.out, (gr_self V).symm⟩
end Go.Proofs.Ytcjbopobgpfjlaa
