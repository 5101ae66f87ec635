/-
  The walk of best.All. No condition but the numbers' range, and that there are at most 1000.
-/
import Derived.Test.YtcjbopobgpfjlaaBeC
import Derived.Deep.DeepCutAuto
import Derived.Deep.CutBlock
namespace Go.Proofs.Ytcjbopobgpfjlaa
open Go.RowKit

@[go_sem] theorem zeroCh_lit : (Value.agg #[.int .i64 0, .int .i64 0, .int .i64 0, .int .i64 0, .int .i64 0, .int .u8 0, .int .u8 0, .int .u8 0, .int .u8 0, .int .u8 0, .int .u8 0, .int .u8 0, .int .u8 0, .int .i64 0, .int .u8 0, .int .u8 0, .int .u8 0, .int .u8 0, .int .u8 0, .int .u8 0, .int .u8 0, .int .u8 0, .int .i64 0, .int .u8 0, .int .u8 0, .int .u8 0, .int .u8 0, .int .u8 0, .int .u8 0, .int .u8 0, .int .u8 0, .int .i64 0, .bool false]) = .agg (cha zeroCh) := rfl
theorem agg49 (w : World) : (isAgg 49).run Try.prog w = .ok true w := by kernel_rfl
theorem siz49 (w : World) : (sizeOf 49).run Try.prog w = .ok 33 w := by kernel_rfl
@[go_sem] theorem ldCho (w : World) (b off : Nat) (h : off + 33 ≤ (row? w b).size) : (ldAt 49 (.pointer (some ⟨b, off, none⟩))).run Try.prog w = .ok (.agg (sub (row? w b) off 33)) w := run_ldAt_agg agg49 siz49 w b off h
theorem cha_one (c : Cho) : ∀ v ∈ cha c, v.oneCell' = true := by
  intro v hv
  simp [cha, sa, pa, ca, cl] at hv
  rcases hv with rfl | rfl | rfl | rfl | rfl | ⟨n, _, rfl⟩ | rfl | ⟨n, _, rfl⟩ | rfl | ⟨n, _, rfl⟩ | rfl | rfl <;> rfl
@[go_sem] theorem stCho (w : World) (b : Nat) (c : Cho) (h : (row? w b).size = 33) (ho : own? w b = true) : (stAt 49 (.pointer (some ⟨b, 0, none⟩)) (.agg (cha c))).run Try.prog w = .ok () (w.setRow b (cha c)) :=
  run_stAt_row siz49 w b _ (by rw [Array.all_eq_true_iff_forall_mem]; exact cha_one c) (by simp) h ho
theorem infoS : (Try.prog.info? 29).map (fun i => (i.zero, i.size, i.bytes)) = some (some (.agg (sa zeroS)), 32, 88) := by kernel_rfl
theorem infoI : (Try.prog.info? 3).map (fun i => (i.zero, i.size, i.bytes)) = some (some (.int .i64 0), 1, 8) := by kernel_rfl
theorem sa_one (s : Sett) : ∀ v ∈ (sa s).toList, v.oneCell' = true := by
  intro v hv
  simp [sa, pa, ca, cl] at hv
  rcases hv with rfl | rfl | rfl | rfl | rfl | ⟨n, _, rfl⟩ | rfl | ⟨n, _, rfl⟩ | rfl | ⟨n, _, rfl⟩ | rfl <;> rfl
theorem ownsRow_below {w w' : World} {base : Nat} {e : TypeId} {size : Nat} {v : Value} {n : Nat} {xs : List Value} (h : w.ownsRow base e size v n xs) (hb : Below w.heap.size w w') : w'.ownsRow base e size v n xs := by
  have := ownsRow_gr h w'
  rwa [← gr_of hb] at this
theorem ownsRow_up {V W1 : World} (u : ∀ d, ∃ d', gr W1 d = gr V d') {base : Nat} {e : TypeId} {size : Nat} {v : Value} {n : Nat} {xs : List Value} (h : V.ownsRow base e size v n xs) (d : World) : (gr W1 d).ownsRow base e size v n xs := by
  obtain ⟨d', e⟩ := u d
  rw [e]
  exact ownsRow_gr h d'
theorem below_up {W V W1 : World} (u : ∀ d, ∃ d', gr W1 d = gr V d') (h : Below W.heap.size W V) (d : World) : Below W.heap.size W (gr W1 d) := by
  obtain ⟨d', e⟩ := u d
  rw [e]
  exact h.trans ((gr_below V d').mono h.size)
/-- Two slices of one's own lie in two rows. -/
def aparts (v u : Value) : Prop := (v.ownBlock = none ∨ v.ownBlock ≠ u.ownBlock) ∧ (u.ownBlock = none ∨ u.ownBlock ≠ v.ownBlock)
theorem aparts.new {w : World} {base : Nat} {e : TypeId} {size : Nat} {v u v' : Value} {n : Nat} {xs : List Value} (h : aparts v u) (hu : w.ownsRow base e size u n xs) {N : Nat} (hN : w.heap.size ≤ N) (hl : v'.ownBlock = v.ownBlock ∨ v'.ownBlock = some N) : aparts v' u := by
  rcases hl with hl | hl
  · unfold aparts at *
    rw [hl]
    exact h
  · have : u.ownBlock ≠ some N := fun e => by
      have := (hu.lt N e).2
      omega
    unfold aparts
    rw [hl]
    exact ⟨.inr (Ne.symm this), .inr this⟩
theorem aparts.symm {v u : Value} (h : aparts v u) : aparts u v := ⟨h.2, h.1⟩
set_option maxRecDepth 100000 in
set_option maxHeartbeats 2000000 in
theorem all_fn (xs : List Cho) (hl : xs.length ≤ 1000) (hR : ∀ k, k < xs.length → inR (xs.getD k zeroCh).s.n) (a : Option Addr) (cap : Nat) {W : World} (hX : ∀ d, RowsIn cha zeroCh 33 (gr W d) a xs) :
    Fg Try.prog 27 #[.slice a xs.length cap] (.int .i64 (allC xs)) W := by
  intro d
  obtain ⟨i0, hi0, hz0, hz1, hz2⟩ := info_parts infoS
  obtain ⟨j0, hj0, jz0, jz1, jz2⟩ := info_parts infoI
  have HR_ := hid hR
  clear hR
  have HX_ := hid hX
  clear hX
  go_enter Try.func27, Try.ntmps27
  go_upto_block 0 with (fail)
  go_cut [3, 4, 11] (fun v3 v4 _ wr => ∃ V : World, V.ownsRow W.heap.size 29 32 v3 (hset xs xs.length).length (rowsL sa (hset xs xs.length)) ∧ V.ownsRow W.heap.size 3 1 v4 (hnum xs xs.length).length (rowsL i1 (hnum xs xs.length)) ∧ Below W.heap.size W V ∧ wr = gr V V)
  case first =>
    go_wp2
    go_loopw [3, 4, 11] (fun v3 v4 i wr => ∃ (j : Nat) (V : World), j ≤ xs.length ∧ i = .int .i64 j ∧ V.ownsRow W.heap.size 29 32 v3 (hset xs j).length (rowsL sa (hset xs j)) ∧ V.ownsRow W.heap.size 3 1 v4 (hnum xs j).length (rowsL i1 (hnum xs j)) ∧ aparts v3 v4 ∧ Below W.heap.size W V ∧ wr = gr V V) (fun _ _ i _ => xs.length - (intOf i).toNat)
    case atStart => exact ⟨0, gr W d, by omega, rfl, World.ownsRow_nil _ _ _ _, World.ownsRow_nil _ _ _ _, ⟨.inl rfl, .inl rfl⟩, gr_below W d, gr_self _⟩
    case round =>
      obtain ⟨j, V, hj, rfl, h3, h4, hap, hb, rfl⟩ := hrel
      by_cases hjt : j < xs.length
      · have h0 : xs ≠ [] := by intro e; rw [e] at hjt; simp at hjt
        obtain ⟨c, off, rfl, _⟩ := (HX_.out W).at h0
        have hA : ∀ d, RowsAt cha zeroCh 33 (gr V d) c off xs := fun d => by
          obtain ⟨x, hx⟩ := gr_ex (hb.trans ((gr_below V d).mono hb.size))
          rw [hx]
          obtain ⟨c', off', e, hs⟩ := (HX_.out x).at h0
          cases e
          exact hs
        have s1 := fun d => (hA d j hjt).1
        have s2 := fun d => (hA d j hjt).2
        have es := hset_succ xs j hjt
        have en := hnum_succ xs j hjt
        have hlen := herd_len xs (j + 1)
        rw [← hset_len] at hlen
        have hlen' : (hset xs j).length ≤ j := by rw [hset_len]; exact herd_len xs j
        have hlen2 : (hnum xs j).length ≤ j := by rw [hnum_len]; exact herd_len xs j
        generalize xs.getD j zeroCh = c1 at *
        clear hA hlen
        have H3_ := hid h3
        clear h3
        have H4_ := hid h4
        clear h4
        have HB_ := hid hb
        clear hb
        have HAP_ := hid hap
        clear hap
        have ES_ := hid es
        clear es
        have EN_ := hid en
        clear en
        go_upto_if 17 with (fail)
        obtain ⟨W1, hE, r1, q1, u1, _⟩ := newblk V V (cha zeroCh) (cha c1) 49 (by simp)
        rw [hE]
        clear hE s1 s2
        generalize (gr V V).heap.size = nb at *
        have es := ES_.out
        have en := EN_.out
        clear ES_ EN_
        cases hi : c1.is with
        | false =>
          rw [hi, if_neg (by simp), List.append_nil] at es en
          have ES_ := hid es
          clear es
          have EN_ := hid en
          clear en
          go_wp2
          refine ⟨⟨j + 1, gr W1 W1, by omega, by go_num, ?_, ?_, HAP_.out, ?_, gr_self _⟩, by simp [intOf]; omega⟩
          · rw [ES_.out]; exact ownsRow_up u1 H3_.out W1
          · rw [EN_.out]; exact ownsRow_up u1 H4_.out W1
          · exact below_up u1 HB_.out W1
        | true =>
          rw [hi, if_pos rfl] at es en
          have ES_ := hid es
          clear es
          have EN_ := hid en
          clear en
          have h3 := ownsRow_up u1 H3_.out W1
          have h4 := ownsRow_up u1 H4_.out W1
          have hb := below_up u1 HB_.out W1
          clear H3_ H4_ HB_ u1
          have hbs := hb.size
          have H3_ := hid h3
          clear h3
          have H4_ := hid h4
          clear h4
          have HB_ := hid hb
          clear hb
          go_wp2_with (at_builtin; refine wpList_append_own_at _ rfl _ _ 35 rfl W.heap.size 29 i0 (.agg (sa zeroS)) 32 88 Try.underlying35 hi0 hz0 hz1 hz2 (by simp [Value.cells]) (by decide) _ _ _ rfl (H3_.out.alloc _) ⟨(gr W1 W1).heap.size, 0, none⟩ 1 1 (sa c1.s).toList rfl (by simp) ?c1 (sa_one _) ?c3 ?c4 ?c5 ?_)
          case c1 =>
            intro j u hu
            have hj : j < 32 := by
              have := (List.getElem?_eq_some_iff.1 hu).1
              simpa using this
            rw [add_pl, cell_row, row_alloc, if_pos rfl]
            simp only [rowOf, Nat.zero_add]
            rw [fold_rows _ (sa c1.s) 32 (by simp) (by simp), ← hu, Array.getElem?_toList]
          case c3 => unfold maxLen; omega
          case c4 => omega
          case c5 => simp; omega
          intro v3' w1 h3' hg3 _ hl3
          have h4' := (H4_.out.alloc _).kept hg3 HAP_.out.2
          have hap3 := HAP_.out.new H4_.out (by simp) hl3
          have hb3 := (HB_.out.alloc hbs _).grown hg3 (by simp; omega) (own_block_le H3_.out)
          have hbs3 := hb3.size
          clear H3_ H4_ HB_ HAP_ hg3 hl3
          have H3'_ := hid h3'
          clear h3'
          have H4'_ := hid h4'
          clear h4'
          have HAP3_ := hid hap3
          clear hap3
          have HB3_ := hid hb3
          clear hb3
          go_wp2_with (at_builtin; refine wpList_append_own_at _ rfl _ _ 63 rfl W.heap.size 3 j0 (.int .i64 0) 1 8 Try.underlying63 hj0 jz0 jz1 jz2 rfl (by decide) _ _ _ rfl (H4'_.out.alloc _) ⟨w1.heap.size, 0, none⟩ 1 1 [.int .i64 j] rfl rfl (cell_one_new _ _ _) (by simp [Value.oneCell']) ?d3 ?d4 ?d5 ?_)
          case d3 => unfold maxLen; omega
          case d4 => omega
          case d5 => simp; omega
          intro v4' w2 h4'' hg4 _ hl4
          have h3'' := (H3'_.out.alloc _).kept hg4 HAP3_.out.1
          have hap4 := (HAP3_.out.symm.new H3'_.out (by simp) hl4).symm
          have hb4 := (HB3_.out.alloc hbs3 _).grown hg4 (by simp; omega) (own_block_le H4'_.out)
          clear H3'_ H4'_ HB3_ HAP3_ hg4 hl4
          have H3''_ := hid h3''
          clear h3''
          have H4''_ := hid h4''
          clear h4''
          have HAP4_ := hid hap4
          clear hap4
          have HB4_ := hid hb4
          clear hb4
          go_wp2
          refine ⟨⟨j + 1, w2, by omega, by go_num, ?_, ?_, HAP4_.out, HB4_.out, gr_self _⟩, by simp [intOf]; omega⟩
          · rw [ES_.out, List.length_append, rowsL_snoc]; exact H3''_.out
          · rw [EN_.out, List.length_append, rowsL_snoc]; exact H4''_.out
      · obtain rfl : j = xs.length := by omega
        have H3_ := hid h3
        clear h3
        have H4_ := hid h4
        clear h4
        have HB_ := hid hb
        clear hb
        have HAP_ := hid hap
        clear hap
        go_wp2
        go_meet
        case rel => exact ⟨V, H3_.out, H4_.out, HB_.out, rfl⟩
  case rest =>
    obtain ⟨V, h3, h4, hb, rfl⟩ := hcut
    obtain ⟨_, a3, c3, rfl, hX3⟩ := own_rows sa_size (by decide) zeroS h3
    obtain ⟨_, a4, c4, rfl, hX4⟩ := own_rows (f := i1) (m := 1) (fun _ => rfl) (by decide) 0 h4
    have hlS : (hset xs xs.length).length ≤ 1000 := by rw [hset_len]; exact Nat.le_trans (herd_len _ _) hl
    have hlN : (hnum xs xs.length).length ≤ 1000 := by rw [hnum_len]; exact Nat.le_trans (herd_len _ _) hl
    have hRS : ∀ k, k < (hset xs xs.length).length → inR ((hset xs xs.length).getD k zeroS).n := fun k hk => by
      rw [hset_len] at hk
      have hm := (herd_mem xs _).1 (List.getElem_mem hk)
      have e : (hset xs xs.length).getD k zeroS = ((herd xs xs.length)[k]).1.s := by
        unfold hset
        simp [hk]
      rw [e, hm.2.1]
      exact HR_.out _ hm.1
    have hf := first_rows (hset xs xs.length) hlS hRS a3 c3 (fun d => hX3.gr (by decide) d)
    have fin : ∀ m, ∃ m', gr V m = gr W m' := fun m => gr_ex (hb.trans ((gr_below V m).mono hb.size))
    have hcase := all_first xs
    have hno := fun k h => at_no (hnum xs xs.length).length c4 a4 k hlN h (W := V)
    have hyes := fun k h => at_yes (hnum xs xs.length) c4 a4 k hlN h (W := V) (fun d => hX4.gr (by decide) d)
    rcases hcase with ⟨e1, e2⟩ | ⟨k, hk, e1, e2⟩
    · rw [e1] at hf
      have hat := hno (-1) (.inl (by omega))
      clear hno hyes e1 h3 h4 hX3 hX4 hRS hlS hlN
      have HF_ := hid hf
      clear hf
      have HAT_ := hid hat
      clear hat
      have FIN_ := hid fin
      clear fin
      have E2_ := hid e2
      clear e2
      go_wp2_with fail
      refine HF_.out.c fun m => ?_
      dsimp only
      go_wp2_with fail
      refine HAT_.out.c fun m => ?_
      dsimp only
      go_wp2
      go_ret
      exact ⟨by rw [E2_.out]; rfl, FIN_.out _⟩
    · rw [e1] at hf
      have hat := hyes k hk
      obtain ⟨v, hv⟩ : ∃ v, v = (hnum xs xs.length).getD k 0 := ⟨_, rfl⟩
      rw [← hv] at hat e2
      clear hno hyes e1 h3 h4 hX3 hX4 hRS hlS hlN hk hv
      have HF_ := hid hf
      clear hf
      have HAT_ := hid hat
      clear hat
      have FIN_ := hid fin
      clear fin
      have E2_ := hid e2
      clear e2
      go_wp2_with fail
      refine HF_.out.c fun m => ?_
      dsimp only
      go_wp2_with fail
      refine HAT_.out.c fun m => ?_
      dsimp only
      go_wp2
      go_ret
      exact ⟨by rw [← E2_.out]; rfl, FIN_.out _⟩
end Go.Proofs.Ytcjbopobgpfjlaa
