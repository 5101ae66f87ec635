/-
  The law BestOrder: it answers true. No condition.
-/
import Derived.Test.YtcjbopobgpfjlaaBqN
import Derived.Test.YtcjbopobgpfjlaaRegX
import Derived.Test.YtcjbopobgpfjlaaRegW
import Derived.Deep.DeepCutAuto
import Derived.Deep.CutBlock
import Derived.Outline
namespace Go.Proofs.Ytcjbopobgpfjlaa
open Go.RowKit

attribute [-go_sem] Instr.buildSlice
attribute [local go_sem] run_bs1 run_bsC2
attribute [local go_sem high] eqCho_self
@[go_sem] theorem rcv_g (r : Prt) (p : Sett) : (rcv r p).g = p.g := rfl
theorem grand_rcv1 (r : Prt) (p q : Sett) : grandI (rcv r p) q = grandI p q := rfl
theorem alls_inR {xs : List Sett} (hR : ∀ k, k < xs.length → inR (xs.getD k zeroS).n) : ∀ k, k < (alls xs).length → inR ((alls xs).getD k zeroCh).s.n := fun j hj => by
  rw [alls_length] at hj
  rcases Nat.mod_two_eq_zero_or_one j with h2 | h2
  · obtain ⟨m, rfl⟩ : ∃ m, j = 2 * m := ⟨j / 2, by omega⟩
    rw [alls_even]
    exact ⟨by decide, by decide⟩
  · obtain ⟨m, rfl⟩ : ∃ m, j = 2 * m + 1 := ⟨j / 2, by omega⟩
    rw [alls_odd xs m (by omega)]
    exact hR m (by omega)
theorem two_cells (a b : Cho) : ∀ v ∈ (cha a ++ cha b).toList, v.oneCell' = true := by
  intro v hv
  rw [Array.toList_append, List.mem_append] at hv
  rcases hv with h | h
  · exact cha_one' a v h
  · exact cha_one' b v h
set_option maxRecDepth 100000 in
set_option maxHeartbeats 4000000 in
theorem lborder_fn (r : Prt) (xs : List Sett) (hm : xs.length ≤ 9223372036854775807) (hR : ∀ k, k < xs.length → inR (xs.getD k zeroS).n) (a : Option Addr) (cap : Nat) (w : World) (hX : RowsIn sa zeroS 32 w a xs) :
    Calls Try.prog 12 #[.slice a xs.length cap, .agg (pa r)] w fun e w' => e = .returned (.bool true) ∧ Below w.heap.size w w' := by
  obtain ⟨i0, hi0, hz0, hz1, hz2⟩ := info_parts infoS
  obtain ⟨j0, hj0, jz0, jz1, jz2⟩ := info_parts infoC
  have hX' := fun d => hX.gr (by decide) d
  clear hX
  have HX'_ := hid hX'
  clear hX'
  have HR_ := hid hR
  clear hR
  go_enter Try.func12, Try.ntmps12
  rw [gr_self w]
  go_upto_region 1 with (fail)
  obtain ⟨W0, c, hE, ec, r3, u0⟩ := alloc1 w w (pa r) 27
  rw [hE]
  simp only [ec]
  clear hE ec
  have fin : ∀ d, Below (gr w w).heap.size (gr w w) (gr W0 d) := fun d => by
    obtain ⟨y, hy⟩ := u0 d
    rw [hy, ← gr_self w]
    exact gr_below w y
  have hX0 : ∀ d, RowsIn sa zeroS 32 (gr W0 d) a xs := fun d => by
    obtain ⟨y, hy⟩ := u0 d
    rw [hy]
    exact HX'_.out y
  clear HX'_ u0
  have FIN_ := hid fin
  clear fin
  have HX0_ := hid hX0
  clear hX0
  by_cases hl : 40 < xs.length
  · have h2 : (40 : Int) < (xs.length : Int) := by omega
    clear hl hm
    go_wp2_with fail
    refine alive09_fn.c fun m => ?_
    dsimp only
    go_wp2
    go_ret
    exact ⟨rfl, FIN_.out _⟩
  by_cases hl1 : xs.length < 1
  · have h2 : ¬ (40 : Int) < (xs.length : Int) := by omega
    have h3 : (xs.length : Int) < 1 := by omega
    clear hl hm
    go_wp2_with fail
    refine alive09_fn.c fun m => ?_
    dsimp only
    go_wp2
    go_ret
    exact ⟨rfl, FIN_.out _⟩
  have h2 : ¬ (40 : Int) < (xs.length : Int) := by omega
  have h3 : ¬ (xs.length : Int) < 1 := by omega
  have hne : xs ≠ [] := by intro e; rw [e] at hl1; simp at hl1
  obtain ⟨b, off, rfl, _⟩ := (HX0_.out W0).at hne
  have hA : ∀ V, Below W0.heap.size W0 V → ∀ d, RowsAt sa zeroS 32 (gr V d) b off xs := fun V hb d => by
    obtain ⟨x, hx⟩ := gr_ex (hb.trans ((gr_below V d).mono hb.size))
    rw [hx]
    obtain ⟨c', off', e, hs⟩ := (HX0_.out x).at hne
    cases e
    exact hs
  have HA_ := hid hA
  clear hA
  clear hm
  go_upto_block 0 with (fail)
  go_cut [5, 6] (fun v5 v6 wr => ∃ a5 c5 a6 c6 V, v5 = .slice a5 xs.length c5 ∧ v6 = .slice a6 (2 * xs.length) c6 ∧ (∀ d, RowsIn sa zeroS 32 (gr V d) a5 xs.reverse) ∧ (∀ d, RowsIn cha zeroCh 33 (gr V d) a6 (alls xs)) ∧ unlike xs ∧ Below W0.heap.size W0 V ∧ wr = gr V V)
  case first =>
    go_wp2
    go_loopw [5, 6, 25] (fun v5 v6 i wr => ∃ (j : Nat) (V : World), j ≤ xs.length ∧ i = .int .i64 j ∧ Lower xs j ∧ V.ownsRow W0.heap.size 29 32 v5 j (rowsL sa (xs.reverse.take j)) ∧ V.ownsRow W0.heap.size 49 33 v6 (2 * j) (rowsL cha (alls (xs.take j))) ∧ aparts v5 v6 ∧ Below W0.heap.size W0 V ∧ wr = gr V V) (fun _ _ i _ => xs.length - (intOf i).toNat)
    case atStart => exact ⟨0, gr W0 W0, by omega, rfl, fun j hj => absurd hj (by omega), World.ownsRow_nil _ _ _ _, World.ownsRow_nil _ _ _ _, ⟨.inl rfl, .inl rfl⟩, gr_below W0 W0, gr_self _⟩
    case round =>
      obtain ⟨i, V, hi, rfl, hlow, ho5, ho6, hap, hb, rfl⟩ := hrel
      by_cases hit : i < xs.length
      · have s1 := fun V hb d => (HA_.out V hb d i hit).1
        have s2 := fun V hb d => (HA_.out V hb d i hit).2
        have hlow1 : (∀ k, k < i → (xs.getD i zeroS).g ≠ (xs.getD k zeroS).g) → Lower xs (i + 1) := fun h j hj => by
          by_cases e : j = i
          · subst e; exact h
          · exact hlow j (by omega)
        have es6 : rowsL cha (alls (xs.take (i + 1))) = rowsL cha (alls (xs.take i)) ++ ((cha zeroCh).toList ++ (cha ⟨xs.getD i zeroS, true⟩).toList) := by
          rw [take_snoc' xs zeroS i hit, alls_snoc]
          simp [rowsL]
        have es5 : rowsL sa (xs.reverse.take (i + 1)) = rowsL sa (xs.reverse.take i) ++ (sa (xs.getD (xs.length - 1 - i) zeroS)).toList := by
          rw [take_snoc' xs.reverse zeroS i (by simpa using hit), rowsL_snoc, rev_getD xs i hit]
        clear hlow
        have HLOW1_ := hid hlow1
        clear hlow1
        have ES5_ := hid es5
        clear es5
        have ES6_ := hid es6
        clear es6
        have S1_ := hid s1
        clear s1
        have S2_ := hid s2
        clear s2
        have HO5_ := hid ho5
        clear ho5
        have HO6_ := hid ho6
        clear ho6
        have HAP_ := hid hap
        clear hap
        have HB_ := hid hb
        clear hb
        generalize xs.getD i zeroS = p at *
        go_wp2
        go_loopw [29] (fun n wr => ∃ (k : Nat) (z : World), k ≤ i ∧ n = .int .i64 k ∧ (∀ m, m < k → p.g ≠ (xs.getD m zeroS).g) ∧ wr = gr V z) (fun n _ => i - (intOf n).toNat)
        case atStart => exact ⟨0, V, by omega, rfl, by omega, rfl⟩
        case round =>
          obtain ⟨k, z, hk, rfl, hno, rfl⟩ := hrel
          have HNO_ := hid hno
          clear hno
          by_cases hkt : k < i
          · have t1 := fun d => (HA_.out V HB_.out d k (by omega)).1
            have t2 := fun d => (HA_.out V HB_.out d k (by omega)).2
            have s1 := S1_.out V HB_.out
            have s2 := S2_.out V HB_.out
            have hno1 : p.g ≠ (xs.getD k zeroS).g → ∀ m, m < k + 1 → p.g ≠ (xs.getD m zeroS).g := fun h m hm => by
              by_cases e : m = k
              · rw [e]; exact h
              · exact HNO_.out m (by omega)
            have HNO1_ := hid hno1
            clear hno1
            generalize xs.getD k zeroS = q at *
            have e1 : ∀ d, sub (row? (gr V d) b) (off + i * 32 + 5) 8 = ca p.g := fun d => by
              rw [← sa_grand, ← s2 d, sub_sub _ _ _ _ _ (by decide)]
            have e2 : ∀ d, sub (row? (gr V d) b) (off + k * 32 + 5) 8 = ca q.g := fun d => by
              rw [← sa_grand, ← t2 d, sub_sub _ _ _ _ _ (by decide)]
            have z1 : ∀ d, off + i * 32 + 5 + 8 ≤ (row? (gr V d) b).size := fun d => by have := s1 d; omega
            have z2 : ∀ d, off + k * 32 + 5 + 8 ≤ (row? (gr V d) b).size := fun d => by have := t1 d; omega
            clear s1 s2 t1 t2
            by_cases he : p.g = q.g
            · go_wp2
              refine wp_region_gr V (by kernel_rfl) (by kernel_rfl) ⟨_, rfl⟩ ?_
              repeat (go_big_quiet_step (fail))
              refine wpQuiet_nil ?_
              rintro _ ⟨m, rfl⟩
              go_wp2_with fail
              refine alive09_fn.c fun m => ?_
              dsimp only
              go_wp2
              go_ret
              obtain ⟨x, hx⟩ := gr_ex (HB_.out.trans ((gr_below V m).mono HB_.out.size))
              exact ⟨rfl, by rw [hx]; exact FIN_.out x⟩
            · have hn2 := HNO1_.out he
              have HN2_ := hid hn2
              clear hn2
              go_wp2
              refine wp_region_gr V (by kernel_rfl) (by kernel_rfl) ⟨_, rfl⟩ ?_
              repeat (go_big_quiet_step (fail))
              refine wpQuiet_nil ?_
              rintro _ ⟨m, rfl⟩
              go_wp2
              go_roundw
              case rel => exact ⟨k + 1, m, by omega, by go_num, HN2_.out, rfl⟩
              case measure => simp [intOf]; omega
          · obtain rfl : k = i := by omega
            have hl2 := HLOW1_.out HNO_.out
            have hbx : Below W0.heap.size W0 (gr V z) := HB_.out.trans ((gr_below V z).mono HB_.out.size)
            have ho5 := ownsRow_below HO5_.out (gr_below V z)
            have ho6 := ownsRow_below HO6_.out (gr_below V z)
            clear HO5_ HO6_ HB_ HNO_ HLOW1_
            generalize gr V z = V1 at *
            obtain ⟨m, hm⟩ : ∃ m : Nat, (xs.length : Int) - 1 - (k : Int) = (m : Int) := ⟨xs.length - 1 - k, by omega⟩
            have hmn : (m : Int) < (xs.length : Int) := by omega
            have hmn' : m < xs.length := by omega
            have es5 := ES5_.out
            rw [show xs.length - 1 - k = m by omega] at es5
            have t1 := fun d => (HA_.out V1 hbx d m hmn').1
            have t2 := fun d => (HA_.out V1 hbx d m hmn').2
            have hbs := hbx.size
            clear ES5_
            generalize xs.getD m zeroS = q at *
            have HL2_ := hid hl2
            clear hl2
            have HO5_ := hid ho5
            clear ho5
            have HO6_ := hid ho6
            clear ho6
            have HBX_ := hid hbx
            clear hbx
            have ES5_ := hid es5
            clear es5
            rw [gr_self V1]
            go_wp2_with (at_builtin; refine wpList_append_own_at _ rfl _ _ 35 rfl W0.heap.size 29 i0 (.agg (sa zeroS)) 32 88 Try.underlying35 hi0 hz0 hz1 hz2 (by simp [Value.cells]) (by decide) _ _ _ rfl ((show (gr V1 V1).ownsRow W0.heap.size 29 32 u5 k (rowsL sa (List.take k xs.reverse)) from by rw [← gr_self]; exact HO5_.out).alloc _) ⟨(gr V1 V1).heap.size, 0, none⟩ 1 1 (sa q).toList rfl (by simp) ?c1 (sa_one _) ?c3 ?c4 ?c5 ?_)
            case c1 => exact new_cells _ _ _
            case c3 => unfold maxLen; omega
            case c4 => omega
            case c5 => rw [← gr_self V1]; simp; omega
            intro v5' w1 ho5' hg5 _ hl5
            rw [← gr_self V1] at hg5 hl5
            have ho6' := (HO6_.out.alloc _).kept hg5 HAP_.out.2
            have hap5 := HAP_.out.new HO6_.out (by simp) hl5
            have hb5 := (HBX_.out.alloc hbs _).grown hg5 (by simp; omega) (own_block_le HO5_.out)
            have s1 := S1_.out w1 hb5
            have s2 := S2_.out w1 hb5
            have hbs5 := hb5.size
            rw [← ES5_.out] at ho5'
            clear HO5_ HO6_ HBX_ HAP_ hg5 hl5 t1 t2 ES5_ S1_ S2_
            have HO5'_ := hid ho5'
            clear ho5'
            have HO6'_ := hid ho6'
            clear ho6'
            have HAP5_ := hid hap5
            clear hap5
            have HB5_ := hid hb5
            clear hb5
            rw [gr_self w1]
            go_upto_region 15 with (fail)
            go_wp2_with (at_builtin; refine wpList_append_own_at _ rfl _ _ 44 rfl W0.heap.size 49 j0 (.agg (cha zeroCh)) 33 96 Try.underlying44 hj0 jz0 jz1 jz2 (by simp [Value.cells]) (by decide) _ _ _ rfl ((show (gr w1 w1).ownsRow W0.heap.size 49 33 u6 (2 * k) (rowsL cha (alls (List.take k xs))) from by rw [← gr_self]; exact HO6'_.out).alloc _) ⟨(gr w1 w1).heap.size, 0, none⟩ 2 2 (cha zeroCh ++ cha ⟨p, true⟩).toList rfl (by simp) ?d1 (two_cells _ _) ?d3 ?d4 ?d5 ?_)
            case d1 => exact new_cells _ _ _
            case d3 => unfold maxLen; omega
            case d4 => omega
            case d5 => rw [← gr_self w1]; simp; omega
            intro v6' w2 ho6'' hg6 _ hl6
            rw [← gr_self w1] at hg6 hl6
            have ho5'' := (HO5'_.out.alloc _).kept hg6 HAP5_.out.1
            have hap6 := (HAP5_.out.symm.new HO5'_.out (by simp) hl6).symm
            have hb6 := (HB5_.out.alloc hbs5 _).grown hg6 (by simp; omega) (own_block_le HO6'_.out)
            rw [← ES6_.out] at ho6''
            clear HO5'_ HO6'_ HAP5_ HB5_ hg6 hl6 ES6_ s1 s2
            have HO5''_ := hid ho5''
            clear ho5''
            have HO6''_ := hid ho6''
            clear ho6''
            have HAP6_ := hid hap6
            clear hap6
            have HB6_ := hid hb6
            clear hb6
            go_wp2
            exact ⟨⟨k + 1, w2, by omega, by go_num, HL2_.out, HO5''_.out, HO6''_.out, HAP6_.out, HB6_.out, gr_self _⟩, by simp [intOf]; omega⟩
      · obtain rfl : i = xs.length := by omega
        rw [List.take_of_length_le (by simp)] at ho5
        rw [List.take_of_length_le (by simp)] at ho6
        obtain ⟨e5, a5, c5, rfl, hX5⟩ := own_rows sa_size (by decide) zeroS ho5
        obtain ⟨e6, a6, c6, rfl, hX6⟩ := own_rows cha_size (by decide) zeroCh ho6
        have hu := unlike_of hlow
        have g5 := fun d => hX5.gr (by decide) d
        have g6 := fun d => hX6.gr (by decide) d
        clear hX5 hX6 e5 e6 ho5 ho6 hap hlow
        have G5_ := hid g5
        clear g5
        have G6_ := hid g6
        clear g6
        have HU_ := hid hu
        clear hu
        have HB_ := hid hb
        clear hb
        go_wp2
        go_meet
        case rel => exact ⟨a5, c5, a6, c6, V, rfl, rfl, G5_.out, G6_.out, HU_.out, HB_.out, rfl⟩
  case rest =>
    obtain ⟨a5, c5, a6, c6, V, rfl, rfl, g5, g6, hu, hb, rfl⟩ := hcut
    obtain ⟨k, hk⟩ := least_ex xs (by omega) hu
    have hX1 : ∀ d, RowsIn sa zeroS 32 (gr V d) (some ⟨b, off, none⟩) xs := fun d => .inr ⟨b, off, rfl, HA_.out V hb d⟩
    have f1 := bport_fg r xs (by omega) HR_.out _ cap hX1
    have f2 := bport_fg r xs.reverse (by rw [List.length_reverse]; omega) (fun m hm => by
      rw [List.length_reverse] at hm
      rw [rev_getD xs m hm]
      exact HR_.out _ (by omega)) a5 c5 g5
    rw [port_least r xs k hu hk] at f1
    rw [port_rev r xs k hu hk, List.length_reverse] at f2
    have hA1 := HA_.out
    have hkn := hk.1
    have hleast := hk.2
    have hal := alls_least xs k hu hk
    have hao := alls_odd xs k hk.1
    have hlen := alls_length xs
    obtain ⟨p, hp⟩ : ∃ p, xs.getD k zeroS = p := ⟨_, rfl⟩
    rw [hp] at f1 f2 hleast hao
    have r3 : ∀ d, row? (gr V d) c = pa r := fun d => by
      obtain ⟨x, hx⟩ := gr_ex (hb.trans ((gr_below V d).mono hb.size))
      rw [hx]
      exact r3 x
    have F1_ := hid f1
    clear f1
    have F2_ := hid f2
    clear f2
    have G5_ := hid g5
    clear g5
    have G6_ := hid g6
    clear g6
    have HLEAST_ := hid hleast
    clear hleast
    have HAO_ := hid hao
    clear hao
    have HAL_ := hid hal
    clear hal
    have HP_ := hid hp
    clear hp
    have HU_ := hid hu
    clear hu
    have HK_ := hid hk
    clear hk
    have HA1_ := hid hA1
    clear hA1
    have HLEN_ := hid hlen
    clear hlen
    clear hX1 HX0_
    clear HA_
    go_upto_region 17 with (fail)
    have hcl : c < V.heap.size := row_lt (w := V) (by rw [gr_self V, r3]; simp [pa])
    have hc3 : row? V c = pa r := by rw [gr_self V]; exact r3 V
    have c1 : ∀ w1, Below V.heap.size V w1 → Calls Try.prog 30 #[.slice (some ⟨b, off, none⟩) xs.length cap, .agg (pa r)] w1 fun e w2 => e = .returned (.agg (cha (⟨rcv r p, true⟩ : Cho))) ∧ Below w1.heap.size w1 w2 := fun w1 hb1 => by
      have h := bport_in r xs (by omega) HR_.out (some ⟨b, off, none⟩) cap w1 (by
        obtain ⟨x, hx⟩ := gr_ex hb1
        rw [hx]
        exact .inr ⟨b, off, rfl, HA1_.out V hb x⟩)
      rw [port_least r xs k HU_.out HK_.out, HP_.out] at h
      exact h
    have c2 : ∀ w1, Below V.heap.size V w1 → Calls Try.prog 30 #[.slice a5 xs.length c5, .agg (pa r)] w1 fun e w2 => e = .returned (.agg (cha (⟨rcv r p, true⟩ : Cho))) ∧ Below w1.heap.size w1 w2 := fun w1 hb1 => by
      have h := bport_in r xs.reverse (by rw [List.length_reverse]; omega) (fun m hm => by
        rw [List.length_reverse] at hm
        rw [rev_getD xs m hm]
        exact HR_.out _ (by omega)) a5 c5 w1 (by
        obtain ⟨x, hx⟩ := gr_ex hb1
        rw [hx]
        exact G5_.out x)
      rw [port_rev r xs k HU_.out HK_.out, HP_.out, List.length_reverse] at h
      exact h
    clear F1_ F2_
    have C1_ := hid c1
    clear c1
    have C2_ := hid c2
    clear c2
    have HB_ := hid hb
    clear hb
    go_cut [9, 10] (fun v9 v10 wr => ∃ b9 b10 X, v9 = .pointer (some ⟨b9, 0, none⟩) ∧ v10 = .pointer (some ⟨b10, 0, none⟩) ∧ (∀ d, row? (gr X d) b9 = cha (⟨rcv r p, true⟩ : Cho)) ∧ (∀ d, row? (gr X d) b10 = cha (⟨rcv r p, true⟩ : Cho)) ∧ Below V.heap.size V X ∧ wr = gr X X)
    case first =>
      refine wp_region_inv (by kernel_rfl) (Inv17 V (fun n => match n with | 4 => u4 | 7 => u7 | 8 => u8 | 14 => Value.slice (some ⟨b, off, none⟩) xs.length cap | 15 => Value.int .i64 xs.length | 16 => Value.bool false | 17 => Value.bool false | 18 => Value.slice (some ⟨b, off, none⟩) xs.length cap | 19 => Value.int .i64 xs.length | 20 => Value.bool false | 21 => Value.bool false | 23 => Value.slice (some ⟨b, off, none⟩) xs.length cap | 24 => Value.int .i64 xs.length | 25 => u25 | 26 => u26 | 27 => u27 | 28 => u28 | 29 => u29 | 30 => u30 | 31 => u31 | 32 => u32 | 33 => u33 | 34 => u34 | 35 => u35 | 36 => u36 | 37 => u37 | 38 => u38 | 39 => u39 | 40 => u40 | 41 => u41 | 42 => u42 | 43 => u43 | 44 => u44 | 45 => u45 | 46 => u46 | 47 => u47 | 48 => u48 | 49 => u49 | 50 => u50 | 51 => u51 | 52 => u52 | 53 => u53 | 54 => u54 | 55 => u55 | 56 => u56 | 57 => u57 | 58 => u58 | 59 => u59 | 60 => u60 | 61 => u61 | 62 => u62 | 63 => u63 | 64 => u64 | 65 => u65 | _ => undef) (.slice (some ⟨b, off, none⟩) xs.length cap) (.agg (pa r)) (.pointer (some ⟨c, 0, none⟩)) (.slice a5 xs.length c5) (.slice a6 (2 * xs.length) c6) [] ⟨rcv r p, true⟩) ?h0 ?hstep ?hend
      case h0 => exact ⟨⟨undef, undef, undef, undef, undef, undef, undef, undef, rfl, by simp, by simp, by simp, by simp, by simp, by simp, by simp, by simp, by simp⟩, by rw [← gr_self V]; exact (Below.refl _ _).drew, by simp, by simp, by simp⟩
      case hstep =>
        intro s a w1 i hi hI
        obtain ⟨h1, o, h0, hpre⟩ := mem_ready.1 hi
        have hlt : i < 10 := (Array.getElem?_eq_some_iff.1 h0).1
        obtain ⟨⟨v9, v10, v66, v67, v68, v69, v70, v71, rfl, k0, k1, k2, k3, k4, k5, k6, k7, kn⟩, hb, k8, k9, sz⟩ := hI
        have hrow : row? w1 c = pa r := (Below_row hb hcl).trans hc3
        match i, hlt with
        | 0, _ =>
          refine wpOp_new rfl rfl (v := .slice (some ⟨b, off, none⟩) xs.length cap) (w' := w1) (by simp [go_sem, fr17, hrow]) ?_
          exact ⟨⟨v9, v10, .slice (some ⟨b, off, none⟩) xs.length cap, v67, v68, v69, v70, v71, rfl, fun _ => rfl, fun h => k1 (by rwa [getD_set_ne false (by decide)] at h), fun h => k2 (by rwa [getD_set_ne false (by decide)] at h), fun h => k3 (by rwa [getD_set_ne false (by decide)] at h), fun h => k4 (by rwa [getD_set_ne false (by decide)] at h), fun h => k5 (by rwa [getD_set_ne false (by decide)] at h), (fun h => by
          rw [getD_set_ne false (by decide)] at h
          obtain ⟨nb, e1, e2, e3, e4⟩ := k6 h
          exact ⟨nb, e1, e2, e3, by rw [getD_set_ne false (by decide)]; exact e4⟩), (fun h => by
          rw [getD_set_ne false (by decide)] at h
          obtain ⟨nb, e1, e2, e3, e4⟩ := k7 h
          exact ⟨nb, e1, e2, e3, by rw [getD_set_ne false (by decide)]; exact e4⟩), (fun h h' => kn (by rwa [getD_set_ne false (by decide)] at h) (by rwa [getD_set_ne false (by decide)] at h'))⟩, hb, fun h => by rw [getD_set_ne false (by decide)] at h ⊢; exact k8 h, fun h => by rw [getD_set_ne false (by decide)] at h ⊢; exact k9 h, by simpa using sz⟩
        | 1, _ =>
          refine wpOp_new rfl rfl (v := .agg (pa r)) (w' := w1) (by simp [go_sem, fr17, hrow]) ?_
          exact ⟨⟨v9, v10, v66, .agg (pa r), v68, v69, v70, v71, rfl, fun h => k0 (by rwa [getD_set_ne false (by decide)] at h), fun _ => rfl, fun h => k2 (by rwa [getD_set_ne false (by decide)] at h), fun h => k3 (by rwa [getD_set_ne false (by decide)] at h), fun h => k4 (by rwa [getD_set_ne false (by decide)] at h), fun h => k5 (by rwa [getD_set_ne false (by decide)] at h), (fun h => by
          rw [getD_set_ne false (by decide)] at h
          obtain ⟨nb, e1, e2, e3, e4⟩ := k6 h
          exact ⟨nb, e1, e2, e3, by rw [getD_set_ne false (by decide)]; exact e4⟩), (fun h => by
          rw [getD_set_ne false (by decide)] at h
          obtain ⟨nb, e1, e2, e3, e4⟩ := k7 h
          exact ⟨nb, e1, e2, e3, by rw [getD_set_ne false (by decide)]; exact e4⟩), (fun h h' => kn (by rwa [getD_set_ne false (by decide)] at h) (by rwa [getD_set_ne false (by decide)] at h'))⟩, hb, fun h => by rw [getD_set_ne false (by decide)] at h ⊢; exact k8 h, fun h => by rw [getD_set_ne false (by decide)] at h ⊢; exact k9 h, by simpa using sz⟩
        | 2, _ =>
          cases h0
          have n0 : s.getD 0 false = true := hpre ⟨0, .data⟩ (by simp) rfl
          have x0 := k0 n0
          have n1 : s.getD 1 false = true := hpre ⟨1, .data⟩ (by simp) rfl
          have x1 := k1 n1
          subst x0
          subst x1
          refine wpOp_at rfl rfl ?_
          unfold Oper.wp
          simp [go_sem, fr17]
          refine (C1_.out w1 hb).mono ?_
          rintro e w2 ⟨rfl, hb2⟩
          exact ⟨⟨v9, v10, .slice (some ⟨b, off, none⟩) xs.length cap, .agg (pa r), .agg (cha (⟨rcv r p, true⟩ : Cho)), v69, v70, v71, rfl, fun h => k0 (by rwa [getD_set_ne false (by decide)] at h), fun h => k1 (by rwa [getD_set_ne false (by decide)] at h), fun _ => rfl, fun h => k3 (by rwa [getD_set_ne false (by decide)] at h), fun h => k4 (by rwa [getD_set_ne false (by decide)] at h), fun h => k5 (by rwa [getD_set_ne false (by decide)] at h), (fun h => by
          rw [getD_set_ne false (by decide)] at h
          obtain ⟨nb, e1, e2, e3, e4⟩ := k6 h
          exact ⟨nb, e1, e2, (Below_own hb2 (own_lt e3)).trans e3, by rw [getD_set_ne false (by decide)]; exact (Below_row hb2 (own_lt e3)).trans e4⟩), (fun h => by
          rw [getD_set_ne false (by decide)] at h
          obtain ⟨nb, e1, e2, e3, e4⟩ := k7 h
          exact ⟨nb, e1, e2, (Below_own hb2 (own_lt e3)).trans e3, by rw [getD_set_ne false (by decide)]; exact (Below_row hb2 (own_lt e3)).trans e4⟩), (fun h h' => kn (by rwa [getD_set_ne false (by decide)] at h) (by rwa [getD_set_ne false (by decide)] at h'))⟩, (hb.trans (hb2.mono hb.size)), fun h => by rw [getD_set_ne false (by decide)] at h ⊢; exact k8 h, fun h => by rw [getD_set_ne false (by decide)] at h ⊢; exact k9 h, by simpa using sz⟩
        | 3, _ =>
          refine wpOp_new rfl rfl (v := .slice a5 xs.length c5) (w' := w1) (by simp [go_sem, fr17, hrow]) ?_
          exact ⟨⟨v9, v10, v66, v67, v68, .slice a5 xs.length c5, v70, v71, rfl, fun h => k0 (by rwa [getD_set_ne false (by decide)] at h), fun h => k1 (by rwa [getD_set_ne false (by decide)] at h), fun h => k2 (by rwa [getD_set_ne false (by decide)] at h), fun _ => rfl, fun h => k4 (by rwa [getD_set_ne false (by decide)] at h), fun h => k5 (by rwa [getD_set_ne false (by decide)] at h), (fun h => by
          rw [getD_set_ne false (by decide)] at h
          obtain ⟨nb, e1, e2, e3, e4⟩ := k6 h
          exact ⟨nb, e1, e2, e3, by rw [getD_set_ne false (by decide)]; exact e4⟩), (fun h => by
          rw [getD_set_ne false (by decide)] at h
          obtain ⟨nb, e1, e2, e3, e4⟩ := k7 h
          exact ⟨nb, e1, e2, e3, by rw [getD_set_ne false (by decide)]; exact e4⟩), (fun h h' => kn (by rwa [getD_set_ne false (by decide)] at h) (by rwa [getD_set_ne false (by decide)] at h'))⟩, hb, fun h => by rw [getD_set_ne false (by decide)] at h ⊢; exact k8 h, fun h => by rw [getD_set_ne false (by decide)] at h ⊢; exact k9 h, by simpa using sz⟩
        | 4, _ =>
          refine wpOp_new rfl rfl (v := .agg (pa r)) (w' := w1) (by simp [go_sem, fr17, hrow]) ?_
          exact ⟨⟨v9, v10, v66, v67, v68, v69, .agg (pa r), v71, rfl, fun h => k0 (by rwa [getD_set_ne false (by decide)] at h), fun h => k1 (by rwa [getD_set_ne false (by decide)] at h), fun h => k2 (by rwa [getD_set_ne false (by decide)] at h), fun h => k3 (by rwa [getD_set_ne false (by decide)] at h), fun _ => rfl, fun h => k5 (by rwa [getD_set_ne false (by decide)] at h), (fun h => by
          rw [getD_set_ne false (by decide)] at h
          obtain ⟨nb, e1, e2, e3, e4⟩ := k6 h
          exact ⟨nb, e1, e2, e3, by rw [getD_set_ne false (by decide)]; exact e4⟩), (fun h => by
          rw [getD_set_ne false (by decide)] at h
          obtain ⟨nb, e1, e2, e3, e4⟩ := k7 h
          exact ⟨nb, e1, e2, e3, by rw [getD_set_ne false (by decide)]; exact e4⟩), (fun h h' => kn (by rwa [getD_set_ne false (by decide)] at h) (by rwa [getD_set_ne false (by decide)] at h'))⟩, hb, fun h => by rw [getD_set_ne false (by decide)] at h ⊢; exact k8 h, fun h => by rw [getD_set_ne false (by decide)] at h ⊢; exact k9 h, by simpa using sz⟩
        | 5, _ =>
          cases h0
          have n3 : s.getD 3 false = true := hpre ⟨3, .data⟩ (by simp) rfl
          have x3 := k3 n3
          have n4 : s.getD 4 false = true := hpre ⟨4, .data⟩ (by simp) rfl
          have x4 := k4 n4
          subst x3
          subst x4
          refine wpOp_at rfl rfl ?_
          unfold Oper.wp
          simp [go_sem, fr17]
          refine (C2_.out w1 hb).mono ?_
          rintro e w2 ⟨rfl, hb2⟩
          exact ⟨⟨v9, v10, v66, v67, v68, .slice a5 xs.length c5, .agg (pa r), .agg (cha (⟨rcv r p, true⟩ : Cho)), rfl, fun h => k0 (by rwa [getD_set_ne false (by decide)] at h), fun h => k1 (by rwa [getD_set_ne false (by decide)] at h), fun h => k2 (by rwa [getD_set_ne false (by decide)] at h), fun h => k3 (by rwa [getD_set_ne false (by decide)] at h), fun h => k4 (by rwa [getD_set_ne false (by decide)] at h), fun _ => rfl, (fun h => by
          rw [getD_set_ne false (by decide)] at h
          obtain ⟨nb, e1, e2, e3, e4⟩ := k6 h
          exact ⟨nb, e1, e2, (Below_own hb2 (own_lt e3)).trans e3, by rw [getD_set_ne false (by decide)]; exact (Below_row hb2 (own_lt e3)).trans e4⟩), (fun h => by
          rw [getD_set_ne false (by decide)] at h
          obtain ⟨nb, e1, e2, e3, e4⟩ := k7 h
          exact ⟨nb, e1, e2, (Below_own hb2 (own_lt e3)).trans e3, by rw [getD_set_ne false (by decide)]; exact (Below_row hb2 (own_lt e3)).trans e4⟩), (fun h h' => kn (by rwa [getD_set_ne false (by decide)] at h) (by rwa [getD_set_ne false (by decide)] at h'))⟩, (hb.trans (hb2.mono hb.size)), fun h => by rw [getD_set_ne false (by decide)] at h ⊢; exact k8 h, fun h => by rw [getD_set_ne false (by decide)] at h ⊢; exact k9 h, by simpa using sz⟩
        | 6, _ =>
          have hb2 : Below w1.heap.size w1 (w1.alloc (.cells (cha zeroCh) 49)) := (Below.refl _ _).alloc (Nat.le_refl _) _
          refine wpOp_new rfl rfl (v := .pointer (some ⟨w1.heap.size, 0, none⟩)) (w' := w1.alloc (.cells (cha zeroCh) 49)) (by simp [go_sem, fr17]) ?_
          have s8 : s.getD 8 false = false := by
            cases e : s.getD 8 false with
            | false => rfl
            | true => have h7 := k8 e; rw [getD_both h1] at h7; cases h7
          exact ⟨⟨.pointer (some ⟨w1.heap.size, 0, none⟩), v10, v66, v67, v68, v69, v70, v71, rfl, fun h => k0 (by rwa [getD_set_ne false (by decide)] at h), fun h => k1 (by rwa [getD_set_ne false (by decide)] at h), fun h => k2 (by rwa [getD_set_ne false (by decide)] at h), fun h => k3 (by rwa [getD_set_ne false (by decide)] at h), fun h => k4 (by rwa [getD_set_ne false (by decide)] at h), fun h => k5 (by rwa [getD_set_ne false (by decide)] at h), (fun _ => ⟨w1.heap.size, rfl, hb.size, by simp [own_alloc, ownOf], by rw [getD_set_ne false (by decide), s8, if_neg (by simp)]; simp [row_alloc, rowOf]⟩), (fun h => by
          rw [getD_set_ne false (by decide)] at h
          obtain ⟨nb, e1, e2, e3, e4⟩ := k7 h
          exact ⟨nb, e1, e2, (Below_own hb2 (own_lt e3)).trans e3, by rw [getD_set_ne false (by decide)]; exact (Below_row hb2 (own_lt e3)).trans e4⟩), (fun h h' e => by
          rw [getD_set_ne false (by decide)] at h'
          obtain ⟨nb, e1, e2, e3, e4⟩ := k7 h'
          rw [e1] at e
          have := own_lt e3
          have : w1.heap.size = nb := congrArg pblk e
          omega)⟩, hb.alloc hb.size _, (fun h => by rw [getD_set_ne false (by decide), s8] at h; cases h), (fun h => by rw [getD_set_ne false (by decide)] at h ⊢; exact k9 h), by simpa using sz⟩
        | 7, _ =>
          have hb2 : Below w1.heap.size w1 (w1.alloc (.cells (cha zeroCh) 49)) := (Below.refl _ _).alloc (Nat.le_refl _) _
          refine wpOp_new rfl rfl (v := .pointer (some ⟨w1.heap.size, 0, none⟩)) (w' := w1.alloc (.cells (cha zeroCh) 49)) (by simp [go_sem, fr17]) ?_
          have s8 : s.getD 9 false = false := by
            cases e : s.getD 9 false with
            | false => rfl
            | true => have h7 := k9 e; rw [getD_both h1] at h7; cases h7
          exact ⟨⟨v9, .pointer (some ⟨w1.heap.size, 0, none⟩), v66, v67, v68, v69, v70, v71, rfl, fun h => k0 (by rwa [getD_set_ne false (by decide)] at h), fun h => k1 (by rwa [getD_set_ne false (by decide)] at h), fun h => k2 (by rwa [getD_set_ne false (by decide)] at h), fun h => k3 (by rwa [getD_set_ne false (by decide)] at h), fun h => k4 (by rwa [getD_set_ne false (by decide)] at h), fun h => k5 (by rwa [getD_set_ne false (by decide)] at h), (fun h => by
          rw [getD_set_ne false (by decide)] at h
          obtain ⟨nb, e1, e2, e3, e4⟩ := k6 h
          exact ⟨nb, e1, e2, (Below_own hb2 (own_lt e3)).trans e3, by rw [getD_set_ne false (by decide)]; exact (Below_row hb2 (own_lt e3)).trans e4⟩), (fun _ => ⟨w1.heap.size, rfl, hb.size, by simp [own_alloc, ownOf], by rw [getD_set_ne false (by decide), s8, if_neg (by simp)]; simp [row_alloc, rowOf]⟩), (fun h h' e => by
          rw [getD_set_ne false (by decide)] at h
          obtain ⟨nb, e1, e2, e3, e4⟩ := k6 h
          rw [e1] at e
          have := own_lt e3
          have : w1.heap.size = nb := congrArg pblk e.symm
          omega)⟩, hb.alloc hb.size _, (fun h => by rw [getD_set_ne false (by decide)] at h ⊢; exact k8 h), (fun h => by rw [getD_set_ne false (by decide), s8] at h; cases h), by simpa using sz⟩
        | 8, _ =>
          cases h0
          have n2 : s.getD 2 false = true := hpre ⟨2, .data⟩ (by simp) rfl
          have x2 := k2 n2
          subst x2
          have n6 : s.getD 6 false = true := hpre ⟨6, .data⟩ (by simp) rfl
          obtain ⟨nb, e1, e2, e3, e4⟩ := k6 n6
          subst e1
          rw [getD_both h1, if_neg (by simp)] at e4
          have hin : 8 < s.size := by
            rcases Nat.lt_or_ge 8 s.size with h' | h'
            · exact h'
            · simp [Array.getD, Nat.not_lt.2 h'] at h1
          have hs8 : (s.setIfInBounds 8 true).getD 8 false = true := by simp [Array.getD, hin]
          refine wpOp_skip rfl rfl rfl (w' := w1.setRow nb (cha (⟨rcv r p, true⟩ : Cho))) (by simp [go_sem, fr17, e3, e4]) ?_
          have hot : ∀ j, nb ≠ j → row? (w1.setRow nb (cha (⟨rcv r p, true⟩ : Cho))) j = row? w1 j ∧ own? (w1.setRow nb (cha (⟨rcv r p, true⟩ : Cho))) j = own? w1 j := fun j hj => ⟨row_of_block (setRow_other _ _ _ _ hj.symm), by rw [own_setRow]⟩
          obtain ⟨w2, hE, r2, o2, b2⟩ := setb (w0 := V) (B := cha (⟨rcv r p, true⟩ : Cho)) e2 e4 e3 (by simp) hb
          rw [hE] at hot ⊢
          exact ⟨⟨.pointer (some ⟨nb, 0, none⟩), v10, v66, v67, .agg (cha (⟨rcv r p, true⟩ : Cho)), v69, v70, v71, rfl, fun h => k0 (by rwa [getD_set_ne false (by decide)] at h), fun h => k1 (by rwa [getD_set_ne false (by decide)] at h), fun h => k2 (by rwa [getD_set_ne false (by decide)] at h), fun h => k3 (by rwa [getD_set_ne false (by decide)] at h), fun h => k4 (by rwa [getD_set_ne false (by decide)] at h), fun h => k5 (by rwa [getD_set_ne false (by decide)] at h), (fun _ => ⟨nb, rfl, e2, o2, by rw [if_pos hs8]; exact r2⟩), (fun h => by
          rw [getD_set_ne false (by decide)] at h
          obtain ⟨nc, g1, g2, g3, g4⟩ := k7 h
          have hj : nb ≠ nc := fun e => (kn n6 h) (by rw [g1, e])
          exact ⟨nc, g1, g2, (hot nc hj).2.trans g3, by rw [getD_set_ne false (by decide)]; exact (hot nc hj).1.trans g4⟩), (fun h h' => kn (by rwa [getD_set_ne false (by decide)] at h) (by rwa [getD_set_ne false (by decide)] at h'))⟩, b2, (fun _ => by rw [getD_set_ne false (by decide)]; exact n6), (fun h => by rw [getD_set_ne false (by decide)] at h ⊢; exact k9 h), by simpa using sz⟩
        | 9, _ =>
          cases h0
          have n5 : s.getD 5 false = true := hpre ⟨5, .data⟩ (by simp) rfl
          have x5 := k5 n5
          subst x5
          have n7 : s.getD 7 false = true := hpre ⟨7, .data⟩ (by simp) rfl
          obtain ⟨nb, e1, e2, e3, e4⟩ := k7 n7
          subst e1
          rw [getD_both h1, if_neg (by simp)] at e4
          have hin : 9 < s.size := by
            rcases Nat.lt_or_ge 9 s.size with h' | h'
            · exact h'
            · simp [Array.getD, Nat.not_lt.2 h'] at h1
          have hs8 : (s.setIfInBounds 9 true).getD 9 false = true := by simp [Array.getD, hin]
          refine wpOp_skip rfl rfl rfl (w' := w1.setRow nb (cha (⟨rcv r p, true⟩ : Cho))) (by simp [go_sem, fr17, e3, e4]) ?_
          have hot : ∀ j, nb ≠ j → row? (w1.setRow nb (cha (⟨rcv r p, true⟩ : Cho))) j = row? w1 j ∧ own? (w1.setRow nb (cha (⟨rcv r p, true⟩ : Cho))) j = own? w1 j := fun j hj => ⟨row_of_block (setRow_other _ _ _ _ hj.symm), by rw [own_setRow]⟩
          obtain ⟨w2, hE, r2, o2, b2⟩ := setb (w0 := V) (B := cha (⟨rcv r p, true⟩ : Cho)) e2 e4 e3 (by simp) hb
          rw [hE] at hot ⊢
          exact ⟨⟨v9, .pointer (some ⟨nb, 0, none⟩), v66, v67, v68, v69, v70, .agg (cha (⟨rcv r p, true⟩ : Cho)), rfl, fun h => k0 (by rwa [getD_set_ne false (by decide)] at h), fun h => k1 (by rwa [getD_set_ne false (by decide)] at h), fun h => k2 (by rwa [getD_set_ne false (by decide)] at h), fun h => k3 (by rwa [getD_set_ne false (by decide)] at h), fun h => k4 (by rwa [getD_set_ne false (by decide)] at h), fun h => k5 (by rwa [getD_set_ne false (by decide)] at h), (fun h => by
          rw [getD_set_ne false (by decide)] at h
          obtain ⟨nc, g1, g2, g3, g4⟩ := k6 h
          have hj : nb ≠ nc := fun e => (kn h n7) (by rw [g1, e])
          exact ⟨nc, g1, g2, (hot nc hj).2.trans g3, by rw [getD_set_ne false (by decide)]; exact (hot nc hj).1.trans g4⟩), (fun _ => ⟨nb, rfl, e2, o2, by rw [if_pos hs8]; exact r2⟩), (fun h h' => kn (by rwa [getD_set_ne false (by decide)] at h) (by rwa [getD_set_ne false (by decide)] at h'))⟩, b2, (fun h => by rw [getD_set_ne false (by decide)] at h ⊢; exact k8 h), (fun _ => by rw [getD_set_ne false (by decide)]; exact n7), by simpa using sz⟩
      case hend =>
        intro s a w1 hr hI
        obtain ⟨⟨v9, v10, v66, v67, v68, v69, v70, v71, rfl, k0, k1, k2, k3, k4, k5, k6, k7, kn⟩, hb, k8, k9, sz⟩ := hI
        have hall := all_done sz (by kernel_rfl) hr
        obtain rfl := k0 (hall 0 (by decide))
        obtain rfl := k1 (hall 1 (by decide))
        obtain rfl := k2 (hall 2 (by decide))
        obtain rfl := k3 (hall 3 (by decide))
        obtain rfl := k4 (hall 4 (by decide))
        obtain rfl := k5 (hall 5 (by decide))
        obtain ⟨b9, rfl, e2, e3, e4⟩ := k6 (hall 6 (by decide))
        obtain ⟨b10, rfl, g2, g3, g4⟩ := k7 (hall 7 (by decide))
        rw [if_pos (hall 8 (by decide))] at e4
        rw [if_pos (hall 9 (by decide))] at g4
        clear hall k0 k1 k2 k3 k4 k5 k6 k7 k8 k9 kn sz hr C1_ C2_
        dsimp only [fr17]
        have r9 := gr_row e4 (own_lt e3)
        have r10 := gr_row g4 (own_lt g3)
        go_wp2
        go_meet
        case rel => exact ⟨b9, b10, w1, rfl, rfl, r9, r10, hb, gr_self _⟩
    case rest =>
      obtain ⟨b9, b10, X, rfl, rfl, r9, r10, hbx, rfl⟩ := hcut
      have hbX : Below W0.heap.size W0 X := HB_.out.trans (hbx.mono HB_.out.size)
      have g6 : ∀ d, RowsIn cha zeroCh 33 (gr X d) a6 (alls xs) := fun d => by
        obtain ⟨x, hx⟩ := gr_ex (hbx.trans ((gr_below X d).mono hbx.size))
        rw [hx]
        exact G6_.out x
      have fa := all_fn (alls xs) (by rw [HLEN_.out]; omega) (alls_inR HR_.out) a6 c6 g6
      rw [HLEN_.out, HAL_.out] at fa
      have h0 : alls xs ≠ [] := by intro e; have h := HLEN_.out; rw [e] at h; simp at h; omega
      obtain ⟨b6, o6, rfl, _⟩ := (g6 X).at h0
      have hk6 : 2 * k + 1 < (alls xs).length := by rw [HLEN_.out]; omega
      have hA6 : ∀ d, RowsAt cha zeroCh 33 (gr X d) b6 o6 (alls xs) := fun d => by
        obtain ⟨c', off', e, hs⟩ := (g6 d).at h0
        cases e
        exact hs
      have s1 := fun d => (hA6 d (2 * k + 1) hk6).1
      have s2 := fun d => (hA6 d (2 * k + 1) hk6).2
      rw [HAO_.out] at s2
      obtain ⟨n6, hn6⟩ : ∃ n6, 2 * xs.length = n6 := ⟨_, rfl⟩
      obtain ⟨x6, hx6⟩ : ∃ x6, 2 * k + 1 = x6 := ⟨_, rfl⟩
      have i1 : ¬ (x6 : Int) < 0 := by omega
      have i2 : ¬ (n6 : Int) ≤ (x6 : Int) := by omega
      have i3 : (x6 : Int) < (n6 : Int) := by omega
      have i6 : ¬ n6 ≤ x6 := by omega
      have i7 : decide (n6 ≤ x6) = false := decide_eq_false i6
      have i8 : x6 < n6 := by omega
      have i4 : decide ((x6 : Int) < 0) = false := decide_eq_false i1
      have i5 : decide ((n6 : Int) ≤ (x6 : Int)) = false := decide_eq_false i2
      rw [hn6, hx6] at fa
      simp only [hx6] at s1 s2
      rw [hn6]
      have e1 : ∀ d, sub (row? (gr X d) b6) (o6 + x6 * 33 + 5) 8 = ca p.g := fun d => by
        rw [show ca p.g = sub (cha ⟨p, true⟩) 5 8 from (cha_grand ⟨p, true⟩).symm, ← s2 d, sub_sub _ _ _ _ _ (by decide)]
      have z1 : ∀ d, o6 + x6 * 33 + 5 + 8 ≤ (row? (gr X d) b6).size := fun d => by have := s1 d; omega
      have fin : ∀ d, Below (gr w w).heap.size (gr w w) (gr X d) := fun d => by
        obtain ⟨x, hx⟩ := gr_ex (hbX.trans ((gr_below X d).mono hbX.size))
        rw [hx]
        exact FIN_.out x
      have hA := HA1_.out X hbX
      clear FIN_ HA1_ HAO_ HAL_ HU_ HK_ HLEN_ G5_ G6_ C1_ C2_ HB_ HR_ s1 s2 hA6 g6 h0 hk6 hbX hbx hcl hc3 hn6 hx6 r3
      have FA_ := hid fa
      clear fa
      have FIN_ := hid fin
      clear fin
      have HA_ := hid hA
      clear hA
      clear r3
      go_wp2_with fail
      refine FA_.out.c fun m => ?_
      dsimp only
      go_upto_region 19 with (fail)
      refine wp_region_gr X (by kernel_rfl) (by kernel_rfl) ⟨_, rfl⟩ ?_
      repeat (go_big_quiet_step (fail))
      refine wpQuiet_nil ?_
      rintro _ ⟨y, rfl⟩
      clear e1 z1 i1 i2 i3 i4 i5 i6 i7 i8 FA_ r10
      go_wp2
      go_loopw [106] (fun i wr => ∃ (j : Nat) (y : World), j ≤ xs.length ∧ i = .int .i64 j ∧ wr = gr X y) (fun i _ => xs.length - (intOf i).toNat)
      case atStart => exact ⟨0, y, by omega, rfl, rfl⟩
      case round =>
        obtain ⟨j, z, hj, rfl, rfl⟩ := hrel
        by_cases hjt : j < xs.length
        · have s1 := fun d => (HA_.out d j hjt).1
          have s2 := fun d => (HA_.out d j hjt).2
          have hjt' : (j : Int) < (xs.length : Int) := by omega
          have hlt : (xs.getD j zeroS).g ≠ p.g → grandI p (xs.getD j zeroS) < 0 := fun h => HLEAST_.out j hjt (fun e => h (by rw [e, HP_.out]))
          have hg := rgrand_fn (rcv r p) (xs.getD j zeroS)
          rw [grand_rcv1] at hg
          generalize xs.getD j zeroS = q at *
          generalize grandI p q = g at *
          have HLT_ := hid hlt
          clear hlt
          have HG_ := hid hg
          clear hg
          go_upto_region 24 with (fail)
          obtain ⟨W1, hE, r13, _, u1, _⟩ := newblk X z (sa zeroS) (sa q) 29 (by simp)
          rw [hE]
          clear hE s1 s2
          generalize (gr X z).heap.size = nb at *
          have r9' := upr u1 r9
          have U1_ := hid u1
          clear u1
          by_cases hq : q.g = p.g
          · go_wp2
            obtain ⟨d', e⟩ := U1_.out W1
            exact ⟨⟨j + 1, d', by omega, by go_num, e⟩, by simp [intOf]; omega⟩
          · have h9 := HLT_.out hq
            have hng : ¬ 0 ≤ g := by omega
            have hng2 : decide (0 ≤ g) = false := decide_eq_false hng
            clear h9 HLT_
            go_wp2_with fail
            refine HG_.out.c fun m => ?_
            dsimp only
            go_wp2
            obtain ⟨d', e⟩ := U1_.out m
            exact ⟨⟨j + 1, d', by omega, by go_num, e⟩, by simp [intOf]; omega⟩
        · obtain rfl : j = xs.length := by omega
          go_wp2_with fail
          refine alive09_fn.c fun m => ?_
          dsimp only
          go_wp2
          go_ret
          exact ⟨rfl, FIN_.out _⟩
end Go.Proofs.Ytcjbopobgpfjlaa
