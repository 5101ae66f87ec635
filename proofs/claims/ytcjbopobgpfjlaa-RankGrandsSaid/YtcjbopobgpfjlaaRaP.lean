/-
  The law RankGrands: it answers true. No condition.
-/
import Derived.Test.YtcjbopobgpfjlaaRaO
import Derived.Test.YtcjbopobgpfjlaaRegW
import Derived.Deep.DeepCutAuto
import Derived.Deep.CutBlock
namespace Go.Proofs.Ytcjbopobgpfjlaa
open Go.RowKit

theorem wrL_get : ∀ (l : List Value) (k : Nat) (z : Array Value) (j : Nat), k + l.length ≤ z.size → (wrL l k z)[j]? = if k ≤ j ∧ j < k + l.length then l[j - k]? else z[j]?
  | [], k, z, j, _ => by
    rw [if_neg (by simp <;> omega)]
    rfl
  | v :: l, k, z, j, h => by
    simp only [List.length_cons] at h
    rw [wrL, wrL_get l (k + 1) _ j (by simp; omega)]
    by_cases h1 : k + 1 ≤ j ∧ j < k + 1 + l.length
    · rw [if_pos h1, if_pos (by simp; omega), show j - k = (j - (k + 1)) + 1 by omega, List.getElem?_cons_succ]
    · rw [if_neg h1, Array.getElem?_setIfInBounds]
      by_cases e : k = j
      · subst e
        rw [if_pos rfl, if_pos (by omega), if_pos (by simp)]
        simp
      · rw [if_neg e, if_neg (by simp; omega)]
theorem fold_wrL : ∀ (l : List Value) (k : Nat) (z : Array Value), (l.zipIdx k).foldl (fun c x => c.setIfInBounds x.2 x.1) z = wrL l k z
  | [], _, _ => rfl
  | v :: l, k, z => by
    rw [List.zipIdx_cons, List.foldl_cons, wrL, fold_wrL l (k + 1)]
theorem fold_all (z cs : Array Value) (n : Nat) (hn : cs.size = n) (h : z.size = n) : Array.foldl (fun c x => c.setIfInBounds x.2 x.1) z (cs.zipIdx) 0 n = cs := by
  have e : cs.zipIdx.size = n := by simp [hn]
  rw [← e, ← Array.foldl_toList, Array.toList_zipIdx, fold_wrL]
  apply Array.ext_getElem?
  intro j
  rw [wrL_get _ _ _ _ (by simp; omega)]
  by_cases hj : j < cs.size
  · rw [if_pos (by simp; omega)]; simp
  · rw [if_neg (by simp; omega), Array.getElem?_eq_none (by omega), Array.getElem?_eq_none (by omega)]
theorem sub_sub (A : Array Value) (o n k m : Nat) (h : k + m ≤ n) : sub (sub A o n) k m = sub A (o + k) m := by
  unfold sub
  rw [Array.extract_extract, Nat.min_eq_left (by omega), Nat.add_assoc]
def Lower (xs : List Sett) (i : Nat) : Prop := ∀ j, j < i → ∀ k, k < j → (xs.getD j zeroS).g ≠ (xs.getD k zeroS).g
theorem unlike_of {xs : List Sett} (h : Lower xs xs.length) : unlike xs := by
  intro i hi k hk hne
  rcases Nat.lt_or_gt_of_ne hne with h1 | h1
  · exact fun e => h k hk i h1 e.symm
  · exact h i hi k h1
set_option maxRecDepth 100000 in
set_option maxHeartbeats 4000000 in
theorem grands_fn (xs : List Sett) (a : Option Addr) (cap : Nat) (hm : xs.length ≤ 9223372036854775807) (hR : ∀ k, k < xs.length → inR (xs.getD k zeroS).n) (w : World) (hX : SetsIn w a xs) :
    Calls Try.prog 6 #[.slice a xs.length cap] w fun e w' => e = .returned (.bool true) ∧ Below w.heap.size w w' := by
  obtain ⟨i0, hi0, hz0, hz1, hz2⟩ := info_parts infoS
  have HX := hid (fun d => hX.gr d)
  clear hX
  have HR_ := hid hR
  clear hR
  go_enter Try.func6, Try.ntmps6
  rw [gr_self w]
  by_cases hl : 40 < xs.length
  · have h2 : (40 : Int) < (xs.length : Int) := by omega
    clear hl hm
    go_wp2_with fail
    refine alive7_fn.c fun m => ?_
    dsimp only
    go_wp2
    go_ret
    exact ⟨rfl, by rw [← gr_self w]; exact gr_below w _⟩
  by_cases hl1 : xs.length < 1
  · have h2 : ¬ (40 : Int) < (xs.length : Int) := by omega
    have h3 : (xs.length : Int) < 1 := by omega
    clear hl hm
    go_wp2_with fail
    refine alive7_fn.c fun m => ?_
    dsimp only
    go_wp2
    go_ret
    exact ⟨rfl, by rw [← gr_self w]; exact gr_below w _⟩
  have h2 : ¬ (40 : Int) < (xs.length : Int) := by omega
  have h3 : ¬ (xs.length : Int) < 1 := by omega
  have h4 : xs.length ≤ 1000 := by omega
  have hne : xs ≠ [] := by intro e; rw [e] at hl1; simp at hl1
  obtain ⟨b, off, rfl, _⟩ := (HX.out w).resolve_left hne
  have hA := sets_at HX.out hne
  have HA_ := hid hA
  clear hA
  clear hm
  go_wp2
  go_loopw [20] (fun i wr => ∃ (j : Nat) (y : World), j ≤ xs.length ∧ i = .int .i64 j ∧ Lower xs j ∧ wr = gr w y) (fun i _ => xs.length - (intOf i).toNat)
  case atStart => exact ⟨0, w, by omega, rfl, fun j hj => absurd hj (by omega), rfl⟩
  case round =>
    obtain ⟨i, y, hi, rfl, hlow, rfl⟩ := hrel
    have HLOW_ := hid hlow
    clear hlow
    by_cases hit : i < xs.length
    · have s1 := fun d => (HA_.out d i hit).1
      have s2 := fun d => (HA_.out d i hit).2
      have hlow1 : (∀ k, k < i → (xs.getD i zeroS).g ≠ (xs.getD k zeroS).g) → Lower xs (i + 1) := fun h j hj => by
        by_cases e : j = i
        · subst e; exact h
        · exact HLOW_.out j (by omega)
      have HLOW1_ := hid hlow1
      clear hlow1
      generalize xs.getD i zeroS = p at *
      go_wp2
      go_loopw [24] (fun n wr => ∃ (k : Nat) (z : World), k ≤ i ∧ n = .int .i64 k ∧ (∀ m, m < k → p.g ≠ (xs.getD m zeroS).g) ∧ wr = gr w z) (fun n _ => i - (intOf n).toNat)
      case atStart => exact ⟨0, y, by omega, rfl, by omega, rfl⟩
      case round =>
        obtain ⟨k, z, hk, rfl, hno, rfl⟩ := hrel
        have HNO_ := hid hno
        clear hno
        by_cases hkt : k < i
        · have t1 := fun d => (HA_.out d k (by omega)).1
          have t2 := fun d => (HA_.out d k (by omega)).2
          have hno1 : p.g ≠ (xs.getD k zeroS).g → ∀ m, m < k + 1 → p.g ≠ (xs.getD m zeroS).g := fun h m hm => by
            by_cases e : m = k
            · rw [e]; exact h
            · exact HNO_.out m (by omega)
          have HNO1_ := hid hno1
          clear hno1
          generalize xs.getD k zeroS = q at *
          have e1 : ∀ d, sub (row? (gr w d) b) (off + i * 32 + 5) 8 = ca p.g := fun d => by
            rw [← sa_grand, ← s2 d, sub_sub _ _ _ _ _ (by decide)]
          have e2 : ∀ d, sub (row? (gr w d) b) (off + k * 32 + 5) 8 = ca q.g := fun d => by
            rw [← sa_grand, ← t2 d, sub_sub _ _ _ _ _ (by decide)]
          have z1 : ∀ d, off + i * 32 + 5 + 8 ≤ (row? (gr w d) b).size := fun d => by have := s1 d; omega
          have z2 : ∀ d, off + k * 32 + 5 + 8 ≤ (row? (gr w d) b).size := fun d => by have := t1 d; omega
          by_cases he : p.g = q.g
          · go_wp2
            refine wp_region_gr w (by kernel_rfl) (by kernel_rfl) ⟨_, rfl⟩ ?_
            repeat (go_big_quiet_step (fail))
            refine wpQuiet_nil ?_
            rintro _ ⟨m, rfl⟩
            go_wp2_with fail
            refine alive7_fn.c fun m => ?_
            dsimp only
            go_wp2
            go_ret
            exact ⟨rfl, by rw [← gr_self w]; exact gr_below w _⟩
          · have hn2 := HNO1_.out he
            have HN2_ := hid hn2
            clear hn2
            go_wp2
            refine wp_region_gr w (by kernel_rfl) (by kernel_rfl) ⟨_, rfl⟩ ?_
            repeat (go_big_quiet_step (fail))
            refine wpQuiet_nil ?_
            rintro _ ⟨m, rfl⟩
            go_wp2
            go_roundw
            case rel => exact ⟨k + 1, m, by omega, by go_num, HN2_.out, rfl⟩
            case measure => simp [intOf]; omega
        · obtain rfl : k = i := by omega
          have hl2 := HLOW1_.out HNO_.out
          have HL2_ := hid hl2
          clear hl2
          go_wp2
          exact ⟨⟨k + 1, z, by omega, by go_num, HL2_.out, rfl⟩, by simp [intOf]; omega⟩
    · obtain rfl : i = xs.length := by omega
      have hu := unlike_of HLOW_.out
      obtain ⟨k, hk⟩ := least_ex xs (by omega) hu
      have hf := first_least xs k hu hk
      have hfr := first_least xs.reverse _ (unlike_rev hu) (least_rev hk)
      go_wp2_with fail
      refine (first_fn xs h4 HR_.out _ cap HX.out).mono ?_
      rintro e w' ⟨rfl, m, rfl⟩
      rw [hf]
      dsimp only
      obtain ⟨hkn, hleast⟩ := hk
      have h5 : ¬ (k : Int) < 0 := by omega
      have h6 : ¬ ((xs.length : Int) ≤ k) := by omega
      have p1 := fun d => (HA_.out d k hkn).1
      have p2 := fun d => (HA_.out d k hkn).2
      have HLEAST_ := hid hleast
      clear hleast
      have HF_ := hid hf
      clear hf
      have HFR_ := hid hfr
      clear hfr
      have HU_ := hid hu
      clear hu
      clear HLOW_
      go_wp2
      go_loopw [53] (fun i wr => ∃ (j : Nat) (y : World), j ≤ xs.length ∧ i = .int .i64 j ∧ wr = gr w y) (fun i _ => xs.length - (intOf i).toNat)
      case atStart => exact ⟨0, m, by omega, rfl, rfl⟩
      case round =>
        obtain ⟨j, y, hj, rfl, rfl⟩ := hrel
        by_cases hjt : j < xs.length
        · by_cases hjk : j = k
          · have hb1 : ((j : Int) != (k : Int)) = false := by simp [hjk]
            have HJK_ := hid hjk
            clear hjk
            go_wp2
            refine wp_region_gr w (by kernel_rfl) (by kernel_rfl) ⟨_, rfl⟩ ?_
            repeat (go_big_quiet_step (fail))
            refine wpQuiet_nil ?_
            rintro _ ⟨z, rfl⟩
            go_wp2
            go_roundw
            case rel => exact ⟨j + 1, z, by omega, by go_num, rfl⟩
            case measure => simp [intOf]; omega
          · have hb1 : ((j : Int) != (k : Int)) = true := by simp; omega
            have s1 := fun d => (HA_.out d j hjt).1
            have s2 := fun d => (HA_.out d j hjt).2
            have hg := grand_fn (xs.getD k zeroS) (xs.getD j zeroS)
            have hlt := HLEAST_.out j hjt hjk
            generalize xs.getD j zeroS = q at *
            generalize xs.getD k zeroS = p at *
            generalize grandI p q = g at *
            have HJK_ := hid hjk
            clear hjk
            have HG_ := hid hg
            clear hg
            have hng : ¬ 0 ≤ g := by omega
            clear hlt
            go_wp2
            refine wp_region_gr w (by kernel_rfl) (by kernel_rfl) ⟨_, rfl⟩ ?_
            repeat (go_big_quiet_step (((go_at_call 18; exact HG_.out.q))))
            refine wpQuiet_nil ?_
            rintro _ ⟨z, rfl⟩
            go_wp2
            go_roundw
            case rel => exact ⟨j + 1, z, by omega, by go_num, rfl⟩
            case measure => simp [intOf]; omega
        · obtain rfl : j = xs.length := by omega
          go_upto_block 6 with (fail)
          go_cut [7, 8] (fun v _ wr => ∃ (a2 : Option Addr) (cap2 : Nat) (X : World), v = .slice a2 xs.length cap2 ∧ (∀ d, SetsIn (gr X d) a2 xs.reverse) ∧ Below w.heap.size w X ∧ wr = gr X X)
          case first =>
            go_wp2
            have hx0 : (gr w y).ownsRow w.heap.size 29 32 (.slice none 0 0) 0 (cellsL (xs.reverse.take 0)) := by simp [World.ownsRow, cellsL]
            go_loopw [7, 8] (fun v i wr => ∃ c : Nat, c ≤ xs.length ∧ i = .int .i64 ((xs.length : Int) - 1 - c) ∧ wr.ownsRow w.heap.size 29 32 v c (cellsL (xs.reverse.take c)) ∧ Below w.heap.size w wr) (fun _ i _ => (intOf i + 1).toNat)
            case atStart => exact ⟨0, by omega, by simp, hx0, gr_below w y⟩
            case round =>
              clear hx0
              obtain ⟨c, hc, rfl, hown, hb⟩ := hrel
              obtain ⟨x, rfl⟩ := gr_ex hb
              by_cases hct : c < xs.length
              · obtain ⟨i, hi⟩ : ∃ i : Nat, (i : Int) = (xs.length : Int) - 1 - c := ⟨xs.length - 1 - c, by omega⟩
                have hin : i < xs.length := by omega
                have hieq : i = xs.length - 1 - c := by omega
                have hnx : xs.reverse.take (c + 1) = xs.reverse.take c ++ [xs.getD i zeroS] := by
                  rw [List.take_add_one]
                  congr 1
                  have := rev_getD xs c hct
                  rw [← hieq] at this
                  rw [← this, List.getD_eq_getElem?_getD, List.getElem?_eq_getElem (by simpa using hct)]
                  simp
                rw [← hi]
                have s1 := fun d => (HA_.out d i hin).1
                have s2 := fun d => (HA_.out d i hin).2
                generalize xs.getD i zeroS = q at *
                have HI_ := hid hi
                clear hi
                have HIEQ_ := hid hieq
                clear hieq
                have HNX_ := hid hnx
                clear hnx
                go_wp2_with (at_builtin; refine wpList_append_own _ rfl _ _ 35 rfl w.heap.size 29 i0 (.agg (sa zeroS)) 32 88 Try.underlying35 hi0 hz0 hz1 hz2 (by simp [Value.cells]) (by decide) _ _ _ rfl (hown.alloc _) ⟨(gr w x).heap.size, 0, none⟩ 1 1 (sa q).toList rfl (by simp) ?c1 ?c2 ?c3 ?c4 ?c5 ?_)
                case c1 =>
                  intro j u hu
                  have hj : j < 32 := by
                    have := (List.getElem?_eq_some_iff.1 hu).1
                    simpa using this
                  have hadd : (⟨(gr w x).heap.size, 0, none⟩ : Addr).add j = ⟨(gr w x).heap.size, j, none⟩ := by unfold Addr.add; split <;> simp_all
                  rw [hadd, cell_row, row_alloc, if_pos rfl]
                  simp only [rowOf]
                  rw [fold_all _ (sa q) 32 (by simp) (by simp), ← hu, Array.getElem?_toList]
                case c2 =>
                  intro u hu
                  simp [sa, pa, ca, cl] at hu
                  rcases hu with rfl | rfl | rfl | rfl | rfl | ⟨n, _, rfl⟩ | rfl | ⟨n, _, rfl⟩ | rfl | ⟨n, _, rfl⟩ | rfl <;> rfl
                case c3 => unfold maxLen; omega
                case c4 => omega
                case c5 => have := hb.size; simp; omega
                intro v' w1 hown1 hgrow _
                go_wp2
                refine ⟨⟨c + 1, by omega, congrArg (Value.int .i64) (by have := HI_.out; push_cast; omega), ?_, (hb.alloc hb.size _).grown hgrow (by have := hb.size; simp <;> omega) (own_block_le hown)⟩, by simp [intOf] <;> omega⟩
                rw [HNX_.out, show cellsL (xs.reverse.take c ++ [q]) = cellsL (xs.reverse.take c) ++ (sa q).toList by simp [cellsL]]
                exact hown1
              · obtain rfl : c = xs.length := by omega
                rw [show (xs.length : Int) - 1 - (xs.length : Int) = -1 by omega]
                rw [List.take_of_length_le (by simp)] at hown
                obtain ⟨_, a2, cap2, rfl, hs⟩ := own_sets hown
                have hs2 := fun d => hs.gr d
                clear hs hown
                have HS2_ := hid hs2
                clear hs2
                clear p1 p2 hne h4 hc hct HX HA_ HR_
                generalize gr w x = X at *
                go_wp2
                go_meet
                case rel => exact ⟨a2, cap2, X, rfl, HS2_.out, hb, gr_self X⟩
          case rest =>
            obtain ⟨a2, cap2, X, rfl, hs2, hb, rfl⟩ := hcut
            have hrl : xs.reverse.length = xs.length := List.length_reverse
            have hRr : ∀ m, m < xs.reverse.length → inR (xs.reverse.getD m zeroS).n := fun m hm => by
              rw [hrl] at hm
              rw [rev_getD xs m hm]
              exact HR_.out _ (by omega)
            have hf2 := fun d => first_fn xs.reverse (by rw [hrl]; exact h4) hRr a2 cap2 (W := X) (d := d) hs2
            rw [HFR_.out, hrl, show ((xs.length - 1 - k : Nat) : Int) = (xs.length : Int) - 1 - k by omega] at hf2
            have HF2_ := hid hf2
            clear hf2 hRr hs2 hrl p1 p2 HA_ HU_ HF_ HFR_ HLEAST_ HX HR_ hne h4
            go_wp2_with fail
            refine alive7_fn.c fun m => ?_
            dsimp only
            go_wp2_with fail
            refine (HF2_.out m).mono ?_
            rintro e w' ⟨rfl, m, rfl⟩
            dsimp only
            go_wp2
            go_ret
            exact ⟨rfl, by rw [← gr_self w]; exact hb.trans ((gr_below X _).mono hb.size)⟩
end Go.Proofs.Ytcjbopobgpfjlaa
