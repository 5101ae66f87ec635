/-
  The walks of ident.Put and the reference's Put: a port's ten bytes. No condition.
-/
import Derived.Test.YtdamljmbnkdjfaaIdL
import Derived.Test.YtdamljmbnkdjfaaRegP
namespace Go.Proofs.Ytdamljmbnkdjfaa
open Go.RowKit

/-- A port's bytes. -/
def bytesP (p : Prt) : List Int := p.c.l ++ [p.n / 256, p.n % 256]
theorem bytesP_length (p : Prt) : (bytesP p).length = 10 := by simp [bytesP, p.c.h]
def putOk (p : Prt) : Prop := 0 ≤ p.n ∧ p.n ≤ 65535
/-- What Put answers where there is something. -/
def PutRes (p : Prt) (B : Nat) (w0 : World) (e : Ending) (w' : World) : Prop :=
  ∃ v, e = .returned (.tuple #[v, .bool true]) ∧ w'.ownsRow B 5 1 v 10 ((bytesP p).map (.int .u8)) ∧ Below B w0 w' ∧ B ≤ w'.heap.size
theorem own_mono {w : World} {B B' : Nat} {e : TypeId} {size : Nat} {v : Value} {n : Nat} {xs : List Value} (h : w.ownsRow B e size v n xs) (hB : B' ≤ B) : w.ownsRow B' e size v n xs := by
  obtain ⟨h1, h2⟩ := h
  refine ⟨h1, ?_⟩
  rcases h2 with h2 | ⟨g, cap, cur, hv, hg, r⟩
  · exact Or.inl h2
  · exact Or.inr ⟨g, cap, cur, hv, by omega, r⟩

set_option maxHeartbeats 800000 in
theorem put_no (p : Prt) (h : ¬ putOk p) : Fn Try.prog 21 #[.agg (pa p)] (.tuple #[.slice none 0 0, .bool false]) := by
  intro w
  unfold putOk at h
  by_cases h1 : p.n < 0
  · go_enter Try.func21, Try.ntmps21
    clear h
    go_wp2
    go_ret2
    exact ⟨rfl, (Below.refl _ _).alloc (Nat.le_refl _) _⟩
  · have h2 : 65535 < p.n := by omega
    go_enter Try.func21, Try.ntmps21
    clear h
    go_wp2
    go_ret2
    exact ⟨rfl, (Below.refl _ _).alloc (Nat.le_refl _) _⟩
set_option maxHeartbeats 800000 in
theorem put_ok (p : Prt) (h : putOk p) (w : World) : Calls Try.prog 21 #[.agg (pa p)] w (PutRes p w.heap.size w) := by
  obtain ⟨i0, hi, hz0, hz1, hz2⟩ := info_parts infoB
  obtain ⟨h1, h2⟩ := h
  go_enter Try.func21, Try.ntmps21
  go_wp2
  refine cut_box1 fun W g1 _ hz hB => ?_
  refine wp_region_gr3 W 2 9 (by kernel_rfl) (by kernel_rfl) (fun c a b w hd h => And.intro (hd.symm.trans (And.left h)) (And.right h)) ⟨_, rfl⟩ ?_
  simp only [List.take_succ_cons, List.take_zero, List.drop_succ_cons, List.drop_zero]
  repeat (go_big_quiet_step (fail))
  refine wpQuiet_nil ?_
  repeat (go_big_quiet_step (fail))
  refine wpQuiet_nil ?_
  rintro _ ⟨y, rfl⟩
  have r1 := g1 y
  have hBy := hB y
  have hlt : w.heap.size < (gr W y).heap.size := by have := (gr_below W y).size; omega
  clear g1 hB
  generalize gr W y = wy at *
  go_wp2_with (at_builtin; refine wpList_append_grows _ rfl _ _ 39 rfl 5 i0 (.int .u8 0) 1 1 Try.underlying39 hi hz0 hz1 hz2 rfl (by decide) (some ⟨w.heap.size, 0, none⟩) 8 8 (ca p.c).toList rfl (by simp) (by simp) ?c0 ⟨wy.heap.size, 0, none⟩ 2 2 [.int .u8 (p.n / 256), .int .u8 (p.n % 256)] rfl rfl ?c1 ?c2 (by decide) (by simp [maxLen]) (by decide) ?_)
  case c0 =>
    intro b hb j u hj
    cases hb
    have hj8 : j < 8 := by
      have := (List.getElem?_eq_some_iff.1 hj).1
      simpa using this
    have hadd : (⟨w.heap.size, 0, none⟩ : Addr).add j = ⟨w.heap.size, j, none⟩ := by unfold Addr.add; split <;> simp_all
    rw [hadd, cell_row, row_alloc, if_neg (by omega), r1, pa, Array.getElem?_append_left (by simpa using hj8)]
    simpa using hj
  case c1 => exact cell_two_new _ _ _ _
  case c2 => simp [Value.oneCell']
  intro v' w1 hown hgrow
  go_wp2
  go_ret2
  refine ⟨v', rfl, ?_, (hBy.alloc (by omega) _).grown hgrow (by first | omega | (simp; omega)) (fun k hk => by cases hk), ?_⟩
  · have := own_mono hown (B' := w.heap.size) (by first | omega | (simp; omega))
    simpa [bytesP, ca, cl] using this
  · have := hgrow.size
    first | omega | (simp at this; omega)

def RPutAt (p : Prt) (k : Nat) (B : Nat) (w0 : World) (v i : Value) (wr : World) : Prop :=
  k ≤ 8 ∧ i = .int .i64 k ∧ Below B w0 wr ∧ B + 1 ≤ wr.heap.size ∧ row? wr B = pa p ∧ wr.ownsRow (B + 1) 5 1 v k ((p.c.l.take k).map (.int .u8))
theorem pa_get (p : Prt) {k : Nat} (h : k < 8) (h' : k < (pa p).size) : (pa p)[k]'h' = .int .u8 (p.c.l.getD k 0) := by
  have h1 : (pa p)[k]? = (ca p.c)[k]? := by
    unfold pa
    rw [Array.getElem?_append_left (by simpa using h)]
  rw [Array.getElem?_eq_getElem h', ca_get p.c h] at h1
  exact Option.some.inj h1
theorem take_snoc' (l : List Int) (k : Nat) (h : k < l.length) : l.take (k + 1) = l.take k ++ [l.getD k 0] := by
  rw [List.take_succ_eq_append_getElem h, getD_at h]
set_option maxHeartbeats 800000 in
theorem rput_no (p : Prt) (h : ¬ putOk p) : Fn Try.prog 22 #[.agg (pa p)] (.tuple #[.slice none 0 0, .bool false]) := by
  intro w
  unfold putOk at h
  by_cases h1 : p.n < 0
  · go_enter Try.func22, Try.ntmps22
    clear h
    go_wp2
    go_ret2
    exact ⟨rfl, (Below.refl _ _).alloc (Nat.le_refl _) _⟩
  · have h2 : 65535 < p.n := by omega
    go_enter Try.func22, Try.ntmps22
    clear h
    go_wp2
    go_ret2
    exact ⟨rfl, (Below.refl _ _).alloc (Nat.le_refl _) _⟩
set_option maxRecDepth 100000 in
set_option maxHeartbeats 1600000 in
theorem rput_ok (p : Prt) (h : putOk p) (w : World) : Calls Try.prog 22 #[.agg (pa p)] w (PutRes p w.heap.size w) := by
  obtain ⟨i0, hi, hz0, hz1, hz2⟩ := info_parts infoB
  obtain ⟨h1, h2⟩ := h
  go_enter Try.func22, Try.ntmps22
  go_wp2
  refine cut_box1 fun W g1 _ hz hB => ?_
  have h0 : RPutAt p 0 w.heap.size w (.slice none 0 0) (.int .i64 0) W := ⟨by omega, rfl, by rw [gr_self W]; exact hB _, hz, by rw [gr_self W]; exact g1 _, by simp [World.ownsRow]⟩
  rw [← gr_self W]
  clear g1 hB hz
  go_loopw [4, 5] (fun v i wr => ∃ k, RPutAt p k w.heap.size w v i wr) (fun _ i _ => 8 - (intOf i).toNat)
  case atStart => exact ⟨0, h0⟩
  case round =>
    clear h0
    obtain ⟨k, hk, rfl, hB, hz, r1, hown⟩ := hrel
    by_cases hlt : k < 8
    · have e1 := fun h => pa_get p (k := k) hlt h
      have hs := take_snoc' p.c.l k (by rw [p.c.h]; exact hlt)
      generalize p.c.l.getD k 0 = x at *
      have HS_ := hid hs
      clear hs
      have b9 : k < 9 := by omega
      go_wp2_with (at_builtin; refine wpList_append_own _ rfl _ _ 39 rfl (w.heap.size + 1) 5 i0 (.int .u8 0) 1 1 Try.underlying39 hi hz0 hz1 hz2 rfl (by decide) _ _ _ rfl (hown.alloc _) ⟨wr.heap.size, 0, none⟩ 1 1 [.int .u8 x] rfl rfl ?c1 ?c2 ?c3 ?c4 ?c5 ?_)
      case c1 => exact cell_one_new _ _ _
      case c2 => simp [Value.oneCell']
      case c3 => unfold maxLen; omega
      case c4 => omega
      case c5 => first | omega | (simp; omega)
      intro v' w1 hown1 hgrow _
      go_wp2
      go_roundw
      case rel =>
        refine ⟨k + 1, by omega, by go_num, (hB.alloc (by omega) _).grown hgrow (by first | omega | (simp; omega)) (fun j hj => by have := own_block_le hown j hj; omega), ?_, ?_, ?_⟩
        · have := hgrow.size; first | omega | (simp at this; omega)
        · have hg := hgrow.block w.heap.size (by first | omega | (simp; omega)) (fun e => by have := own_block_le hown _ e.symm; omega)
          rw [row_of_block hg, row_alloc, if_neg (by omega), r1]
        · rw [HS_.out, List.map_append, List.map_take]; exact hown1
      case measure => simp [intOf]; omega
    · obtain rfl : k = 8 := by omega
      rw [List.take_of_length_le (by rw [p.c.h]; omega)] at hown
      go_wp2_with (at_builtin; refine wpList_append_own _ rfl _ _ 39 rfl (w.heap.size + 1) 5 i0 (.int .u8 0) 1 1 Try.underlying39 hi hz0 hz1 hz2 rfl (by decide) _ _ _ rfl (hown.alloc _) ⟨wr.heap.size, 0, none⟩ 2 2 [.int .u8 (p.n / 256), .int .u8 (p.n % 256)] rfl rfl ?c1 ?c2 ?c3 ?c4 ?c5 ?_)
      case c1 => exact cell_two_new _ _ _ _
      case c2 => simp [Value.oneCell']
      case c3 => unfold maxLen; omega
      case c4 => omega
      case c5 => first | omega | (simp; omega)
      intro v' w1 hown1 hgrow _
      go_wp2
      go_ret2
      refine ⟨v', rfl, ?_, (hB.alloc (by omega) _).grown hgrow (by first | omega | (simp; omega)) (fun j hj => by have := own_block_le hown j hj; omega), ?_⟩
      · have := own_mono hown1 (B' := w.heap.size) (by omega)
        simpa [bytesP] using this
      · have := hgrow.size; first | omega | (simp at this; omega)
end Go.Proofs.Ytdamljmbnkdjfaa
