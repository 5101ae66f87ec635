/-
  The walk of the reference's Get: the port of ten bytes. No condition.
-/
import Derived.Test.YtdamljmbnkdjfaaIdQ
namespace Go.Proofs.Ytdamljmbnkdjfaa
open Go.RowKit

/-- What the reference's port holds behind k rounds. -/
def paK (l : List Int) (k : Nat) : Array Value := cl (l.take k ++ List.replicate (8 - k) 0) ++ #[.int .i64 0]
theorem paK_size (l : List Int) (k : Nat) (hl : l.length = 10) (hk : k ≤ 8) : (paK l k).size = 9 := by
  simp [paK, cl, hl]
  omega
theorem paK_set (l : List Int) (k : Nat) (hl : l.length = 10) (hk : k < 8) : (paK l k).setIfInBounds k (.int .u8 (l.getD k 0)) = paK l (k + 1) := by
  unfold paK
  obtain ⟨m, hm⟩ : ∃ m, 8 - k = m + 1 := ⟨7 - k, by omega⟩
  rw [hm, show 8 - (k + 1) = m by omega, List.replicate_succ, take_snoc' l k (by omega)]
  have h1 : (l.take k).length = k := by simp [hl]; omega
  generalize l.take k = xs at *
  generalize l.getD k 0 = b
  subst h1
  unfold cl
  simp
theorem paK_end (l : List Int) (c : Clk) (h : l.take 8 = c.l) : paK l 8 = pa ⟨c, 0⟩ := by simp [paK, pa, ca, h]
theorem pa_set8 (c : Clk) (n m : Int) : (pa ⟨c, n⟩).setIfInBounds 8 (.int .i64 m) = pa ⟨c, m⟩ := by
  have h := ca_size c
  unfold pa
  simp only
  generalize ca c = A at *
  apply Array.ext'
  simp [h]

def RGetAt (l : List Int) (k : Nat) (B b : Nat) (R : Array Value) (w0 : World) (i : Value) (wr : World) : Prop :=
  k ≤ 8 ∧ i = .int .i64 k ∧ Below B w0 wr ∧ B + 2 ≤ wr.heap.size ∧ row? wr b = R ∧ row? wr B = pa zeroP ∧ own? wr B = true ∧ row? wr (B + 1) = paK l k ∧ own? wr (B + 1) = true
set_option maxHeartbeats 800000 in
theorem rget_no (a : Option Addr) (len cap : Nat) (h : len ≠ 10) : Fn Try.prog 24 #[.slice a len cap] (.tuple #[.agg (pa zeroP), .bool false]) := by
  intro w
  have hb : ((len : Int) != 10) = true := by simp; omega
  clear h
  go_enter Try.func24, Try.ntmps24
  go_wp2
  refine post_ct (p := 2) (u := 3) rfl agg35 siz35 w.heap.size (pa zeroP) (.bool false) rfl rfl rfl ?_ (by simp) ⟨rfl, ?_⟩
  · simp [go_sem]
  · exact below_setRow (((Below.refl _ _).alloc (Nat.le_refl _) _).alloc (by simp) _) (Nat.le_refl _) _
set_option maxRecDepth 100000 in
set_option maxHeartbeats 1600000 in
theorem rget_ok (b off cap : Nat) (l : List Int) (c : Clk) (w : World) (hT : TenAt w b off l c) :
    Calls Try.prog 24 #[.slice (some ⟨b, off, none⟩) 10 cap] w fun e w' => e = .returned (.tuple #[.agg (pa (portB l c)), .bool true]) ∧ Below w.heap.size w w' := by
  obtain ⟨hl, hr, hc, hs, hg⟩ := hT
  have hbl : b < w.heap.size := row_lt (by intro e; rw [e] at hs; simp at hs)
  obtain ⟨R, hR⟩ : ∃ R, R = row? w b := ⟨_, rfl⟩
  rw [← hR] at hs hg
  go_enter Try.func24, Try.ntmps24
  have Hl := hid hl
  have Hc := hid hc
  have Hr := hid hr
  have Hg := hid hg
  have HR := hid hR
  clear hl hc hr hg hR
  go_wp2
  have h0 : RGetAt l 0 w.heap.size b R w (.int .i64 0) ((w.alloc (Obj.cells (pa zeroP) 35)).alloc (Obj.cells (pa zeroP) 35)) :=
    ⟨by omega, rfl, ((Below.refl _ _).alloc (Nat.le_refl _) _).alloc (by simp) _, by simp, by rw [row_alloc, if_neg (by simp; omega), row_alloc, if_neg (by omega)]; exact HR.out.symm, by simp [row_alloc, rowOf], by simp [own_alloc, ownOf], by simp [row_alloc, rowOf]; rfl, by simp [own_alloc, ownOf]⟩
  go_loopw [5] (fun i wr => ∃ k, RGetAt l k w.heap.size b R w i wr) (fun i _ => 8 - (intOf i).toNat)
  case atStart => exact ⟨0, h0⟩
  case round =>
    clear h0
    obtain ⟨k, hk, rfl, hB, hz, hR, r1, o1, r2, o2⟩ := hrel
    have hne : (b = w.heap.size) = False := by simp; omega
    have hne2 : (b = w.heap.size + 1) = False := by simp; omega
    by_cases hlt : k < 8
    · have hgk := Hg.out k (by omega)
      have hset := paK_set l k Hl.out hlt
      have hsz := paK_size l k Hl.out hk
      generalize l.getD k 0 = x at *
      have HSET_ := hid hset
      clear hset
      have b9 : k < 9 := by omega
      have b10 : k < 10 := by omega
      go_wp2
      go_roundw
      case rel => exact ⟨k + 1, by omega, by go_num, hB.setCell (by simp <;> omega) _, by simp; omega, by rw [row_setCell, if_neg (by omega)]; exact hR, by simp [go_sem, r1], by simp [go_sem, o1], by simp [go_sem, r2, HSET_.out], by simp [go_sem, o2]⟩
      case measure => simp [intOf]; omega
    · obtain rfl : k = 8 := by omega
      rw [paK_end l c Hc.out] at r2
      have g8 := Hg.out 8 (by omega)
      have g9 := Hg.out 9 (by omega)
      have r8 := getD_rng Hr.out 8
      have r9 := getD_rng Hr.out 9
      have hpp : portB l c = ⟨c, l.getD 8 0 * 256 + l.getD 9 0⟩ := rfl
      generalize l.getD 8 0 = x8 at *
      generalize l.getD 9 0 = x9 at *
      have HPP_ := hid hpp
      clear hpp
      have hst := pa_set8 c 0 (x8 * 256 + x9)
      obtain ⟨r8a, r8b⟩ := r8
      obtain ⟨r9a, r9b⟩ := r9
      have G := gr_row hR (by omega)
      have G1 := gr_row r1 (by omega)
      have G2 := gr_row r2 (by omega)
      have P1 := gr_own o1
      have P2 := gr_own o2
      have HB := fun d => hB.trans ((gr_below wr d).mono (show w.heap.size ≤ wr.heap.size by omega))
      clear hR r1 r2 o1 o2 hB
      rw [gr_self wr]
      go_wp2
      refine wp_region_gr_tail wr 11 (by kernel_rfl) (by kernel_rfl) ⟨_, rfl⟩ ?_
      simp only [List.take_succ_cons, List.take_zero, List.drop_succ_cons, List.drop_zero]
      repeat (go_big_quiet_step (fail))
      refine wpQuiet_nil ?_
      rintro _ ⟨y, rfl⟩
      go_wp2
      refine post_ct (p := 2) (u := 3) rfl agg35 siz35 w.heap.size (pa ⟨c, x8 * 256 + x9⟩) (.bool true) rfl rfl rfl ?_ (by simp) ⟨by rw [HPP_.out], ?_⟩
      · simp [go_sem, G1]
      · exact below_setRow ((HB _).setCell (by simp <;> omega) _) (Nat.le_refl _) _
end Go.Proofs.Ytdamljmbnkdjfaa
