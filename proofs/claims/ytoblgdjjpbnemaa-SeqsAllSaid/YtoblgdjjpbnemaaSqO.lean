/-
  The reference's book, as it lies in cells; its elements. No condition.
-/
import Derived.Test.YtoblgdjjpbnemaaRowE
import Derived.Test.YtoblgdjjpbnemaaSqH
import Derived.Test.YtoblgdjjpbnemaaRdQ
namespace Go.Proofs.Ytoblgdjjpbnemaa
open Go.RowKit

structure LaR where
  p : Prt
  k : Int
  q : Int
structure HaR where
  p : Prt
  q : Int
  x : X3
def zeroLa : LaR := ⟨zeroP, 0, 0⟩
def zeroHa : HaR := ⟨zeroP, 0, zeroX⟩
def la (s : LaR) : Array Value := pa s.p ++ #[.int .i64 s.k, .int .i64 s.q]
def ha (s : HaR) : Array Value := pa s.p ++ (#[.int .i64 s.q] ++ xc s.x)
@[simp, go_sem] theorem la_size (s : LaR) : (la s).size = 11 := by simp [la]
@[simp, go_sem] theorem ha_size (s : HaR) : (ha s).size = 13 := by simp [ha]
@[simp, go_sem] theorem la_ne (s : LaR) : la s ≠ #[] := fun e => by have := la_size s; rw [e] at this; cases this
@[simp, go_sem] theorem ha_ne (s : HaR) : ha s ≠ #[] := fun e => by have := ha_size s; rw [e] at this; cases this
theorem la_one (s : LaR) : ∀ v ∈ la s, v.oneCell' = true := by
  intro v hv
  unfold la at hv
  rcases Array.mem_append.1 hv with h | h
  · exact pa_one _ v h
  · simp at h
    rcases h with rfl | rfl <;> rfl
theorem ha_one (s : HaR) : ∀ v ∈ ha s, v.oneCell' = true := by
  intro v hv
  unfold ha at hv
  rcases Array.mem_append.1 hv with h | h
  · exact pa_one _ v h
  · rcases Array.mem_append.1 h with h | h
    · simp at h
      subst h
      rfl
    · exact xc_one _ v h
theorem la_get (s : LaR) (k : Nat) (h : 9 ≤ k) : (la s)[k]? = (#[Value.int .i64 s.k, .int .i64 s.q])[k - 9]? := by
  unfold la
  rw [Array.getElem?_append_right (by simpa using h)]
  simp
theorem ha_get (s : HaR) (k : Nat) (h : 9 ≤ k) : (ha s)[k]? = (#[Value.int .i64 s.q] ++ xc s.x)[k - 9]? := by
  unfold ha
  rw [Array.getElem?_append_right (by simpa using h)]
  simp
theorem la_p (s : LaR) : sub (la s) 0 9 = pa s.p := by
  have h1 := pa_size s.p
  apply Array.ext_getElem?
  intro i
  unfold sub la
  by_cases hi : i < 9
  · rw [Array.getElem?_extract, if_pos (by simp; omega), Array.getElem?_append_left (by simp; omega)]
    simp
  · rw [Array.getElem?_eq_none (by simp; omega), Array.getElem?_eq_none (by omega)]
theorem ha_p (s : HaR) : sub (ha s) 0 9 = pa s.p := by
  have h1 := pa_size s.p
  apply Array.ext_getElem?
  intro i
  unfold sub ha
  by_cases hi : i < 9
  · rw [Array.getElem?_extract, if_pos (by simp; omega), Array.getElem?_append_left (by simp; omega)]
    simp
  · rw [Array.getElem?_eq_none (by simp; omega), Array.getElem?_eq_none (by omega)]
theorem ha_x (s : HaR) : sub (ha s) 10 3 = xc s.x := by
  apply Array.ext_getElem?
  intro i
  unfold sub
  by_cases hi : i < 3
  · rw [Array.getElem?_extract, if_pos (by simp; omega), ha_get s _ (by omega), Array.getElem?_append_right (by simp; omega)]
    simp
    congr 1
    omega
  · rw [Array.getElem?_eq_none (by simp; omega), Array.getElem?_eq_none (by simp; omega)]
theorem elP : ElT 27 35 pa zeroP 9 16 := ⟨pa_size, by decide, by decide, by decide, Try.underlying27, info_of (by kernel_rfl), fun s u hu => pa_one s u (by simpa using hu)⟩
theorem elL : ElT 28 75 la zeroLa 11 32 := ⟨la_size, by decide, by decide, by decide, Try.underlying28, info_of (by kernel_rfl), fun s u hu => la_one s u (by simpa using hu)⟩
theorem elH : ElT 29 79 ha zeroHa 13 48 := ⟨ha_size, by decide, by decide, by decide, Try.underlying29, info_of (by kernel_rfl), fun s u hu => ha_one s u (by simpa using hu)⟩
theorem pa_u (p : Prt) : ∃ i, (pa p)[0]? = some (.int .u8 i) := by
  have h1 := p.c.h
  refine ⟨p.c.l.getD 0 0, ?_⟩
  unfold pa
  rw [Array.getElem?_append_left (by simp), ca_get p.c (by omega)]
theorem la_u (s : LaR) : ∃ i, (la s)[0]? = some (.int .u8 i) := by
  obtain ⟨i, hi⟩ := pa_u s.p
  exact ⟨i, by unfold la; rw [Array.getElem?_append_left (by simp)]; exact hi⟩
theorem ha_u (s : HaR) : ∃ i, (ha s)[0]? = some (.int .u8 i) := by
  obtain ⟨i, hi⟩ := pa_u s.p
  exact ⟨i, by unfold ha; rw [Array.getElem?_append_left (by simp)]; exact hi⟩
/-- A slice as it lies: where, and its room. -/
structure Sl where
  a : Option Addr
  c : Nat
def nilS : Sl := ⟨none, 0⟩
def slV (s : Sl) (n : Nat) : Value := .slice s.a n s.c
/-- The reference's book. -/
structure RB where
  sent : Nat → Int
  sn : List Prt
  ls : List LaR
  hs : List HaR
def zeroRB : RB := ⟨fun _ => 0, [], [], []⟩
def rc (r : RB) (s1 s2 s3 : Sl) : Array Value := i16 r.sent ++ #[slV s1 r.sn.length, slV s2 r.ls.length, slV s3 r.hs.length]
@[simp, go_sem] theorem rc_size (r : RB) (s1 s2 s3 : Sl) : (rc r s1 s2 s3).size = 19 := by simp [rc]
@[simp, go_sem] theorem rc_ne (r : RB) (s1 s2 s3 : Sl) : rc r s1 s2 s3 ≠ #[] := fun e => by have := rc_size r s1 s2 s3; rw [e] at this; cases this
@[simp, go_sem] theorem rc_all (r : RB) (s1 s2 s3 : Sl) : sub (rc r s1 s2 s3) 0 19 = rc r s1 s2 s3 := sub_all _ _ (by simp)
theorem rc_get (r : RB) (s1 s2 s3 : Sl) (k : Nat) : (rc r s1 s2 s3)[k]? = if k < 16 then some (.int .i64 (r.sent k)) else (#[slV s1 r.sn.length, slV s2 r.ls.length, slV s3 r.hs.length])[k - 16]? := by
  unfold rc
  by_cases h : k < 16
  · rw [Array.getElem?_append_left (by simp [h]), i16_get, if_pos h, if_pos h]
  · rw [Array.getElem?_append_right (by simp; omega), if_neg h]
    simp
@[simp, go_sem] theorem rc_16 (r : RB) (s1 s2 s3 : Sl) : (rc r s1 s2 s3)[16]? = some (.slice s1.a r.sn.length s1.c) := by rw [rc_get]; rfl
@[simp, go_sem] theorem rc_17 (r : RB) (s1 s2 s3 : Sl) : (rc r s1 s2 s3)[17]? = some (.slice s2.a r.ls.length s2.c) := by rw [rc_get]; rfl
@[simp, go_sem] theorem rc_18 (r : RB) (s1 s2 s3 : Sl) : (rc r s1 s2 s3)[18]? = some (.slice s3.a r.hs.length s3.c) := by rw [rc_get]; rfl
@[simp, go_sem] theorem rc_at16 (r : RB) (s1 s2 s3 : Sl) (h : 16 < (rc r s1 s2 s3).size) : (rc r s1 s2 s3)[16]'h = .slice s1.a r.sn.length s1.c := by
  have h1 := rc_16 r s1 s2 s3
  rw [Array.getElem?_eq_getElem h] at h1
  exact Option.some.inj h1
@[simp, go_sem] theorem rc_at17 (r : RB) (s1 s2 s3 : Sl) (h : 17 < (rc r s1 s2 s3).size) : (rc r s1 s2 s3)[17]'h = .slice s2.a r.ls.length s2.c := by
  have h1 := rc_17 r s1 s2 s3
  rw [Array.getElem?_eq_getElem h] at h1
  exact Option.some.inj h1
@[simp, go_sem] theorem rc_at18 (r : RB) (s1 s2 s3 : Sl) (h : 18 < (rc r s1 s2 s3).size) : (rc r s1 s2 s3)[18]'h = .slice s3.a r.hs.length s3.c := by
  have h1 := rc_18 r s1 s2 s3
  rw [Array.getElem?_eq_getElem h] at h1
  exact Option.some.inj h1
theorem i16_one (f : Nat → Int) : ∀ v ∈ i16 f, v.oneCell' = true ∧ ∀ i, v ≠ .int .u8 i := by
  intro v hv
  simp [i16] at hv
  obtain ⟨k, _, rfl⟩ := hv
  exact ⟨rfl, fun i => by simp⟩
theorem rc_all_v (r : RB) (s1 s2 s3 : Sl) : ∀ v ∈ rc r s1 s2 s3, v.oneCell' = true ∧ ∀ i, v ≠ .int .u8 i := by
  intro v hv
  unfold rc at hv
  rcases Array.mem_append.1 hv with h | h
  · exact i16_one _ v h
  · simp at h
    rcases h with rfl | rfl | rfl <;> exact ⟨rfl, fun i => by simp [slV]⟩
theorem rc_nou (r : RB) (s1 s2 s3 : Sl) : ∀ v ∈ rc r s1 s2 s3, ∀ i, v ≠ .int .u8 i := fun v hv => (rc_all_v r s1 s2 s3 v hv).2
theorem rc_set16 (r : RB) (s1 s2 s3 s' : Sl) (l : List Prt) : (rc r s1 s2 s3).setIfInBounds 16 (.slice s'.a l.length s'.c) = rc ⟨r.sent, l, r.ls, r.hs⟩ s' s2 s3 := by
  apply Array.ext_getElem?
  intro i
  rw [Array.getElem?_setIfInBounds, rc_get, rc_get]
  by_cases h : 16 = i
  · subst h; simp; rfl
  · rw [if_neg h]
    by_cases h2 : i < 16
    · rw [if_pos h2, if_pos h2]
    · rw [if_neg h2, if_neg h2]
      match i, h, h2 with
      | 17, _, _ => rfl
      | 18, _, _ => rfl
      | i + 19, _, _ => simp [show i + 19 - 16 = i + 3 by omega]
theorem rc_set17 (r : RB) (s1 s2 s3 s' : Sl) (l : List LaR) : (rc r s1 s2 s3).setIfInBounds 17 (.slice s'.a l.length s'.c) = rc ⟨r.sent, r.sn, l, r.hs⟩ s1 s' s3 := by
  apply Array.ext_getElem?
  intro i
  rw [Array.getElem?_setIfInBounds, rc_get, rc_get]
  by_cases h : 17 = i
  · subst h; simp; rfl
  · rw [if_neg h]
    by_cases h2 : i < 16
    · rw [if_pos h2, if_pos h2]
    · rw [if_neg h2, if_neg h2]
      match i, h, h2 with
      | 16, _, _ => rfl
      | 18, _, _ => rfl
      | i + 19, _, _ => simp [show i + 19 - 16 = i + 3 by omega]
theorem rc_set18 (r : RB) (s1 s2 s3 s' : Sl) (l : List HaR) : (rc r s1 s2 s3).setIfInBounds 18 (.slice s'.a l.length s'.c) = rc ⟨r.sent, r.sn, r.ls, l⟩ s1 s2 s' := by
  apply Array.ext_getElem?
  intro i
  rw [Array.getElem?_setIfInBounds, rc_get, rc_get]
  by_cases h : 18 = i
  · subst h; simp; rfl
  · rw [if_neg h]
    by_cases h2 : i < 16
    · rw [if_pos h2, if_pos h2]
    · rw [if_neg h2, if_neg h2]
      match i, h, h2 with
      | 16, _, _ => rfl
      | 17, _, _ => rfl
      | i + 19, _, _ => simp [show i + 19 - 16 = i + 3 by omega]
theorem rc_setN (r : RB) (s1 s2 s3 : Sl) (k : Nat) (hk : k < 16) (v : Int) : (rc r s1 s2 s3).setIfInBounds k (.int .i64 v) = rc ⟨upd r.sent k v, r.sn, r.ls, r.hs⟩ s1 s2 s3 := by
  apply Array.ext_getElem?
  intro i
  rw [Array.getElem?_setIfInBounds, rc_get, rc_get]
  by_cases h : k = i
  · subst h
    simp [hk, upd]
    omega
  · simp [h, upd, Ne.symm h]
theorem agg31 (w : World) : (isAgg 31).run Try.prog w = .ok true w := by kernel_rfl
theorem siz31 (w : World) : (sizeOf 31).run Try.prog w = .ok 19 w := by kernel_rfl
@[go_sem] theorem ldRB (w : World) (b off : Nat) (h : off + 19 ≤ (row? w b).size) : (ldAt 31 (.pointer (some ⟨b, off, none⟩))).run Try.prog w = .ok (.agg (sub (row? w b) off 19)) w := run_ldAt_agg agg31 siz31 w b off h
@[go_sem] theorem stRB (w : World) (b : Nat) (r : RB) (s1 s2 s3 : Sl) (h : (row? w b).size = 19) (ho : own? w b = true) : (stAt 31 (.pointer (some ⟨b, 0, none⟩)) (.agg (rc r s1 s2 s3))).run Try.prog w = .ok () (w.setRow b (rc r s1 s2 s3)) :=
  run_stAt_row siz31 w b _ (Array.all_eq_true_iff_forall_mem.2 (fun v hv => (rc_all_v r s1 s2 s3 v hv).1)) (by simp) h ho
theorem agg75 (w : World) : (isAgg 75).run Try.prog w = .ok true w := by kernel_rfl
theorem siz75 (w : World) : (sizeOf 75).run Try.prog w = .ok 11 w := by kernel_rfl
@[go_sem] theorem ldLa (w : World) (b off : Nat) (h : off + 11 ≤ (row? w b).size) : (ldAt 75 (.pointer (some ⟨b, off, none⟩))).run Try.prog w = .ok (.agg (sub (row? w b) off 11)) w := run_ldAt_agg agg75 siz75 w b off h
theorem agg79 (w : World) : (isAgg 79).run Try.prog w = .ok true w := by kernel_rfl
theorem siz79 (w : World) : (sizeOf 79).run Try.prog w = .ok 13 w := by kernel_rfl
@[go_sem] theorem ldHa (w : World) (b off : Nat) (h : off + 13 ≤ (row? w b).size) : (ldAt 79 (.pointer (some ⟨b, off, none⟩))).run Try.prog w = .ok (.agg (sub (row? w b) off 13)) w := run_ldAt_agg agg79 siz79 w b off h
theorem rc_lit : (#[.int .i64 0, .int .i64 0, .int .i64 0, .int .i64 0, .int .i64 0, .int .i64 0, .int .i64 0, .int .i64 0, .int .i64 0, .int .i64 0, .int .i64 0, .int .i64 0, .int .i64 0, .int .i64 0, .int .i64 0, .int .i64 0, .slice none 0 0, .slice none 0 0, .slice none 0 0] : Array Value) = rc zeroRB nilS nilS nilS := rfl
/-- The reference's lists, as they lie. -/
structure RL (w : World) (r : RB) (s1 s2 s3 : Sl) : Prop where
  sn : RowsIn pa zeroP 9 w s1.a r.sn
  ls : RowsIn la zeroLa 11 w s2.a r.ls
  hs : RowsIn ha zeroHa 13 w s3.a r.hs
theorem RL.below {w w' : World} {r : RB} {s1 s2 s3 : Sl} (h : RL w r s1 s2 s3) (hb : Below w.heap.size w w') : RL w' r s1 s2 s3 := ⟨h.sn.below (by decide) hb, h.ls.below (by decide) hb, h.hs.below (by decide) hb⟩
theorem RL.noU {w w' : World} {r : RB} {s1 s2 s3 : Sl} (h : RL w r s1 s2 s3) {S : Nat → Prop} (hc : Chg S w w') (hS : ∀ b, b < w.heap.size → S b → ∀ v ∈ row? w b, ∀ i, v ≠ .int .u8 i) : RL w' r s1 s2 s3 :=
  ⟨h.sn.noU (by decide) pa_u hc hS, h.ls.noU (by decide) la_u hc hS, h.hs.noU (by decide) ha_u hc hS⟩
theorem RL.zero (w : World) : RL w zeroRB nilS nilS nilS := ⟨.inl rfl, .inl rfl, .inl rfl⟩
end Go.Proofs.Ytoblgdjjpbnemaa
