/-
  The walks of rank.First and the reference's First. No condition but that there are at most 1000.
-/
import Derived.Test.YtcjbopobgpfjlaaRaD
import Derived.WalkMore
namespace Go.Proofs.Ytcjbopobgpfjlaa
open Go.RowKit

def zeroS : Sett := ⟨0, 0, 0, 0, 0, zeroC, 0, zeroP, zeroP⟩
@[go_sem] theorem zeroS_lit : (Value.agg #[.int .i64 0, .int .i64 0, .int .i64 0, .int .i64 0, .int .i64 0, .int .u8 0, .int .u8 0, .int .u8 0, .int .u8 0, .int .u8 0, .int .u8 0, .int .u8 0, .int .u8 0, .int .i64 0,
    .int .u8 0, .int .u8 0, .int .u8 0, .int .u8 0, .int .u8 0, .int .u8 0, .int .u8 0, .int .u8 0, .int .i64 0, .int .u8 0, .int .u8 0, .int .u8 0, .int .u8 0, .int .u8 0, .int .u8 0, .int .u8 0, .int .u8 0, .int .i64 0]) = .agg (sa zeroS) := rfl
@[simp, go_sem] theorem sa_ne (x : Sett) : sa x ≠ #[] := fun e => by have := sa_size x; rw [e] at this; cases this
theorem upT {W0 W1 : World} (u : ∀ d, ∃ d', gr W1 d = gr W0 d') {T : World → Prop} (h : ∀ d, T (gr W0 d)) : ∀ d, T (gr W1 d) := fun d => by
  obtain ⟨d', e⟩ := u d
  rw [e]; exact h d'
/-- Sets that stand in a row. -/
def SetsAt (w : World) (b off : Nat) (xs : List Sett) : Prop := ∀ k, k < xs.length → off + k * 32 + 32 ≤ (row? w b).size ∧ sub (row? w b) (off + k * 32) 32 = sa (xs.getD k zeroS)
/-- Is one better than this one? -/
def badS (xs : List Sett) (j : Nat) : Bool := xs.any fun b => lessS b (xs.getD j zeroS)
def firstI (xs : List Sett) : Int := match (List.range xs.length).find? (fun j => !badS xs j) with | some j => (j : Int) | none => -1
theorem firstI_hit (xs : List Sett) (k : Nat) (hk : k < xs.length) (h : ∀ j, j < k → badS xs j = true) (hb : badS xs k = false) : firstI xs = k := by
  unfold firstI
  have : (List.range xs.length).find? (fun j => !badS xs j) = some k := by
    rw [List.find?_range_eq_some]
    exact ⟨by simp [hb], by simp [hk], fun j hj => by simp [h j hj]⟩
  rw [this]
theorem firstI_none (xs : List Sett) (h : ∀ j, j < xs.length → badS xs j = true) : firstI xs = -1 := by
  unfold firstI
  have : (List.range xs.length).find? (fun j => !badS xs j) = none := by
    rw [List.find?_eq_none]
    intro j hj
    simp [h j (List.mem_range.1 hj)]
  rw [this]
theorem bad_of (xs : List Sett) (k m : Nat) (hm : m < xs.length) (h : lessS (xs.getD m zeroS) (xs.getD k zeroS) = true) : badS xs k = true := by
  unfold badS
  rw [List.any_eq_true]
  exact ⟨xs.getD m zeroS, by rw [List.getD_eq_getElem?_getD, List.getElem?_eq_getElem hm]; exact List.getElem_mem hm, h⟩
theorem not_bad (xs : List Sett) (k : Nat) (h : ∀ m, m < xs.length → lessS (xs.getD m zeroS) (xs.getD k zeroS) = false) : badS xs k = false := by
  unfold badS
  rw [List.any_eq_false]
  intro b hb
  obtain ⟨m, hm, rfl⟩ := List.getElem_of_mem hb
  have := h m hm
  rw [List.getD_eq_getElem?_getD, List.getElem?_eq_getElem hm] at this
  simpa using this

set_option maxRecDepth 100000 in
set_option maxHeartbeats 1600000 in
theorem first_some (xs : List Sett) (hl : xs.length ≤ 1000) (hR : ∀ k, k < xs.length → inR (xs.getD k zeroS).n) (b off cap : Nat) {W d : World} (hX : ∀ d, SetsAt (gr W d) b off xs) :
    Calls Try.prog 24 #[.slice (some ⟨b, off, none⟩) xs.length cap] (gr W d) fun e w' => e = .returned (.int .i64 (firstI xs)) ∧ ∃ m, w' = gr W m := by
  have hHit := firstI_hit xs
  have hNone := firstI_none xs
  generalize firstI xs = v at *
  have HHIT_ := hid hHit
  clear hHit
  have HNONE_ := hid hNone
  clear hNone
  have HR_ := hid hR
  clear hR
  have HX_ := hid hX
  clear hX
  go_enter Try.func24, Try.ntmps24
  go_wp2
  go_step3
  go_wp2
  go_step3
  go_wp2
  go_loopw [9] (fun i wr => ∃ (k : Nat) (x : World), k ≤ xs.length ∧ i = .int .i64 k ∧ (∀ j, j < k → badS xs j = true) ∧ wr = gr W x) (fun i _ => xs.length - (intOf i).toNat)
  case atStart => exact ⟨0, d, by omega, rfl, by omega, rfl⟩
  case round =>
    obtain ⟨k, x, hk, rfl, hbad, rfl⟩ := hrel
    have HBAD_ := hid hbad
    clear hbad
    by_cases hlt : k < xs.length
    · have s1 := fun d => (HX_.out d k hlt).1
      have s2 := fun d => (HX_.out d k hlt).2
      have hp := HR_.out k hlt
      have hbo := bad_of xs k
      have hnb := not_bad xs k
      have HBO_ := hid hbo
      clear hbo
      have HNB_ := hid hnb
      clear hnb
      have HP_ := hid hp
      clear hp
      generalize xs.getD k zeroS = p at *
      go_wp2
      obtain ⟨W1, hE, rp, op, u1, _⟩ := newblk W x (sa zeroS) (sa p) 29 (by simp)
      rw [hE]
      clear hE
      generalize (gr W x).heap.size = b4 at *
      clear s1 s2
      go_loopw [16] (fun n wr => ∃ (m : Nat) (y : World), m ≤ xs.length ∧ n = .int .i64 m ∧ (∀ j, j < m → lessS (xs.getD j zeroS) p = false) ∧ wr = gr W1 y) (fun n _ => xs.length - (intOf n).toNat)
      case atStart => exact ⟨0, W1, by omega, rfl, by omega, rfl⟩
      case round =>
        obtain ⟨m, y, hm, rfl, hno, rfl⟩ := hrel
        have HNO_ := hid hno
        clear hno
        by_cases hmt : m < xs.length
        · have hX1 := fun d => upT u1 (T := fun w => SetsAt w b off xs) HX_.out d m hmt
          have s1 := fun d => (hX1 d).1
          have s2 := fun d => (hX1 d).2
          have hq := HR_.out m hmt
          have hbo := HBO_.out m hmt
          have hnx : lessS (xs.getD m zeroS) p = false → ∀ j, j < m + 1 → lessS (xs.getD j zeroS) p = false := fun h j hj => by
            by_cases e : j = m
            · rw [e]; exact h
            · exact HNO_.out j (by omega)
          clear hX1
          have HBO_1 := hid hbo
          clear hbo
          have HNX_ := hid hnx
          clear hnx
          generalize xs.getD m zeroS = q at *
          go_wp2_with fail
          obtain ⟨W2, hE, rq, oq, u2, _⟩ := newblk W1 y (sa zeroS) (sa q) 29 (by simp)
          rw [hE]
          clear hE
          generalize (gr W1 y).heap.size = b6 at *
          have rp2 := upr u2 rp
          clear s1 s2
          go_wp2_with fail
          rw [ldSet _ _ _ (by rw [rp2]; simp), rp2]
          go_wp2_with fail
          have hl := lessS_fn q p hq HP_.out
          cases hb : lessS q p with
          | true =>
            rw [hb] at hl
            refine hl.c fun z => ?_
            dsimp only
            have hk1 := HBO_1.out hb
            clear hb hl
            have HK1_ := hid hk1
            clear hk1
            go_wp2
            obtain ⟨z1, e1⟩ := u2 z
            obtain ⟨z2, e2⟩ := u1 z1
            refine ⟨⟨k + 1, z2, by omega, by go_num, fun j hj => ?_, by rw [e1, e2]⟩, by simp [intOf]; omega⟩
            by_cases e : j = k
            · rw [e]; exact HK1_.out
            · exact HBAD_.out j (by omega)
          | false =>
            rw [hb] at hl
            refine hl.c fun z => ?_
            dsimp only
            have hk1 := HNX_.out hb
            clear hb hl
            have HK1_ := hid hk1
            clear hk1
            go_wp2
            obtain ⟨z1, e1⟩ := u2 z
            exact ⟨⟨m + 1, z1, by omega, by go_num, HK1_.out, e1⟩, by simp [intOf]; omega⟩
        · obtain rfl : m = xs.length := by omega
          have e : v = (k : Int) := HHIT_.out k hlt HBAD_.out (HNB_.out HNO_.out)
          subst e
          go_wp2
          rw [Exit.noGoto_ret]
          go_ret
          obtain ⟨z1, e1⟩ := u1 y
          exact ⟨rfl, z1, e1⟩
    · obtain rfl : k = xs.length := by omega
      have e : v = -1 := HNONE_.out HBAD_.out
      subst e
      go_wp2
      go_ret
      exact ⟨rfl, x, rfl⟩
end Go.Proofs.Ytcjbopobgpfjlaa
