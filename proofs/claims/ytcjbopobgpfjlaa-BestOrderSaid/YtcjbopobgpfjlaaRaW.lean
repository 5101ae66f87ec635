/-
  The walks of package rank: Turn, nearer, way, Grand, Compare, Less. No condition.
-/
import Derived.Test.YtcjbopobgpfjlaaRaA
import Derived.Test.YtcjbopobgpfjlaaIdR
import Derived.Test.YtcjbopobgpfjlaaRegP
namespace Go.Proofs.Ytcjbopobgpfjlaa
open Go.RowKit

theorem agg29 (w : World) : (isAgg 29).run Try.prog w = .ok true w := by kernel_rfl
theorem siz29 (w : World) : (sizeOf 29).run Try.prog w = .ok 32 w := by kernel_rfl
theorem agg23 (w : World) : (isAgg 23).run Try.prog w = .ok true w := by kernel_rfl
theorem siz23 (w : World) : (sizeOf 23).run Try.prog w = .ok 3 w := by kernel_rfl
@[go_sem] theorem ldSet (w : World) (b off : Nat) (h : off + 32 ≤ (row? w b).size) : (ldAt 29 (.pointer (some ⟨b, off, none⟩))).run Try.prog w = .ok (.agg (sub (row? w b) off 32)) w := run_ldAt_agg agg29 siz29 w b off h
@[go_sem] theorem stQual (w : World) (b : Nat) (x y z : Int) (h : (row? w b).size = 3) (ho : own? w b = true) : (stAt 23 (.pointer (some ⟨b, 0, none⟩)) (.agg #[.int .i64 x, .int .i64 y, .int .i64 z])).run Try.prog w = .ok () (w.setRow b #[.int .i64 x, .int .i64 y, .int .i64 z]) :=
  run_stAt_row siz23 w b _ (by rw [Array.all_eq_true_iff_forall_mem]; intro v hv; simp at hv; rcases hv with rfl | rfl | rfl <;> rfl) (by simp) h ho
@[go_sem] theorem stSet (w : World) (b : Nat) (s : Sett) (h : (row? w b).size = 32) (ho : own? w b = true) : (stAt 29 (.pointer (some ⟨b, 0, none⟩)) (.agg (sa s))).run Try.prog w = .ok () (w.setRow b (sa s)) :=
  run_stAt_row siz29 w b _ (by rw [Array.all_eq_true_iff_forall_mem]; intro v hv; simp [sa, pa, ca, cl] at hv; rcases hv with rfl | rfl | rfl | rfl | rfl | ⟨n, _, rfl⟩ | rfl | ⟨n, _, rfl⟩ | rfl | ⟨n, _, rfl⟩ | rfl <;> rfl) (by simp) h ho
@[go_sem] theorem ldQual (w : World) (b off : Nat) (h : off + 3 ≤ (row? w b).size) : (ldAt 23 (.pointer (some ⟨b, off, none⟩))).run Try.prog w = .ok (.agg (sub (row? w b) off 3)) w := run_ldAt_agg agg23 siz23 w b off h

set_option maxHeartbeats 400000 in
theorem fstI (l : List Int) (hl : l.length ≤ 1000) (W d : World) (b : Nat) (hr : ∀ d, row? (gr W d) b = il l) :
    Calls Try.prog 40 #[.slice (some ⟨b, 0, none⟩) l.length l.length] (gr W d) fun e w' => e = .returned (.int .i64 (firstNZ l)) ∧ ∃ d, w' = gr W d := by
  go_enter Try.func40, Try.ntmps40
  go_wp2
  go_loopw [7] (fun i wr => ∃ (k : Nat) (x : World), k ≤ l.length ∧ i = .int .i64 k ∧ firstNZ (l.drop k) = firstNZ l ∧ wr = gr W x) (fun i _ => l.length - (intOf i).toNat)
  case atStart => exact ⟨0, d, by omega, rfl, by simp, rfl⟩
  case round =>
    obtain ⟨k, x, hk, rfl, hf, rfl⟩ := hrel
    by_cases hlt : k < l.length
    · have hs := firstNZ_drop l k hlt
      rw [hf] at hs
      have HS := hid hs
      clear hs hf
      have d1 := fun h => il_at l (k := k) h
      generalize l.getD k 0 = a at *
      by_cases he : a = 0
      · subst he
        go_wp2
        go_roundw
        case rel => exact ⟨k+1, _, by omega, by go_num, by rw [HS.out]; simp, rfl⟩
        case measure => simp [intOf]; omega
      · have hne : (a != 0) = true := by simpa using he
        have HE := hid he
        clear he
        go_wp2
        go_ret
        exact ⟨ret_int (by rw [HS.out, if_neg HE.out]), _, rfl⟩
    · have hk8 : k = l.length := by omega
      have HK := hid hk8
      have HF := hid hf
      clear hf hk8
      go_wp2
      go_ret
      exact ⟨ret_int (by rw [← HF.out, HK.out]; simp [firstNZ]), _, rfl⟩

theorem fstI' (l : List Int) (hl : l.length ≤ 1000) (w : World) (b : Nat) (hb : b < w.heap.size) (hr : row? w b = il l) :
    Calls Try.prog 40 #[.slice (some ⟨b, 0, none⟩) l.length l.length] w fun e w' => e = .returned (.int .i64 (firstNZ l)) ∧ Below w.heap.size w w' := by
  have h := fstI l hl w w b (gr_row hr hb)
  rw [← gr_self w] at h
  exact h.mono fun e w' ⟨he, d, hd⟩ => ⟨he, by rw [hd]; exact gr_below w d⟩

/-- A comparison the other way round. -/
def turnI (n : Int) : Int := if n = 1 then n + 2 else if n = 2 then n + 2 else if n = 3 then n - 2 else if n = 4 then n - 2 else n
theorem turn_fn (n : Int) : Fn Try.prog 22 #[.int .i64 n] (.int .i64 (turnI n)) := by
  intro w
  go_enter Try.func22, Try.ntmps22
  by_cases h1 : n = 1
  · subst h1
    go_wp2
    go_ret
    exact ⟨rfl, Below.refl _ _⟩
  by_cases h2 : n = 2
  · subst h2
    go_wp2
    go_ret
    exact ⟨rfl, Below.refl _ _⟩
  by_cases h3 : n = 3
  · subst h3
    go_wp2
    go_ret
    exact ⟨rfl, Below.refl _ _⟩
  by_cases h4 : n = 4
  · subst h4
    go_wp2
    go_ret
    exact ⟨rfl, Below.refl _ _⟩
  have b1 : (n == 1) = false := by simpa using h1
  have b2 : (n == 2) = false := by simpa using h2
  have b3 : (n == 3) = false := by simpa using h3
  have b4 : (n == 4) = false := by simpa using h4
  have e : turnI n = n := by simp [turnI, h1, h2, h3, h4]
  have H1_ := hid h1
  clear h1
  have H2_ := hid h2
  clear h2
  have H3_ := hid h3
  clear h3
  have H4_ := hid h4
  clear h4
  have E_ := hid e
  clear e
  go_wp2
  go_ret
  exact ⟨by rw [E_.out]; rfl, Below.refl _ _⟩
def nearI (p : Sett) : Int := if cmpC p.r.c p.s.c = -1 then 3 else if cmpC p.r.c p.s.c = 1 then 4 else 5
theorem near_fn (p : Sett) : Fn Try.prog 47 #[.agg (sa p)] (.int .i64 (nearI p)) := by
  intro w
  obtain ⟨n, hn⟩ : ∃ n, n = cmpC p.r.c p.s.c := ⟨_, rfl⟩
  have f1 := (cmpC_fn p.r.c p.s.c).at_eq (congrArg (Value.int .i64) hn.symm)
  have e : nearI p = if n = -1 then 3 else if n = 1 then 4 else 5 := by rw [hn]; rfl
  have F1_ := hid f1
  clear f1
  have E_ := hid e
  clear e
  clear hn
  go_enter Try.func47, Try.ntmps47
  go_wp2_with fail
  refine cutc_box1 fun W g0 _ _ hB => ?_
  refine F1_.out.c fun m => ?_
  dsimp only
  by_cases h1 : n = -1
  · subst h1
    go_wp2
    go_ret
    exact ⟨by rw [E_.out]; rfl, hB _⟩
  by_cases h2 : n = 1
  · subst h2
    go_wp2
    go_ret
    exact ⟨by rw [E_.out]; rfl, hB _⟩
  have b1 : (n == -1) = false := by simpa using h1
  have b2 : (n == 1) = false := by simpa using h2
  have H1_ := hid h1
  clear h1
  have H2_ := hid h2
  clear h2
  go_wp2
  go_ret
  exact ⟨by rw [E_.out, if_neg H1_.out, if_neg H2_.out]; rfl, hB _⟩
end Go.Proofs.Ytcjbopobgpfjlaa
