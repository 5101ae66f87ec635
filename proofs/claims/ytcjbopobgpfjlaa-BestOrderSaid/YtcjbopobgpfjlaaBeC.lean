/-
  The walks of First over any slice, of at[int], of best.All. No condition but the numbers' range, and that there are at most 1000.
-/
import Derived.Test.YtcjbopobgpfjlaaBeB
namespace Go.Proofs.Ytcjbopobgpfjlaa
open Go.RowKit

/-- A contract in the extensions of a world: the value, and an extension again. -/
def Fg (P : Program) (f : FuncId) (args : Array Value) (v : Value) (W : World) : Prop :=
  ∀ d, Calls P f args (gr W d) fun e w' => e = .returned v ∧ ∃ m, w' = gr W m
theorem Fg.c {P : Program} {f : FuncId} {args : Array Value} {v : Value} {W d : World} (h : Fg P f args v W) {R : Ending → World → Prop} (k : ∀ m, R (.returned v) (gr W m)) : Calls P f args (gr W d) R :=
  (h d).mono fun _ _ ⟨he, m, hm⟩ => by subst he hm; exact k m
theorem Fg.q {P : Program} {f : FuncId} {args : Array Value} {v : Value} {W d : World} (h : Fg P f args v W) : Calls P f args (gr W d) fun e w' => e = .returned v ∧ ∃ m, w' = gr W m := h d
theorem Fg.up {P : Program} {f : FuncId} {args : Array Value} {v : Value} {W : World} (h : ∀ d, Calls P f args (gr W d) fun e w' => e = .returned v ∧ ∃ m, w' = gr W m) : Fg P f args v W := h
theorem Fg.at_eq {P : Program} {f : FuncId} {args : Array Value} {v u : Value} {W : World} (h : Fg P f args v W) (e : v = u) : Fg P f args u W := e ▸ h
set_option maxRecDepth 100000 in
theorem first_nil (a : Option Addr) (cap : Nat) {W d : World} : Calls Try.prog 24 #[.slice a 0 cap] (gr W d) fun e w' => e = .returned (.int .i64 (firstI [])) ∧ ∃ m, w' = gr W m := by
  rw [show firstI [] = -1 from rfl]
  go_enter Try.func24, Try.ntmps24
  go_wp2
  go_step3
  go_wp2
  go_step3
  go_wp2
  go_loopw [9] (fun i wr => i = .int .i64 0 ∧ wr = gr W d) (fun _ _ => 0)
  case atStart => exact ⟨rfl, rfl⟩
  case round =>
    obtain ⟨rfl, rfl⟩ := hrel
    go_wp2
    rw [Exit.noGoto_ret]
    go_ret
    exact ⟨rfl, d, rfl⟩
theorem first_rows (xs : List Sett) (hl : xs.length ≤ 1000) (hR : ∀ k, k < xs.length → inR (xs.getD k zeroS).n) (a : Option Addr) (cap : Nat) {W : World} (hX : ∀ d, RowsIn sa zeroS 32 (gr W d) a xs) :
    Fg Try.prog 24 #[.slice a xs.length cap] (.int .i64 (firstI xs)) W := by
  intro d
  by_cases h : xs = []
  · subst h
    exact first_nil a cap
  · obtain ⟨b, off, rfl, _⟩ := (hX W).resolve_left h
    refine first_some xs hl hR b off cap fun d => ?_
    obtain ⟨b', off', e, hs⟩ := (hX d).resolve_left h
    cases e
    exact hs
abbrev i1 (n : Int) : Array Value := #[.int .i64 n]
theorem ints_at {w : World} {b off : Nat} {xs : List Int} (h : RowsAt i1 0 1 w b off xs) (k : Nat) (hk : k < xs.length) : (row? w b)[off + k]? = some (.int .i64 (xs.getD k 0)) := by
  obtain ⟨h1, h2⟩ := h k hk
  have h3 := congrArg (fun x : Array Value => x[0]?) h2
  rw [Nat.mul_one] at h1 h3
  unfold sub at h3
  simp only [Array.getElem?_extract] at h3
  rw [if_pos (by omega), Nat.add_zero] at h3
  rw [h3]
  rfl
theorem at_no (n cap : Nat) (a : Option Addr) (k : Int) (_hn : n ≤ 1000) (h : k < 0 ∨ (n : Int) ≤ k) {W : World} : Fg Try.prog 44 #[.slice a n cap, .int .i64 k] (.tuple #[.int .i64 0, .bool false]) W := by
  intro d
  by_cases h1 : k < 0
  · clear h
    go_enter Try.func44, Try.ntmps44
    go_wp2
    go_ret2
    exact ⟨rfl, d, rfl⟩
  · have h2 : (n : Int) ≤ k := by omega
    have h3 : 0 ≤ k := by omega
    clear h h1
    go_enter Try.func44, Try.ntmps44
    go_wp2
    go_ret2
    exact ⟨rfl, d, rfl⟩
theorem at_yes (xs : List Int) (cap : Nat) (a : Option Addr) (k : Nat) (_hl : xs.length ≤ 1000) (hk : k < xs.length) {W : World} (hX : ∀ d, RowsIn i1 0 1 (gr W d) a xs) :
    Fg Try.prog 44 #[.slice a xs.length cap, .int .i64 k] (.tuple #[.int .i64 (xs.getD k 0), .bool true]) W := by
  intro d
  have h0 : xs ≠ [] := by intro e; rw [e] at hk; simp at hk
  obtain ⟨b, off, rfl, _⟩ := (hX W).resolve_left h0
  have hc : ∀ d, (row? (gr W d) b)[off + k]? = some (.int .i64 (xs.getD k 0)) := fun d => by
    obtain ⟨b', off', e, hs⟩ := (hX d).resolve_left h0
    cases e
    exact ints_at hs k hk
  have h1 : (k : Int) < (xs.length : Int) := by omega
  generalize xs.getD k 0 = v at *
  clear hX h0
  go_enter Try.func44, Try.ntmps44
  go_wp2
  go_ret2
  exact ⟨rfl, d, rfl⟩
end Go.Proofs.Ytcjbopobgpfjlaa
