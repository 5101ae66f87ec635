/-
  Ports as keys of a map; what a map keyed by ports hands back, takes in and gives up. No condition.
-/
import Derived.Test.YtoblgdjjpbnemaaIdA
import Derived.Test.YtoblgdjjpbnemaaChg
import Derived.Test.YtoblgdjjpbnemaaRegP
import Derived.Test.YtoblgdjjpbnemaaRegT
import Derived.Test.YtoblgdjjpbnemaaRegS
import Derived.Test.YtoblgdjjpbnemaaRegQ
import Derived.Test.YtoblgdjjpbnemaaRdG
import Derived.MapKept
import Derived.Test.YtoblgdjjpbnemaaProg
namespace Go.Proofs.Ytoblgdjjpbnemaa
open Go.RowKit

theorem agg33 (w : World) : (isAgg 33).run Try.prog w = .ok true w := by kernel_rfl
theorem siz33 (w : World) : (sizeOf 33).run Try.prog w = .ok 8 w := by kernel_rfl
theorem agg35 (w : World) : (isAgg 35).run Try.prog w = .ok true w := by kernel_rfl
theorem siz35 (w : World) : (sizeOf 35).run Try.prog w = .ok 9 w := by kernel_rfl
@[go_sem] theorem ldClk (w : World) (b off : Nat) (h : off + 8 ≤ (row? w b).size) : (ldAt 33 (.pointer (some ⟨b, off, none⟩))).run Try.prog w = .ok (.agg (sub (row? w b) off 8)) w := run_ldAt_agg agg33 siz33 w b off h
@[go_sem] theorem ldPrt (w : World) (b off : Nat) (h : off + 9 ≤ (row? w b).size) : (ldAt 35 (.pointer (some ⟨b, off, none⟩))).run Try.prog w = .ok (.agg (sub (row? w b) off 9)) w := run_ldAt_agg agg35 siz35 w b off h
@[go_sem high] theorem eqClk (d : Nat) (x y : Clk) (w : World) : (Op.equalIn (d + 2) 33 (.agg (ca x)) (.agg (ca y))).run Try.prog w = .ok (decide (x = y)) w := by
  unfold ca
  rw [eqArr (P := Try.prog) (t := 33) (e := 5) (n := 8) Try.underlying33 (by kernel_rfl) (by kernel_rfl) (fun w => by kernel_rfl) Try.underlying5 d x.l y.l x.h y.h w, clk_dec]
@[go_sem high] theorem eqPrt (d : Nat) (p q : Prt) (w : World) : (Op.equalIn (d + 3) 35 (.agg (pa p)) (.agg (pa q))).run Try.prog w = .ok (decide (p = q)) w := by
  rw [show d + 3 = (d + 2) + 1 from rfl, run_equalIn_agg w (d + 2) 35 _ _ (by kernel_rfl) (by kernel_rfl), prt_dec]
  simp only [Program.fieldsOf, Try.underlying35]
  by_cases h : p.c = q.c <;> by_cases h2 : p.n = q.n <;> simp [go_sem, h, h2]
theorem eqP (p q : Prt) (w : World) : (Op.equal 35 (.agg (pa p)) (.agg (pa q))).run Try.prog w = .ok (decide (p = q)) w := eqPrt 9997 p q w
@[go_sem] theorem zeroC_lit : (Value.agg #[.int .u8 0, .int .u8 0, .int .u8 0, .int .u8 0, .int .u8 0, .int .u8 0, .int .u8 0, .int .u8 0]) = .agg (ca zeroC) := rfl
@[go_sem] theorem zeroP_lit : (Value.agg #[.int .u8 0, .int .u8 0, .int .u8 0, .int .u8 0, .int .u8 0, .int .u8 0, .int .u8 0, .int .u8 0, .int .i64 0]) = .agg (pa zeroP) := rfl
@[go_sem] theorem bldP (w : World) : (bld 35 #[]).run Try.prog w = .ok (.agg (pa zeroP)) w := run_bld w (by kernel_rfl)
@[simp, go_sem] theorem pa_ne (p : Prt) : pa p ≠ #[] := fun e => by have := pa_size p; rw [e] at this; cases this
theorem pa_one (p : Prt) : ∀ v ∈ pa p, v.oneCell' = true := by
  intro v hv
  simp [pa, ca, cl] at hv
  rcases hv with ⟨a, _, rfl⟩ | rfl <;> rfl
@[go_sem] theorem stPrt (w : World) (b : Nat) (p : Prt) (h : (row? w b).size = 9) (ho : own? w b = true) : (stAt 35 (.pointer (some ⟨b, 0, none⟩)) (.agg (pa p))).run Try.prog w = .ok () (w.setRow b (pa p)) :=
  run_stAt_row siz35 w b _ (Array.all_eq_true_iff_forall_mem.2 (pa_one p)) (by simp) h ho
/-- A port may be a key. -/
theorem partClk (p : Prt) (w : World) : (part 33 (pa p) 0).run Try.prog w = .ok (.agg (ca p.c)) w := by
  unfold part
  simp [pa]
theorem partNum (p : Prt) (w : World) : (part 3 (pa p) 8).run Try.prog w = .ok (.int .i64 p.n) w := by
  have h : (isAgg 3).run Try.prog w = .ok false w := by kernel_rfl
  unfold part
  simp [Sem.run_bind, h]
theorem keyByte (em : Bool) (n : Nat) (v : Value) (w : World) : (Instr.checkKey em (n + 1) 5 v).run Try.prog w = .ok () w := by
  rw [Instr.checkKey]
  simp [Sem.run_bind, run_underlying Try.underlying5]
theorem keyInt (em : Bool) (n : Nat) (v : Value) (w : World) : (Instr.checkKey em (n + 1) 3 v).run Try.prog w = .ok () w := by
  rw [Instr.checkKey]
  simp [Sem.run_bind, run_underlying Try.underlying3]
theorem keyClk (em : Bool) (n : Nat) (c : Clk) (w : World) : (Instr.checkKey em (n + 2) 33 (.agg (ca c))).run Try.prog w = .ok () w := by
  have h1 : (sizeOf 5).run Try.prog w = .ok 1 w := by kernel_rfl
  have h2 : ∀ k, k < 8 → (part 5 (ca c) k).run Try.prog w = .ok (.int .u8 (c.l.getD k 0)) w := fun k hk => part_cl (P := Try.prog) (e := 5) (fun w => by kernel_rfl) w c.l k (by rw [c.h]; exact hk)
  have h3 : ∀ v, (Instr.checkKey em (n + 1) 5 v).run Try.prog w = .ok () w := fun v => keyByte em n v w
  rw [Instr.checkKey]
  simp only [Sem.run_bind, run_underlying Try.underlying33, Result.andThen_ok]
  simp only [Std.Legacy.Range.forIn_eq_forIn_range', Std.Legacy.Range.size, Nat.sub_zero, Nat.add_one_sub_one, Nat.div_one]
  have hl : List.range' 0 8 = [0, 1, 2, 3, 4, 5, 6, 7] := rfl
  simp [hl, Sem.run_bind, h1, h2, h3]
theorem keyPrt (em : Bool) (n : Nat) (p : Prt) (w : World) : (Instr.checkKey em (n + 3) 35 (.agg (pa p))).run Try.prog w = .ok () w := by
  have h1 := partClk p w
  have h2 := partNum p w
  have h3 : (Instr.checkKey em (n + 2) 33 (.agg (ca p.c))).run Try.prog w = .ok () w := keyClk em n p.c w
  have h4 : ∀ v, (Instr.checkKey em (n + 2) 3 v).run Try.prog w = .ok () w := fun v => keyInt em (n + 1) v w
  rw [Instr.checkKey]
  simp only [Sem.run_bind, run_underlying Try.underlying35, Result.andThen_ok]
  rw [← Array.forIn_toList]
  simp [Sem.run_bind, h1, h2, h3, h4]
/-- Entries of a map keyed by ports, whose elements point to blocks. -/
def Ents (es : List MapEntry) (ks : List (Prt × Nat)) : Prop := es.map (fun e => (e.key, e.val)) = ks.map (fun k => (Value.agg (pa k.1), Value.pointer (some ⟨k.2, 0, none⟩)))
/-- Which one it is. -/
def findP (p : Prt) : List (Prt × Nat) → Nat → Option (Nat × Value)
  | [], _ => none
  | k :: ks, i => if p = k.1 then some (i, .pointer (some ⟨k.2, 0, none⟩)) else findP p ks (i + 1)
theorem run_asking (p : Prt) (w : World) : ∀ (es : List MapEntry) (ks : List (Prt × Nat)) (i : Nat), Ents es ks → (Instr.findAsking 35 (.agg (pa p)) es i).run Try.prog w = .ok (findP p ks i) w
  | [], [], i, _ => by simp [Instr.findAsking, findP]
  | [], k :: ks, i, h => by simp [Ents] at h
  | e :: es, [], i, h => by simp [Ents] at h
  | e :: es, k :: ks, i, h => by
    simp only [Ents, List.map_cons, List.cons.injEq, Prod.mk.injEq] at h
    obtain ⟨⟨h1, h2⟩, h3⟩ := h
    have ih := run_asking p w es ks (i + 1) h3
    rw [Instr.findAsking, findP]
    simp only [Sem.run_bind, h1, eqP, Result.andThen_ok]
    by_cases hp : p = k.1
    · rw [if_pos hp, decide_eq_true hp]
      simp [h2]
    · rw [if_neg hp, decide_eq_false hp]
      simpa using ih
theorem run_findP (p : Prt) (w : World) (es : List MapEntry) (ks : List (Prt × Nat)) (h : Ents es ks) : (Instr.findKey 35 (.agg (pa p)) es).run Try.prog w = .ok (findP p ks 0) w := by
  have h1 := run_asking p w es ks 0 h
  unfold Instr.findKey
  simp only [Sem.run_bind, run_underlying Try.underlying35, Result.andThen_ok]
  cases es with
  | nil =>
    cases ks with
    | nil => simp [Instr.findNow, findP]
    | cons k ks => simp [Ents] at h
  | cons e es =>
    cases ks with
    | nil => simp [Ents] at h
    | cons k ks =>
      simp only [Instr.findNow, Instr.sameNow]
      simpa using h1
/-- What a look-up hands back. -/
def lookP (p : Prt) (ks : List (Prt × Nat)) : Value := match findP p ks 0 with | some (_, v) => .tuple #[v, .bool true] | none => .tuple #[.pointer none, .bool false]
theorem run_lookP (p : Prt) {w : World} {m c : Nat} {es : Array MapEntry} {ks : List (Prt × Nat)} (hm : w.heap[m]? = some (.map es c)) (h : Ents es.toList ks) :
    (Instr.lookup 55 (.map (some m)) (.agg (pa p)) true).run Try.prog w = .ok (lookP p ks) w := by
  have hz : (zeroValue 66).run Try.prog w = .ok (.pointer none) w := by kernel_rfl
  unfold Instr.lookup lookP
  simp only [Sem.run_bind, run_underlying Try.underlying55, Result.andThen_ok, Go.MapKept.run_getObj_map hm, Sem.run_pure, keyPrt es.isEmpty 9997 p w, run_findP p w _ ks h]
  cases findP p ks 0 with
  | none => simp [hz]
  | some x => simp
theorem findP_none {p : Prt} : ∀ {ks : List (Prt × Nat)} {i : Nat}, (∀ k ∈ ks, k.1 ≠ p) → findP p ks i = none
  | [], _, _ => rfl
  | k :: ks, i, h => by
    rw [findP, if_neg (fun e => h k (by simp) e.symm)]
    exact findP_none (fun k hk => h k (by simp [hk]))
theorem findP_some {p : Prt} : ∀ {ks : List (Prt × Nat)} {i j g : Nat}, (∀ a, a < j → ∀ k, ks[a]? = some k → k.1 ≠ p) → ks[j]? = some (p, g) → findP p ks i = some (i + j, .pointer (some ⟨g, 0, none⟩))
  | [], i, j, g, _, h => by simp at h
  | k :: ks, i, 0, g, _, h => by
    obtain rfl : k = (p, g) := by simpa using h
    rw [findP, if_pos rfl]
    rfl
  | k :: ks, i, j + 1, g, hn, h => by
    rw [findP, if_neg (fun e => hn 0 (by omega) k rfl e.symm), findP_some (i := i + 1) (j := j) (g := g) (fun a ha k' hk => hn (a + 1) (by omega) k' (by simpa using hk)) (by simpa using h)]
    congr 2
    omega
/-- The world with another map at m. -/
def setMap (w : World) (m : Nat) (es : Array MapEntry) (c : Nat) : World := { w with heap := w.heap.setIfInBounds m (.map es c) }
theorem chg_setMap (w : World) (m : Nat) (es : Array MapEntry) (c : Nat) : Chg (· = m) w (setMap w m es c) :=
  ⟨rfl, rfl, rfl, by simp [setMap], fun k _ hs => by simp [setMap, Ne.symm hs]⟩
theorem heap_setMap {w : World} {m : Nat} (hm : m < w.heap.size) (es : Array MapEntry) (c : Nat) : (setMap w m es c).heap[m]? = some (.map es c) := by
  simp [setMap, hm]
theorem run_putP (p : Prt) (g : Nat) {w : World} {m c : Nat} {es : Array MapEntry} {ks : List (Prt × Nat)} (hm : w.heap[m]? = some (.map es c)) (h : Ents es.toList ks) (hn : ∀ k ∈ ks, k.1 ≠ p) :
    (Instr.mapUpdate 55 (.map (some m)) (.agg (pa p)) (.pointer (some ⟨g, 0, none⟩))).run Try.prog w = .ok () (setMap w m (es.push { key := .agg (pa p), val := .pointer (some ⟨g, 0, none⟩), born := c }) (c + 1)) := by
  unfold Instr.mapUpdate
  simp only [Sem.run_bind, run_underlying Try.underlying55, Result.andThen_ok, Go.MapKept.run_getObj_map hm, keyPrt false 9997 p w, run_findP p w _ ks h, findP_none hn, Go.MapKept.run_setObj_map _ hm]
  rfl
theorem Ents.push {es : Array MapEntry} {ks : List (Prt × Nat)} (h : Ents es.toList ks) (p : Prt) (g c : Nat) : Ents (es.push { key := .agg (pa p), val := .pointer (some ⟨g, 0, none⟩), born := c }).toList (ks ++ [(p, g)]) := by
  unfold Ents at *
  simp [h]
theorem run_delP_none (p : Prt) {w : World} {m c t : Nat} {es : Array MapEntry} {ks : List (Prt × Nat)} (hm : w.heap[m]? = some (.map es c)) (h : Ents es.toList ks) (hn : ∀ k ∈ ks, k.1 ≠ p) :
    (Builtin.delete_ #[55, 35] t #[.map (some m), .agg (pa p)]).run Try.prog w = .ok (.tuple #[]) (setMap w m es c) := by
  unfold Builtin.delete_
  simp only [Sem.run_bind, List.getElem?_toArray, List.getElem?_cons_zero, List.getElem?_cons_succ, run_underlying Try.underlying55, Result.andThen_ok, Go.MapKept.run_getObj_map hm, keyPrt es.isEmpty 9997 p w, run_findP p w _ ks h, findP_none hn, Go.MapKept.run_setObj_map _ hm, Sem.run_pure]
  rfl
theorem run_delP_some (p : Prt) {w : World} {m c t j g : Nat} {es : Array MapEntry} {ks : List (Prt × Nat)} (hm : w.heap[m]? = some (.map es c)) (h : Ents es.toList ks) (hn : ∀ a, a < j → ∀ k, ks[a]? = some k → k.1 ≠ p) (hj : ks[j]? = some (p, g)) :
    (Builtin.delete_ #[55, 35] t #[.map (some m), .agg (pa p)]).run Try.prog w = .ok (.tuple #[]) (setMap w m (es.eraseIdxIfInBounds j) c) := by
  unfold Builtin.delete_
  simp only [Sem.run_bind, List.getElem?_toArray, List.getElem?_cons_zero, List.getElem?_cons_succ, run_underlying Try.underlying55, Result.andThen_ok, Go.MapKept.run_getObj_map hm, keyPrt es.isEmpty 9997 p w, run_findP p w _ ks h, findP_some hn hj, Go.MapKept.run_setObj_map _ hm, Sem.run_pure]
  rw [Nat.zero_add]
  rfl
theorem map_erase {α β : Type} (f : α → β) : ∀ (l : List α) (j : Nat), (l.eraseIdx j).map f = (l.map f).eraseIdx j
  | [], _ => rfl
  | _ :: _, 0 => rfl
  | a :: l, j + 1 => by
    show f a :: (l.eraseIdx j).map f = f a :: (l.map f).eraseIdx j
    rw [map_erase f l j]
theorem Ents.erase {es : Array MapEntry} {ks : List (Prt × Nat)} (h : Ents es.toList ks) (j : Nat) : Ents (es.eraseIdxIfInBounds j).toList (ks.eraseIdx j) := by
  unfold Ents at *
  have e : (es.eraseIdxIfInBounds j).toList = es.toList.eraseIdx j := by simp
  rw [e, map_erase, h, ← map_erase]
theorem Ents.len {es : Array MapEntry} {ks : List (Prt × Nat)} (h : Ents es.toList ks) : es.size = ks.length := by
  have := congrArg List.length h
  simpa using this
end Go.Proofs.Ytoblgdjjpbnemaa
