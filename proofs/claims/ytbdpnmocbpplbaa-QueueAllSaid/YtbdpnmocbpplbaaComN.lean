/-
  A body that holds a select of one case with a default, walked as code: in frames of an ordinary call. No condition.
-/
import Derived.Test.YtbdpnmocbpplbaaChg
import Derived.Conc.LoneCalls
import Derived.Conc.LoneSelect
import Derived.Conc.LoneSelectN
namespace Go.Proofs.Ytbdpnmocbpplbaa
open Go.RowKit Go.Conc

/-- As the kit's wp, in the frames of ordinary calls. -/
def wpN (P : Program) (c : Code) (Q : Exit → Act → World → Prop) (a : Act) (w : World) : Prop :=
  ∀ (b : Frame) (k : List Item) (cs : List Frame), b.kind ≠ .early → ∃ e a' w', Q e a' w' ∧ Arrives P (lone (b.at a (.code c :: k)) cs w) b k cs e a' w'
section
variable {P : Program} {Q : Exit → Act → World → Prop} {a : Act} {w : World}
theorem wpN_of_wp {c : Code} (h : c.wp P Q a w) : wpN P c Q a w := fun b k cs _ => h b k cs
theorem wpN_seq' {x y : Code} (h : wpN P x (Exit.then (wpN P y Q) Q) a w) : wpN P (Code.seq x y) Q a w := by
  intro b k cs hb
  obtain ⟨e, a₁, w₁, hq, harr⟩ := h b (.code y :: k) cs hb
  cases e with
  | normal =>
    obtain ⟨e₂, a₂, w₂, hq₂, harr₂⟩ := hq b k cs hb
    exact ⟨e₂, a₂, w₂, hq₂, .of_steps (.head step_seq harr) harr₂⟩
  | exit id => exact ⟨_, a₁, w₁, hq, .of_steps (.one step_seq) (.pass (x := .code y) rfl (fun _ _ => .inl (by simp)) harr)⟩
  | goto l => exact ⟨_, a₁, w₁, hq, .of_steps (.one step_seq) (.pass (x := .code y) rfl (fun _ _ => .inl (by simp)) harr)⟩
  | ret => exact ⟨_, a₁, w₁, hq, .of_steps (.one step_seq) harr⟩
  | panic c => exact ⟨_, a₁, w₁, hq, .of_steps (.one step_seq) harr⟩
  | outgrown => exact ⟨_, a₁, w₁, hq, .of_steps (.one step_seq) harr⟩
theorem wpN_seq {x y : Code} (h : x.wp P (Exit.then (wpN P y Q) Q) a w) : wpN P (Code.seq x y) Q a w := wpN_seq' (wpN_of_wp h)
/-- A region that begins with a communication. -/
theorem wpN_comm {id : Nat} {o : Oper} {l : List Oper} {cases : Array CommCase} {blocking : Bool} {shape : CommShape} {w1 w2 : World} {V : Value}
    (hg : o.guard = none) (hr : (execOp a.eval o).run P w = .ok (.comm cases blocking shape) w1)
    (hstep : ∀ fr cs es, stepG P true (G fr cs) w = .comm (G fr cs) cases blocking shape w1 es → step P (solo (G fr cs) w) = .next (solo (G (fr.finish V) cs) w2))
    (h : wpList P (o :: l).toArray Q l (a.put o.dst V) w2) : wpN P (Code.region id (o :: l).toArray false) Q a w := by
  intro b k cs hb
  have hw : Region.wanted o (yielded (o :: l).toArray a.tmps) = true := by simp [Region.wanted, hg]
  have ho : (o :: l).toArray[0]? = some o := by simp
  have hrange : List.range (o :: l).toArray.size = 0 :: List.range' 1 l.length := by
    rw [List.range_eq_range']
    simp [List.range'_succ]
  have h1 := stepG_comm (P := P) (main := true) (b := b) (a := a) (k := k) (cs := cs) (w := w) (rest := List.range' 1 l.length) ho hw hb hr
  have h2 := hstep _ _ _ h1
  rw [Frame.finish_at] at h2
  have h3 : wpOps P (o :: l).toArray Q (List.range' 1 l.length) (a.put o.dst V) w2 := by
    rw [wpOps_eq_wpList l 1 (fun j => by simp [Nat.add_comm])]
    exact h
  obtain ⟨e, a', w', q, r⟩ := wp_ops _ _ _ h3 b k cs
  refine ⟨e, a', w', q, .of_steps (.head step_region ?_) r⟩
  rw [hrange]
  refine Steps.one ?_
  rw [lone_eq_solo, lone_eq_solo]
  simpa [ho] using h2
theorem calls_of_wpN {f : FuncId} {fn : Func} {c : Code} {args : Array Value} {R : Ending → World → Prop}
    (hf : P.funcs[f]? = some fn) (hb : fn.body = some c)
    (h : wpN P c (bodyPost P fn R) { tmps := args ++ Array.replicate (fn.ntmps - args.size) undef, defers := [] } w) :
    Calls P f args w R := by
  intro cs
  let b : Frame := { (default : Frame) with fn := f, kind := .normal }
  have henter : Frame.enter P f args .normal =
      b.at { tmps := args ++ Array.replicate (fn.ntmps - args.size) undef, defers := [] } [.code c] := by
    simp [Frame.enter, Frame.at, hf, hb, b]
  obtain ⟨e, a', w', hq, harr⟩ := h b [] cs (by simp [b])
  rw [← henter] at harr
  cases e with
  | normal =>
    obtain ⟨hd, v, hr, hR⟩ := hq
    exact ⟨.returned v, w', _, hR, Steps.trans harr (.one step_end), rfl, rfl, hd, rfl, fn, hf, hr⟩
  | ret =>
    obtain ⟨hd, v, hr, hR⟩ := hq
    obtain ⟨todo, hs⟩ := harr
    exact ⟨.returned v, w', _, hR, hs, rfl, rfl, hd, rfl, fn, hf, hr⟩
  | panic chain =>
    obtain ⟨hd, hR⟩ := hq
    obtain ⟨todo, hs⟩ := harr
    exact ⟨.panicked chain, w', _, hR, hs, rfl, rfl, hd, fn, hf⟩
  | exit id => exact hq.elim
  | goto l => exact hq.elim
  | outgrown => exact ⟨.outgrown, w', b, hq, harr.resolve_left (by simp [b]), rfl, trivial⟩
end
end Go.Proofs.Ytbdpnmocbpplbaa
