/-
  The walk of the law IdentBytes: it answers true. No condition.
-/
import Derived.Test.YtdamljmbnkdjfaaIdS
namespace Go.Proofs.Ytdamljmbnkdjfaa
open Go.RowKit

/-- What is asked of a slice of bytes that came in. -/
def SlArg (w : World) (a : Option Addr) (len : Nat) : Prop := len = 10 → ∃ b off l c, a = some ⟨b, off, none⟩ ∧ TenAt w b off l c
theorem TenAt.up {w w' : World} {b off : Nat} {l : List Int} {c : Clk} (h : TenAt w b off l c) (hb : Below w.heap.size w w') : TenAt w' b off l c := by
  obtain ⟨hl, hr, hc, hs, hg⟩ := h
  have hbl : b < w.heap.size := row_lt (by intro e; rw [e] at hs; simp at hs)
  have e := Below_row hb hbl
  exact ⟨hl, hr, hc, by rw [e]; exact hs, by rw [e]; exact hg⟩
def PutC (P : Prt → Prop) (f : FuncId) : Prop := ∀ p, P p → ∀ w, Calls Try.prog f #[.agg (pa p)] w (PutRes p w.heap.size w)
theorem put_c {f : FuncId} (hf : PutC putOk f) {p : Prt} (h : putOk p) {W d : World} {R : Ending → World → Prop}
    (k : ∀ W1 v, (∀ d, (gr W1 d).ownsRow 0 5 1 v 10 ((bytesP p).map (.int .u8))) → (∀ d, ∃ d', gr W1 d = gr W d') → R (.returned (.tuple #[v, .bool true])) (gr W1 W1)) : Calls Try.prog f #[.agg (pa p)] (gr W d) R :=
  (hf p h _).mono fun e w' hr => by
    obtain ⟨v, rfl, hown, hb, _⟩ := hr
    rw [gr_self w']
    refine k w' v (ownsRow_gr (own_mono hown (Nat.zero_le _))) fun d' => ?_
    exact gr_ext (hb.trans ((gr_below w' d').mono hb.size))
theorem own_ten {w : World} {v : Value} {p : Prt} (h : w.ownsRow 0 5 1 v 10 ((bytesP p).map (.int .u8))) (hp : putOk p) : ∃ g cap, v = .slice (some ⟨g, 0, none⟩) 10 cap ∧ 10 ≤ cap ∧ TenAt w g 0 (bytesP p) p.c := by
  obtain ⟨h1, ⟨_, h0⟩ | ⟨g, cap, cur, hv, _, hh, hc, _, hsz, htk⟩⟩ := h
  · cases h0
  have hrow : row? w g = cur := by unfold row?; rw [hh]; rfl
  have hlen := bytesP_length p
  refine ⟨g, cap, hv, hc, hlen, ?_, ?_, by rw [hrow, hsz]; omega, fun k hk => ?_⟩
  · intro x hx
    obtain ⟨h1, h2⟩ := hp
    simp only [bytesP, List.mem_append, List.mem_cons, List.not_mem_nil, or_false] at hx
    rcases hx with hx | rfl | rfl
    · exact p.c.r x hx
    · omega
    · omega
  · rw [bytesP, List.take_append_of_le_length (by rw [p.c.h]; omega), List.take_of_length_le (by rw [p.c.h]; omega)]
  · rw [hrow, Nat.zero_add]
    have h3 : (cur.toList.take (10 * 1))[k]? = cur.toList[k]? := by rw [List.getElem?_take]; simp; omega
    rw [← Array.getElem?_toList, ← h3, htk]
    simp [show k < (bytesP p).length by omega]
theorem portB_bytesP (p : Prt) : portB (bytesP p) p.c = p := by
  obtain ⟨c, n⟩ := p
  have e8 : (bytesP ⟨c, n⟩).getD 8 0 = n / 256 := by
    unfold bytesP
    rw [List.getD_eq_getElem?_getD, List.getElem?_append_right (by rw [c.h]; omega)]
    simp [c.h]
  have e9 : (bytesP ⟨c, n⟩).getD 9 0 = n % 256 := by
    unfold bytesP
    rw [List.getD_eq_getElem?_getD, List.getElem?_append_right (by rw [c.h]; omega)]
    simp [c.h]
  unfold portB
  rw [e8, e9]
  congr 1
  omega
/-- What Get answers. -/
theorem get_any {f : FuncId} (h1 : ∀ a len cap, len ≠ 10 → Fn Try.prog f #[.slice a len cap] (.tuple #[.agg (pa zeroP), .bool false]))
    (h2 : ∀ b off cap, 10 ≤ cap → ∀ l c w, TenAt w b off l c → Calls Try.prog f #[.slice (some ⟨b, off, none⟩) 10 cap] w fun e w' => e = .returned (.tuple #[.agg (pa (portB l c)), .bool true]) ∧ Below w.heap.size w w')
    {a : Option Addr} {len cap : Nat} (hc : len ≤ cap) {w : World} {q : Prt} {ok : Bool} (hq : (len ≠ 10 ∧ q = zeroP ∧ ok = false) ∨ ∃ b off l c, len = 10 ∧ a = some ⟨b, off, none⟩ ∧ TenAt w b off l c ∧ q = portB l c ∧ ok = true)
    {d : World} {R : Ending → World → Prop} (k : ∀ m, R (.returned (.tuple #[.agg (pa q), .bool ok])) (gr w m)) : Calls Try.prog f #[.slice a len cap] (gr w d) R := by
  rcases hq with ⟨hn, rfl, rfl⟩ | ⟨b, off, l, c, rfl, rfl, ht, rfl, rfl⟩
  · exact (h1 a len cap hn).c k
  · exact (h2 b off cap hc l c _ (ht.up (gr_below w d))).mono fun e w' ⟨he, hb⟩ => by
      obtain ⟨m, rfl⟩ := gr_ext hb
      subst he
      exact k m
/-- What a slice of bytes is as a port. -/
theorem sl_cases {w : World} {a : Option Addr} {len : Nat} (h : SlArg w a len) : ∃ q ok, (len ≠ 10 ∧ q = zeroP ∧ ok = false) ∨ ∃ b off l c, len = 10 ∧ a = some ⟨b, off, none⟩ ∧ TenAt w b off l c ∧ q = portB l c ∧ ok = true := by
  by_cases e : len = 10
  · obtain ⟨b, off, l, c, ha, ht⟩ := h e
    exact ⟨_, _, .inr ⟨b, off, l, c, e, ha, ht, rfl, rfl⟩⟩
  · exact ⟨_, _, .inl ⟨e, rfl, rfl⟩⟩
theorem sl_up {w w' : World} {a : Option Addr} {len : Nat} {q : Prt} {ok : Bool} (h : (len ≠ 10 ∧ q = zeroP ∧ ok = false) ∨ ∃ b off l c, len = 10 ∧ a = some ⟨b, off, none⟩ ∧ TenAt w b off l c ∧ q = portB l c ∧ ok = true) (hb : Below w.heap.size w w') :
    (len ≠ 10 ∧ q = zeroP ∧ ok = false) ∨ ∃ b off l c, len = 10 ∧ a = some ⟨b, off, none⟩ ∧ TenAt w' b off l c ∧ q = portB l c ∧ ok = true := by
  rcases h with h | ⟨b, off, l, c, h1, h2, h3, h4, h5⟩
  · exact .inl h
  · exact .inr ⟨b, off, l, c, h1, h2, h3.up hb, h4, h5⟩

theorem upP {W0 W1 : World} (u : ∀ d, ∃ d', gr W1 d = gr W0 d') {T : World → Prop} (h : ∀ d, T (gr W0 d)) : ∀ d, T (gr W1 d) := fun d => by
  obtain ⟨d', e⟩ := u d
  rw [e]; exact h d'

set_option maxRecDepth 100000 in
set_option maxHeartbeats 3200000 in
theorem bytes_fn (p : Prt) (a : Option Addr) (len cap : Nat) (hcap : len ≤ cap) (w : World) (hS : SlArg w a len) :
    Calls Try.prog 7 #[.agg (pa p), .slice a len cap] w fun e w' => e = .returned (.bool true) ∧ Below w.heap.size w w' := by
  obtain ⟨q, ok, hq⟩ := sl_cases hS
  clear hS
  go_enter Try.func7, Try.ntmps7
  have HQ := hid hq
  clear hq
  by_cases hp : putOk p
  · go_wp2_with fail
    refine cutc_box1 fun W g0 _ _ hB => ?_
    refine put_c put_ok hp fun W1 v hv u1 => ?_
    dsimp only
    replace g0 := upr u1 g0
    replace hB := upb u1 hB
    go_wp2_with fail
    refine put_c rput_ok hp fun W2 v2 hv2 u2 => ?_
    dsimp only
    replace g0 := upr u2 g0
    replace hB := upb u2 hB
    have hv : ∀ d, (gr W2 d).ownsRow 0 5 1 v 10 ((bytesP p).map (.int .u8)) := fun d => by
      obtain ⟨d', e⟩ := u2 d
      rw [e]; exact hv d'
    clear u1 u2
    have HV := hid hv
    have HV2 := hid hv2
    clear hv hv2
    go_wp2_with fail
    have hq2 := sl_up HQ.out (hB W2)
    rw [← gr_self W2] at hq2
    refine get_any get_no get_ok hcap hq2 fun m => ?_
    dsimp only
    go_wp2_with fail
    obtain ⟨W3, hE, r3, o3, u3, _⟩ := newblk W2 m (pa zeroP) (pa q) 35 (by simp)
    rw [hE]
    clear hE
    generalize (gr W2 m).heap.size = b3 at *
    replace hq2 := sl_up HQ.out (upb u3 hB W3)
    rw [← gr_self W3] at hq2
    refine get_any rget_no (fun b off cap _ => rget_ok b off cap) hcap hq2 fun m => ?_
    dsimp only
    go_wp2_with fail
    obtain ⟨W4, hE, r4, o4, u4, _⟩ := newblk W3 m (pa zeroP) (pa q) 35 (by simp)
    rw [hE]
    clear hE
    generalize (gr W3 m).heap.size = b4 at *
    replace g0 := upr u4 (upr u3 g0)
    replace hB := upb u4 (upb u3 hB)
    replace r3 := upr u4 r3
    have hv := upP u4 (T := fun w => w.ownsRow 0 5 1 v 10 ((bytesP p).map (.int .u8))) (upP u3 (T := fun w => w.ownsRow 0 5 1 v 10 ((bytesP p).map (.int .u8))) HV.out)
    have hv2 := upP u4 (T := fun w => w.ownsRow 0 5 1 v2 10 ((bytesP p).map (.int .u8))) (upP u3 (T := fun w => w.ownsRow 0 5 1 v2 10 ((bytesP p).map (.int .u8))) HV2.out)
    have c1 := fun d => run_convert_own Try.underlying39 Try.underlying5 (hv d) 9 Try.underlying9
    have c2 := fun d => run_convert_own Try.underlying39 Try.underlying5 (hv2 d) 9 Try.underlying9
    clear HV HV2 o3 o4 u3 u4
    have HV := hid hv
    clear hv hv2
    go_wp2_with fail
    rw [c1]
    go_wp2_with fail
    clear c1 c2
    obtain ⟨g, cap2, rfl, hc2, ht⟩ := own_ten (HV.out W4) hp
    rw [← gr_self W4] at ht
    refine get_any get_no get_ok hc2 (.inr ⟨g, 0, _, _, rfl, rfl, ht, (portB_bytesP p).symm, rfl⟩) fun m => ?_
    clear ht
    dsimp only
    go_wp2_with fail
    obtain ⟨W5, hE, r5, o5, u5, _⟩ := newblk W4 m (pa zeroP) (pa p) 35 (by simp)
    rw [hE]
    clear hE
    generalize (gr W4 m).heap.size = b5 at *
    replace g0 := upr u5 g0
    replace hB := upb u5 hB
    clear HV u5 o5
    refine alive_fn.c fun m => ?_
    dsimp only
    go_wp2
    go_ret
    exact ⟨rfl, hB _⟩
  · go_wp2_with fail
    refine cutc_box1 fun W g0 _ _ hB => ?_
    refine (put_no p hp).c fun m => ?_
    dsimp only
    go_wp2_with fail
    refine (rput_no p hp).c fun m => ?_
    dsimp only
    go_wp2_with fail
    have hq2 := sl_up HQ.out (hB W)
    rw [← gr_self W] at hq2
    refine get_any get_no get_ok hcap hq2 fun m => ?_
    dsimp only
    go_wp2_with fail
    obtain ⟨W3, hE, r3, o3, u3, _⟩ := newblk W m (pa zeroP) (pa q) 35 (by simp)
    rw [hE]
    clear hE
    generalize (gr W m).heap.size = b3 at *
    replace hq2 := sl_up HQ.out (upb u3 hB W3)
    rw [← gr_self W3] at hq2
    refine get_any rget_no (fun b off cap _ => rget_ok b off cap) hcap hq2 fun m => ?_
    dsimp only
    go_wp2_with fail
    obtain ⟨W4, hE, r4, o4, u4, _⟩ := newblk W3 m (pa zeroP) (pa q) 35 (by simp)
    rw [hE]
    clear hE
    generalize (gr W3 m).heap.size = b4 at *
    replace g0 := upr u4 (upr u3 g0)
    replace hB := upb u4 (upb u3 hB)
    replace r3 := upr u4 r3
    have c1 := fun d => run_convert_bytes_nil (gr W4 d) 39 5 Try.underlying39 Try.underlying5 0 0 9 Try.underlying9
    clear o3 o4 u3 u4
    go_wp2_with fail
    rw [c1]
    go_wp2_with fail
    clear c1
    refine (get_no none 0 0 (by decide)).c fun m => ?_
    dsimp only
    go_wp2_with fail
    obtain ⟨W5, hE, r5, o5, u5, _⟩ := newblk W4 m (pa zeroP) (pa zeroP) 35 (by simp)
    rw [hE]
    clear hE
    generalize (gr W4 m).heap.size = b5 at *
    replace g0 := upr u5 g0
    replace hB := upb u5 hB
    clear u5 o5
    refine alive_fn.c fun m => ?_
    dsimp only
    go_wp2
    go_ret
    exact ⟨rfl, hB _⟩
end Go.Proofs.Ytdamljmbnkdjfaa
