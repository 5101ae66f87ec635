/-
  The walk of the law IdentSame: it answers true. No condition.
-/
import Derived.Test.YtdamljmbnkdjfaaIdM
import Derived.Test.YtdamljmbnkdjfaaIdC
namespace Go.Proofs.Ytdamljmbnkdjfaa
open Go.RowKit

/-! ### The order of texts and of bytes is the order of clocks and ports -/
theorem less_nums : ∀ (l m : List Int), l.length = m.length → (∀ x ∈ l, 0 ≤ x ∧ x < 256) → (∀ x ∈ m, 0 ≤ x ∧ x < 256) →
    Op.bytesLess (l.map fun n => UInt8.ofNat n.toNat) (m.map fun n => UInt8.ofNat n.toNat) = decide (cmpL l m < 0)
  | [], [], _, _, _ => by simp [Op.bytesLess, cmpL]
  | a :: l, b :: m, h, hl, hm => by
    have ih := less_nums l m (by simpa using h) (fun x hx => hl x (by simp [hx])) (fun x hx => hm x (by simp [hx]))
    have ha := hl a (by simp)
    have hb := hm b (by simp)
    have h1 : (UInt8.ofNat a.toNat < UInt8.ofNat b.toNat) ↔ a < b := by
      rw [UInt8.lt_iff_toNat_lt]
      simp
      omega
    have h2 : (UInt8.ofNat a.toNat == UInt8.ofNat b.toNat) = decide (a = b) := by
      rw [Bool.eq_iff_iff]
      simp only [beq_iff_eq, decide_eq_true_eq, ← UInt8.toNat_inj]
      simp
      omega
    have hc : cmpL (a :: l) (b :: m) = if a = b then cmpL l m else cmpI a b := rfl
    simp only [List.map_cons, Op.bytesLess, hc, h1, h2, ih]
    by_cases e : a = b
    · simp [e]
    · simp [e, cmpI_lt]
theorem less_str (l m : List Int) (h : l.length = m.length) (hl : ∀ x ∈ l, 0 ≤ x ∧ x < 256) (hm : ∀ x ∈ m, 0 ≤ x ∧ x < 256) :
    Op.bytesLess (strOfNums l).toList (strOfNums m).toList = decide (cmpL l m < 0) := by
  rw [ByteArray.toList_eq, ByteArray.toList_eq, strOfNums_data, strOfNums_data, less_nums l m h hl hm]
theorem cmpL_append : ∀ (l m a b : List Int), l.length = m.length → cmpL (l ++ a) (m ++ b) = if cmpL l m ≠ 0 then cmpL l m else cmpL a b
  | [], [], _, _, _ => by simp [cmpL]
  | x :: l, y :: m, a, b, h => by
    have ih := cmpL_append l m a b (by simpa using h)
    simp only [List.cons_append, cmpL, ih]
    by_cases e : x = y
    · simp [e]
    · have : cmpI x y ≠ 0 := fun h => e ((cmpI_zero x y).1 h)
      simp [e, this]
theorem cmpL_hex : ∀ (l m : List Int), l.length = m.length → (∀ x ∈ l, 0 ≤ x ∧ x < 256) → (∀ x ∈ m, 0 ≤ x ∧ x < 256) → cmpL (hexL l) (hexL m) = cmpL l m
  | [], [], _, _, _ => rfl
  | a :: l, b :: m, h, hl, hm => by
    have ih := cmpL_hex l m (by simpa using h) (fun x hx => hl x (by simp [hx])) (fun x hx => hm x (by simp [hx]))
    have ha := hl a (by simp)
    have hb := hm b (by simp)
    show cmpL (hexd (a / 16) :: hexd (a % 16) :: hexL l) (hexd (b / 16) :: hexd (b % 16) :: hexL m) = _
    simp only [cmpL, ih]
    by_cases e : a = b
    · simp [e]
    · rw [if_neg e]
      unfold hexd cmpI
      repeat' split
      all_goals omega
theorem less_text (c d : Clk) : Op.bytesLess (strOfNums (hexL c.l)).toList (strOfNums (hexL d.l)).toList = decide (cmpC c d < 0) := by
  rw [less_str _ _ (by rw [hexL_length, hexL_length, c.h, d.h]) (hexL_rng _ c.r) (hexL_rng _ d.r), cmpL_hex _ _ (by rw [c.h, d.h]) c.r d.r]
  rfl
theorem bytesP_rng {p : Prt} (h : putOk p) : ∀ x ∈ bytesP p, 0 ≤ x ∧ x < 256 := by
  intro x hx
  obtain ⟨h1, h2⟩ := h
  simp only [bytesP, List.mem_append, List.mem_cons, List.not_mem_nil, or_false] at hx
  rcases hx with hx | rfl | rfl
  · exact p.c.r x hx
  · omega
  · omega
theorem less_bytes {p q : Prt} (hp : putOk p) (hq : putOk q) : Op.bytesLess (strOfNums (bytesP p)).toList (strOfNums (bytesP q)).toList = decide (cmpP p q < 0) := by
  rw [less_str _ _ (by rw [bytesP_length, bytesP_length]) (bytesP_rng hp) (bytesP_rng hq)]
  unfold bytesP
  rw [cmpL_append _ _ _ _ (by rw [p.c.h, q.c.h])]
  have : cmpL [p.n / 256, p.n % 256] [q.n / 256, q.n % 256] = cmpI p.n q.n := by
    simp only [cmpL]
    unfold cmpI
    obtain ⟨h1, h2⟩ := hp
    obtain ⟨h3, h4⟩ := hq
    repeat' split
    all_goals omega
  rw [this]
  rfl
instance (p : Prt) : Decidable (putOk p) := by unfold putOk; exact inferInstance
theorem put_any {f : FuncId} (h1 : ∀ p, ¬ putOk p → Fn Try.prog f #[.agg (pa p)] (.tuple #[.slice none 0 0, .bool false])) (h2 : PutC putOk f) (p : Prt) {W d : World} {R : Ending → World → Prop}
    (k : ∀ W1 v, (∀ d, decide (putOk p) = true → (gr W1 d).ownsRow 0 5 1 v 10 ((bytesP p).map (.int .u8))) → (∀ d, ∃ d', gr W1 d = gr W d') → R (.returned (.tuple #[v, .bool (decide (putOk p))])) (gr W1 W1)) : Calls Try.prog f #[.agg (pa p)] (gr W d) R := by
  by_cases h : putOk p
  · refine put_c h2 h fun W1 v hv hu => ?_
    have := k W1 v (fun d _ => hv d) hu
    rwa [decide_eq_true h] at this
  · refine (h1 p h).c fun m => ?_
    have := k (gr W m) (.slice none 0 0) (fun d hh => absurd (of_decide_eq_true hh) h) fun d => gr_ex ((gr_below W m).trans ((gr_below _ d).mono (gr_below W m).size))
    rw [decide_eq_false h, ← gr_self] at this
    exact this

set_option maxRecDepth 100000 in
set_option maxHeartbeats 3200000 in
theorem same_fn (p q : Prt) (m : Mac) : Fn Try.prog 9 #[.agg (pa p), .agg (pa q), .agg (ma m)] (.bool true) := by
  intro w
  obtain ⟨n, hn⟩ : ∃ n, n = cmpC p.c q.c := ⟨_, rfl⟩
  obtain ⟨k, hk⟩ : ∃ n, n = cmpP p q := ⟨_, rfl⟩
  have f1 := (cmpC_fn p.c q.c).at_eq (congrArg (Value.int .i64) hn.symm)
  have f3 := (cmpP_fn p q).at_eq (congrArg (Value.int .i64) hk.symm)
  have lt := less_text p.c q.c
  rw [← hn] at lt
  have lb := @less_bytes p q
  rw [← hk] at lb
  have F1_ := hid f1
  clear f1
  have F3_ := hid f3
  clear f3
  have LB_ := hid lb
  clear lb
  clear hn hk
  go_enter Try.func9, Try.ntmps9
  go_wp2_with fail
  refine cutc_box3 fun W g0 _ g1 _ g2 _ _ hB => ?_
  refine put_any put_no put_ok p fun W1 v hv u1 => ?_
  dsimp only
  replace g0 := upr u1 g0
  replace g1 := upr u1 g1
  replace g2 := upr u1 g2
  replace hB := upb u1 hB
  go_wp2_with fail
  refine put_any put_no put_ok q fun W2 v2 hv2 u2 => ?_
  dsimp only
  replace g0 := upr u2 g0
  replace g1 := upr u2 g1
  replace g2 := upr u2 g2
  replace hB := upb u2 hB
  replace hv := upP u2 (T := fun w => decide (putOk p) = true → w.ownsRow 0 5 1 v 10 ((bytesP p).map (.int .u8))) hv
  have lb2 : decide (putOk p) = true → decide (putOk q) = true → Op.bytesLess (strOfNums (bytesP p)).toList (strOfNums (bytesP q)).toList = decide (k < 0) := fun h1 h2 => LB_.out (of_decide_eq_true h1) (of_decide_eq_true h2)
  clear u1 u2 LB_
  generalize decide (putOk p) = o1 at *
  generalize decide (putOk q) = o2 at *
  have HV := hid hv
  have HV2 := hid hv2
  have HL := hid lb2
  clear hv hv2 lb2
  go_wp2_with fail
  replace g2 : ∀ d, row? (gr W2 d) (w.heap.size + 1 + 1) = ma m := g2
  cases o1 <;> cases o2
  rotate_right
  · have c1 := fun d => run_convert_own Try.underlying39 Try.underlying5 (HV.out d rfl) 9 Try.underlying9
    have c2 := fun d => run_convert_own Try.underlying39 Try.underlying5 (HV2.out d rfl) 9 Try.underlying9
    have lb := HL.out rfl rfl
    clear HV HV2 HL
    refine wp_region_gr W2 (by kernel_rfl) (by kernel_rfl) ⟨_, rfl⟩ ?_
    repeat (go_big_quiet_step (((go_at_call 18; exact F3_.out.q))))
    refine wpQuiet_nil ?_
    rintro _ ⟨y, rfl⟩
    clear c1 c2 lb
    go_wp2_with fail
    refine (of_fn m).c fun m3 => ?_
    dsimp only
    go_wp2_with fail
    obtain ⟨W3, hE, r3, o3, u3, _⟩ := newblk W2 m3 (ca zeroC) (ca (ofM m)) 23 (by simp)
    rw [hE]
    clear hE
    generalize (gr W2 m3).heap.size = b3 at *
    replace g0 := upr u3 g0
    replace g1 := upr u3 g1
    replace g2 := upr u3 g2
    replace hB := upb u3 hB
    clear o3 u3
    refine wp_region_gr W3 (by kernel_rfl) (by kernel_rfl) ⟨_, rfl⟩ ?_
    repeat (go_big_quiet_step ((first | (go_at_call 13; exact alive_fn.q) | (go_at_call 17; exact F1_.out.q) | (go_at_call 12; exact (text_fn _).q) | (go_at_call 25; exact (rof_fn _).q))))
    refine wpQuiet_nil ?_
    rintro _ ⟨y, rfl⟩
    go_wp2
    go_ret
    exact ⟨rfl, hB _⟩
  all_goals
    clear HV HV2 HL
    refine wp_region_gr W2 (by kernel_rfl) (by kernel_rfl) ⟨_, rfl⟩ ?_
    repeat (go_big_quiet_step (((go_at_call 18; exact F3_.out.q))))
    refine wpQuiet_nil ?_
    rintro _ ⟨y, rfl⟩
    go_wp2_with fail
    refine (of_fn m).c fun m3 => ?_
    dsimp only
    go_wp2_with fail
    obtain ⟨W3, hE, r3, o3, u3, _⟩ := newblk W2 m3 (ca zeroC) (ca (ofM m)) 23 (by simp)
    rw [hE]
    clear hE
    generalize (gr W2 m3).heap.size = b3 at *
    replace g0 := upr u3 g0
    replace g1 := upr u3 g1
    replace g2 := upr u3 g2
    replace hB := upb u3 hB
    clear o3 u3
    refine wp_region_gr W3 (by kernel_rfl) (by kernel_rfl) ⟨_, rfl⟩ ?_
    repeat (go_big_quiet_step ((first | (go_at_call 13; exact alive_fn.q) | (go_at_call 17; exact F1_.out.q) | (go_at_call 12; exact (text_fn _).q) | (go_at_call 25; exact (rof_fn _).q))))
    refine wpQuiet_nil ?_
    rintro _ ⟨y, rfl⟩
    go_wp2
    go_ret
    exact ⟨rfl, hB _⟩
end Go.Proofs.Ytdamljmbnkdjfaa
