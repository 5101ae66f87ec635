/-
  The reference's Pick walked. No condition.
-/
import Derived.Test.YtbdpnmocbpplbaaQuY
import Derived.Test.YtbdpnmocbpplbaaRegY
namespace Go.Proofs.Ytbdpnmocbpplbaa
open Go.RowKit Go.Conc

theorem results_cell3 {P : Program} {fn : Func} {t t2 ty ty2 b b2 u : Nat} {tmps : Array Value} {w : World} {v v2 : Value} (h : fn.results = #[.cell t ty, .cell t2 ty2, .tmp u]) (ht : tmps.getD t undef = .pointer (some ⟨b, 0, none⟩)) (ht2 : tmps.getD t2 undef = .pointer (some ⟨b2, 0, none⟩)) (hv : (ldAt ty (.pointer (some ⟨b, 0, none⟩))).run P w = .ok v w) (hv2 : (ldAt ty2 (.pointer (some ⟨b2, 0, none⟩))).run P w = .ok v2 w) : (results fn tmps).run P w = .ok (.tuple #[v, v2, tmps.getD u undef]) w := by
  have hv' : (loadVar ty ⟨b, 0, none⟩).run P w = .ok v w := by
    unfold ldAt Instr.loadAt at hv
    simpa [Instr.sureAddr] using hv
  have hv2' : (loadVar ty2 ⟨b2, 0, none⟩).run P w = .ok v2 w := by
    unfold ldAt Instr.loadAt at hv2
    simpa [Instr.sureAddr] using hv2
  have ht' : tmps[t]?.getD undef = .pointer (some ⟨b, 0, none⟩) := by simpa using ht
  have ht2' : tmps[t2]?.getD undef = .pointer (some ⟨b2, 0, none⟩) := by simpa using ht2
  simp [results, h, ht', ht2', asAddr, Sem.run_bind, hv', hv2']
def keptR (keep : Nat → Bool) (zs : List ItR) : Nat → List ItR
  | 0 => []
  | k + 1 => keptR keep zs k ++ if keep k then [zs.getD k zeroR] else []
theorem keptR_len (keep : Nat → Bool) (zs : List ItR) : ∀ n, (keptR keep zs n).length ≤ n
  | 0 => Nat.le_refl _
  | n + 1 => by
    have := keptR_len keep zs n
    unfold keptR
    split <;> simp <;> omega
theorem keptR_sub (keep : Nat → Bool) (zs : List ItR) : ∀ n, n ≤ zs.length → ∀ x ∈ keptR keep zs n, x ∈ zs
  | 0, _, x, hx => by simp [keptR] at hx
  | n + 1, h, x, hx => by
    unfold keptR at hx
    rcases List.mem_append.1 hx with h1 | h1
    · exact keptR_sub keep zs n (by omega) x h1
    · split at h1
      · rw [List.mem_singleton.1 h1]
        exact memR (by omega)
      · simp at h1
theorem itms_keptR (keep : Nat → Bool) (zs : List ItR) : ∀ n, n ≤ zs.length → itms (keptR keep zs n) = keptN keep (itms zs) n
  | 0, _ => rfl
  | n + 1, h => by
    have ih := itms_keptR keep zs n (by omega)
    unfold keptR keptN
    rw [← ih, itms_getD zs n (by omega)]
    cases keep n <;> simp [itms]
def neK (p : Int) (k : Nat) : Bool := decide ((k : Int) ≠ p)
attribute [local go_sem] run_bsR1 run_bsR0 run_bsB0
set_option maxRecDepth 100000 in
set_option maxHeartbeats 2000000 in
theorem rpick_c (m : Int) (zs : List ItR) (a : Option Addr) (c : Nat) (p : Int) (w : World) (h : RL w a zs) (hl : zs.length ≤ 900) :
    Calls Try.prog 29 #[.agg (qa m a zs.length c), .int .i64 p] w fun e w' => ∃ a' c', e = .returned (.tuple #[.agg (qa m a' (keptR (neK p) zs zs.length).length c'), .agg (fR (lookR p zs)), .bool (inR p zs.length)]) ∧ RL w' a' (keptR (neK p) zs zs.length) ∧ Below w.heap.size w w' ∧ Org w a zs a' (keptR (neK p) zs zs.length) := by
  have H_ := hid h
  clear h
  go_enter Try.func29, Try.ntmps29
  go_upto_region 1 with (fail)
  obtain ⟨W1, hW1⟩ : ∃ W1, ((w.alloc (.cells (qa m a zs.length c) 47)).alloc (.cells (ic 0 none 0 0) 47)).alloc (.cells (ic 0 none 0 0) 30) = W1 := ⟨_, rfl⟩
  have hb1 : Below w.heap.size w W1 := by rw [← hW1]; exact (((Below.refl _ _).alloc (Nat.le_refl _) _).alloc (by simp) _).alloc (by simp; omega) _
  have r0 : row? W1 w.heap.size = qa m a zs.length c := by
    rw [← hW1]
    simp [row_alloc, rowOf]
    intro e
    omega
  have r1 : row? W1 (w.heap.size + 1) = ic 0 none 0 0 := by rw [← hW1]; simp [row_alloc, rowOf]
  have r2 : row? W1 (w.heap.size + 1 + 1) = ic 0 none 0 0 := by rw [← hW1]; simp [row_alloc, rowOf]
  have o0 : own? W1 w.heap.size = true := by rw [← hW1]; simp [own_alloc, ownOf]
  have o1 : own? W1 (w.heap.size + 1) = true := by rw [← hW1]; simp [own_alloc, ownOf]
  have o2 : own? W1 (w.heap.size + 1 + 1) = true := by rw [← hW1]; simp [own_alloc, ownOf]
  rw [hW1]
  clear hW1
  have hs1 : w.heap.size + 1 + 1 < W1.heap.size := own_lt o2
  have h1 := H_.out.below hb1
  have hlk := rlook_c m zs a c p W1 h1
  have HB1_ := hid hb1
  clear hb1
  have H1_ := hid h1
  clear h1
  have HLK_ := hid hlk
  clear hlk
  go_wp2_with fail
  refine HLK_.out.mono ?_
  rintro e w2 ⟨rfl, b2⟩
  dsimp only
  go_upto_region 2 with (fail)
  obtain ⟨w3, hE, r3, o3, b3, lt3⟩ := newb w2 (ic 0 none 0 0) (fR (lookR p zs)) 30 (by simp)
  rw [hE]
  have b13 : Below W1.heap.size W1 w3 := b2.trans (b3.mono b2.size)
  have hsz2 := b2.size
  have q0 : row? w3 w.heap.size = qa m a zs.length c := (row_of_block (b13.block _ (by omega))).trans r0
  have p0 : own? w3 w.heap.size = true := (own_of_block (b13.block _ (by omega))).trans o0
  have q1 : row? w3 (w.heap.size + 1) = ic 0 none 0 0 := (row_of_block (b13.block _ (by omega))).trans r1
  have p1 : own? w3 (w.heap.size + 1) = true := (own_of_block (b13.block _ (by omega))).trans o1
  have q2 : row? w3 (w.heap.size + 1 + 1) = ic 0 none 0 0 := (row_of_block (b13.block _ (by omega))).trans r2
  have p2 : own? w3 (w.heap.size + 1 + 1) = true := (own_of_block (b13.block _ (by omega))).trans o2
  have h3 := H1_.out.below b13
  have hb3 : Below w.heap.size w w3 := HB1_.out.trans (b13.mono HB1_.out.size)
  have hnb : w.heap.size + 1 + 1 < w2.heap.size := by omega
  clear hE HLK_ b2 b3 b13 H1_ HB1_ r0 r1 r2 o0 o1 o2 hs1 hsz2
  generalize w2.heap.size = nb at *
  generalize hlkE : lookR p zs = lk at *
  generalize hibE : inR p zs.length = ib at *
  clear W1 w2
  have hs3 := own_lt p2
  have HLKE_ := hid hlkE
  clear hlkE
  have HIBE_ := hid hibE
  clear hibE
  have H3_ := hid h3
  clear h3
  have HB3_ := hid hb3
  clear hb3
  have HNB_ := hid hnb
  clear hnb
  have P0_ := hid p0
  clear p0
  have Q1_ := hid q1
  clear q1
  have P1_ := hid p1
  clear p1
  have Q2_ := hid q2
  clear q2
  have P2_ := hid p2
  clear p2
  have R3_ := hid r3
  clear r3
  have O3_ := hid o3
  clear o3
  have LT3_ := hid lt3
  clear lt3
  have HS3_ := hid hs3
  clear hs3
  have Q0_ := hid q0
  clear q0
  go_wp2
  go_loopw [9, 10] (fun v i wr => ∃ k : Nat, k ≤ zs.length ∧ i = .int .i64 k ∧ wr.ownsRow w3.heap.size 30 2 v (keptR (neK p) zs k).length (rowsL fR (keptR (neK p) zs k)) ∧ Below w3.heap.size w3 wr) (fun _ i _ => zs.length - (intOf i).toNat)
  case atStart => exact ⟨0, by omega, rfl, World.ownsRow_nil _ _ _ _, Below.refl _ _⟩
  case round =>
    obtain ⟨k, hk, rfl, hown, hbl⟩ := hrel
    have e0 : row? wr w.heap.size = qa m a zs.length c := (row_of_block (hbl.block _ (by have := HS3_.out; omega))).trans Q0_.out
    by_cases hkt : k < zs.length
    · have hrl := H3_.out.below hbl
      obtain ⟨g, off, rfl, hr⟩ := hrl.row.at (by intro e; rw [e] at hkt; simp at hkt)
      obtain ⟨s1, s2⟩ := hr k hkt
      have hkt' : (k : Int) < (zs.length : Int) := by omega
      have hle : (keptR (neK p) zs k).length ≤ 1000 := by have := keptR_len (neK p) zs k; omega
      have hkn : keptR (neK p) zs (k + 1) = keptR (neK p) zs k ++ if neK p k then [zs.getD k zeroR] else [] := rfl
      have hbs := hbl.size
      clear hrl hr
      generalize zs.getD k zeroR = z at *
      by_cases hkp : (k : Int) = p
      · have hnk : neK p k = false := decide_eq_false (by simpa using hkp)
        rw [hnk, if_neg (by simp), List.append_nil] at hkn
        subst hkp
        clear hnk hle
        have HOWN_ := hid hown
        clear hown
        have HBL_ := hid hbl
        clear hbl
        have HKN_ := hid hkn
        clear hkn
        have HBS_ := hid hbs
        clear hbs
        have S1_ := hid s1
        clear s1
        have S2_ := hid s2
        clear s2
        go_wp2
        refine ⟨⟨k + 1, by omega, by go_num, ?_, HBL_.out⟩, by simp [intOf]; omega⟩
        rw [HKN_.out]
        exact HOWN_.out
      · have hnk : neK p k = true := decide_eq_true hkp
        rw [hnk, if_pos rfl] at hkn
        obtain ⟨v', w', hrun, ho', hb'⟩ := app_one z _ hle hown hbs
        have n1 : ¬ w.heap.size = wr.heap.size := by have := HS3_.out; omega
        have hkp' : ((k : Int) == p) = false := by simpa using hkp
        rw [← hkn] at ho'
        obtain ⟨_, a', c', rfl, _, _⟩ := own_rows2 hown
        obtain ⟨_, a'', c'', rfl, _, _⟩ := own_rows2 ho'
        have hbl' : Below w3.heap.size w3 w' := hbl.trans hb'
        clear hnk hle hown hb' hbl hbs
        have HRUN_ := hid hrun
        clear hrun
        have HO'_ := hid ho'
        clear ho'
        have HKN_ := hid hkn
        clear hkn
        have HBL'_ := hid hbl'
        clear hbl'
        have HKP'_ := hid hkp'
        clear hkp'
        go_wp2_with (at_builtin; refine wpList_append_run rfl _ _ 22 rfl _ _ rfl rfl HRUN_.out ?_)
        exact ⟨⟨k + 1, by omega, by go_num, HO'_.out, HBL'_.out⟩, by simp [intOf]; omega⟩
    · obtain rfl : k = zs.length := by omega
      obtain ⟨_, a3, c3, rfl, hrow3, hge3⟩ := own_rows2 hown
      have hs3 := HS3_.out
      have hsw := hbl.size
      have hrs : ∀ V, Below w.heap.size w V → ∀ x ∈ keptR (neK p) zs zs.length, PdR V x := fun V hV x hx => (H_.out.below hV).ok x (keptR_sub _ _ _ (Nat.le_refl _) x hx)
      generalize hksE : keptR (neK p) zs zs.length = ks at *
      have t0 : own? wr w.heap.size = true := (own_of_block (hbl.block _ (by omega))).trans P0_.out
      have e1 : row? wr (w.heap.size + 1) = ic 0 none 0 0 := (row_of_block (hbl.block _ (by omega))).trans Q1_.out
      have t1 : own? wr (w.heap.size + 1) = true := (own_of_block (hbl.block _ (by omega))).trans P1_.out
      have e2 : row? wr (w.heap.size + 1 + 1) = ic 0 none 0 0 := (row_of_block (hbl.block _ hs3)).trans Q2_.out
      have t2 : own? wr (w.heap.size + 1 + 1) = true := (own_of_block (hbl.block _ hs3)).trans P2_.out
      have e3 : row? wr nb = fR lk := (row_of_block (hbl.block _ LT3_.out)).trans R3_.out
      have hbw : Below w.heap.size w wr := HB3_.out.trans (hbl.mono HB3_.out.size)
      have hnb := HNB_.out
      have lt3 := LT3_.out
      clear hown hbl H3_ HB3_ HNB_ P0_ Q1_ P1_ Q2_ P2_ R3_ O3_ LT3_ HS3_ Q0_ H_
      have HKSE_ := hid hksE
      clear hksE
      have HGE3_ := hid hge3
      clear hge3
      have HROW3_ := hid hrow3
      clear hrow3
      have HSW_ := hid hsw
      clear hsw
      have HRS_ := hid hrs
      clear hrs
      have T1_ := hid t1
      clear t1
      have E1_ := hid e1
      clear e1
      have T2_ := hid t2
      clear t2
      have E2_ := hid e2
      clear e2
      have E3_ := hid e3
      clear e3
      have HBW_ := hid hbw
      clear hbw
      have HNB_ := hid hnb
      clear hnb
      have LT3_ := hid lt3
      clear lt3
      have HS3_ := hid hs3
      clear hs3
      go_upto_region 9 with (fail)
      have c9 : Chg (· = w.heap.size) wr (wr.setCell ⟨w.heap.size, 1, none⟩ (.slice a3 ks.length c3)) := (Chg.refl (· = w.heap.size) wr).setCell (.inr rfl) _
      have x0 : row? (wr.setCell ⟨w.heap.size, 1, none⟩ (.slice a3 ks.length c3)) w.heap.size = qa m a3 ks.length c3 := by rw [row_setCell, if_pos rfl, e0]; rfl
      have hs3 := HS3_.out
      have hsw := HSW_.out
      have hnb := HNB_.out
      have lt3 := LT3_.out
      have x1 := (c9.row (by omega) (by show ¬ _ = _; omega)).trans E1_.out
      have y1 := (c9.own (by omega) (by show ¬ _ = _; omega)).trans T1_.out
      have x2 := (c9.row (by omega) (by show ¬ _ = _; omega)).trans E2_.out
      have y2 := (c9.own (by omega) (by show ¬ _ = _; omega)).trans T2_.out
      have x3 := (c9.row (by omega) (by show ¬ _ = _; omega)).trans E3_.out
      have sz9 := c9.size
      generalize wr.setCell ⟨w.heap.size, 1, none⟩ (.slice a3 ks.length c3) = w9 at *
      refine wp_region_ls (by kernel_rfl) (by kernel_rfl) [(0, 37, .agg (qa m a3 ks.length c3)), (1, 38, .agg (fR lk)), (2, 39, .bool ib), (5, 6, .bool ib)] [(3, w.heap.size + 1, qa m a3 ks.length c3), (4, w.heap.size + 1 + 1, fR lk)] ?_ ?_ ?_ ?_ ?_ ?_ ?_ ?_ ?_ ?_ ?_
      · intro i hi
        match i, hi with
        | 0, _ | 1, _ | 2, _ | 3, _ | 4, _ | 5, _ => simp
      · simp
      · simp
      · simp
      · simp
      · simp
      · simp
      · simp [x1, y1, x2, y2]
      · intro x hx o ho
        simp only [List.mem_cons, List.not_mem_nil, or_false] at hx
        rcases hx with rfl | rfl | rfl | rfl <;> cases ho <;> refine ⟨rfl, rfl, fun act w' hf hdep hc => ?_⟩
        · have e : act.tmps[2]?.getD undef = .pointer (some ⟨w.heap.size, 0, none⟩) := hf.at 2 (by simp) rfl
          have hr := (hc.row (by omega) (by simp [Blk] <;> omega)).trans x0
          simp [go_sem, e, hr]
        · have e : act.tmps[7]?.getD undef = .pointer (some ⟨nb, 0, none⟩) := hf.at 7 (by simp) rfl
          have hr := (hc.row (by omega) (by simp [Blk] <;> omega)).trans x3
          simp [go_sem, e, hr]
        · have e : act.tmps[8]?.getD undef = .bool ib := hf.at 8 (by simp) rfl
          simp [go_sem, e]
        · have e : act.tmps[39]?.getD undef = .bool ib := hdep.at (2, 39, .bool ib) (by simp) ⟨⟨2, .data⟩, by simp, rfl, rfl⟩
          simp [go_sem, e]
      · intro x hx o ho
        simp only [List.mem_cons, List.not_mem_nil, or_false] at hx
        rcases hx with rfl | rfl <;> cases ho <;> refine ⟨rfl, rfl, fun act w' hf hdep hc how hsz => ?_⟩
        · have e : act.tmps[4]?.getD undef = .pointer (some ⟨w.heap.size + 1, 0, none⟩) := hf.at 4 (by simp) rfl
          have e' : act.tmps[37]?.getD undef = .agg (qa m a3 ks.length c3) := hdep.at (0, 37, .agg (qa m a3 ks.length c3)) (by simp) ⟨⟨0, .data⟩, by simp, rfl, rfl⟩
          simp only [qa_size] at how hsz
          simp [go_sem, e, e', how, hsz]
        · have e : act.tmps[5]?.getD undef = .pointer (some ⟨w.heap.size + 1 + 1, 0, none⟩) := hf.at 5 (by simp) rfl
          have e' : act.tmps[38]?.getD undef = .agg (fR lk) := hdep.at (1, 38, .agg (fR lk)) (by simp) ⟨⟨1, .data⟩, by simp, rfl, rfl⟩
          simp only [fR_size] at how hsz
          simp [go_sem, e, e', how, hsz]
      · intro act w' hdf hf hrd hc hwr
        have u1 := (hwr (3, w.heap.size + 1, qa m a3 ks.length c3) (by simp)).1
        have u2 := (hwr (4, w.heap.size + 1 + 1, fR lk) (by simp)).1
        have u6 := hrd (5, 6, .bool ib) (by simp)
        have hct : Chg (fun b => b = w.heap.size ∨ b = w.heap.size + 1 ∨ b = w.heap.size + 1 + 1) wr w' := (c9.mono (fun b _ h => .inl h)).trans (hc.mono (fun b _ h => by
          simp [Blk] at h
          omega))
        have hbF : Below w.heap.size w w' := HBW_.out.trans (hct.below HBW_.out.size (fun k hk e => by omega))
        go_wp2
        refine bodyPost_ret (results_cell3 rfl ((hf 4 (by simp)).trans rfl) ((hf 5 (by simp)).trans rfl) (v := .agg (qa m a3 ks.length c3)) (v2 := .agg (fR lk)) (by rw [ldRQ _ _ _ (by rw [u1]; simp), u1, qa_all]) (by rw [ldRItm _ _ _ (by rw [u2]; simp), u2, fR_all])) hdf (by rw [HKSE_.out, HLKE_.out, HIBE_.out]; exact ⟨a3, ⟨c3, by rw [show act.tmps.getD 6 undef = .bool ib from u6]⟩, ⟨HROW3_.out.kept (by decide) hct (fun b hb e => by have := HGE3_.out b hb; omega), HRS_.out w' hbF⟩, hbF, fun b hb => .inr (.inl (by have := HGE3_.out b hb; have := HS3_.out; omega))⟩)
end Go.Proofs.Ytbdpnmocbpplbaa
