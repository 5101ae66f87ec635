/-
  The walks of a clock's text, the program's and the reference's. No condition.
-/
import Derived.Test.YtdamljmbnkdjfaaIdR
import Derived.Test.YtdamljmbnkdjfaaRegP
namespace Go.Proofs.Ytdamljmbnkdjfaa
open Go.RowKit

/-- A digit of sixteen, as a byte. -/
def hexd (n : Int) : Int := if n < 10 then 48 + n else 87 + n
theorem ixHex (n : Int) (h0 : 0 ≤ n) (h1 : n < 16) (w : World) :
    (Instr.index 9 (.string ⟨#[48, 49, 50, 51, 52, 53, 54, 55, 56, 57, 97, 98, 99, 100, 101, 102]⟩) (.int .u8 n)).run Try.prog w = .ok (.int .u8 (hexd n)) w := by
  obtain ⟨k, rfl⟩ := Int.eq_ofNat_of_zero_le h0
  have hk : k < 16 := by omega
  unfold Instr.index
  simp only [Sem.run_bind, asIntOf, Sem.run_pure, Result.andThen_ok, run_underlying Try.underlying9, h0, if_true, Int.toNat_natCast]
  match k, hk with
  | 0, _ | 1, _ | 2, _ | 3, _ | 4, _ | 5, _ | 6, _ | 7, _ | 8, _ | 9, _ | 10, _ | 11, _ | 12, _ | 13, _ | 14, _ | 15, _ => rfl
  | k + 16, h => omega

/-- The two digits of each byte. -/
def hexL (l : List Int) : List Int := l.flatMap fun x => [hexd (x / 16), hexd (x % 16)]
theorem hexL_length (l : List Int) : (hexL l).length = 2 * l.length := by
  induction l with
  | nil => rfl
  | cons x l ih =>
    unfold hexL at *
    simp only [List.flatMap_cons, List.length_append, ih, List.length_cons, List.length_nil]
    omega
theorem hexL_snoc (l : List Int) (k : Nat) (h : k < l.length) : hexL (l.take (k + 1)) = hexL (l.take k) ++ [hexd (l.getD k 0 / 16), hexd (l.getD k 0 % 16)] := by
  rw [List.take_succ_eq_append_getElem h]
  unfold hexL
  rw [List.flatMap_append]
  simp [h]
theorem infoB : (Try.prog.info? 5).map (fun i => (i.zero, i.size, i.bytes)) = some (some (.int .u8 0), 1, 1) := by kernel_rfl
def TextAt (l : List Int) (k : Nat) (B : Nat) (w0 : World) (v i : Value) (wr : World) : Prop :=
  k ≤ 8 ∧ i = .int .i64 k ∧ Below B w0 wr ∧ B ≤ wr.heap.size ∧ wr.ownsRow B 5 1 v (2 * k) ((hexL (l.take k)).map (.int .u8))

set_option maxHeartbeats 800000 in
theorem text_fn (c : Clk) : Fn Try.prog 12 #[.agg (ca c)] (.string (strOfNums (hexL c.l))) := by
  intro w
  obtain ⟨i0, hi, hz0, hz1, hz2⟩ := info_parts infoB
  go_enter Try.func12, Try.ntmps12
  go_wp2
  refine cut_box1 fun W g1 _ hz hB => ?_
  rw [← gr_self W]
  have hB := hB W
  rw [← gr_self W] at hB
  clear g1
  go_loopw [3, 7] (fun v i wr => ∃ (k : Nat), TextAt c.l k w.heap.size w v i wr) (fun _ i _ => 8 - (intOf i).toNat)
  case atStart => exact ⟨0, by omega, rfl, hB, by omega, by simp [World.ownsRow, hexL]⟩
  case round =>
    obtain ⟨k, hk, rfl, hBr, hsz, hown⟩ := hrel
    by_cases hlt : k < 8
    · have di := ixClk c k hlt
      have hs := hexL_snoc c.l k (by rw [c.h]; exact hlt)
      have hr := c.rng k
      generalize c.l.getD k 0 = x at *
      have HS_ := hid hs
      clear hs
      obtain ⟨hr1, hr2⟩ := hr
      have dx := ixHex (x / 16) (by omega) (by omega)
      have dy := ixHex (x % 16) (by omega) (by omega)
      rw [gr_self wr]
      go_wp2
      refine wp_region_gr3 wr 7 7 (by kernel_rfl) (by kernel_rfl) (fun c a b w hd h => And.intro (hd.symm.trans (And.left h)) (And.right h)) ⟨_, rfl⟩ ?_
      simp only [List.take_succ_cons, List.take_zero, List.drop_succ_cons, List.drop_zero]
      repeat (go_big_quiet_step (fail))
      refine wpQuiet_nil ?_
      repeat (go_big_quiet_step (fail))
      refine wpQuiet_nil ?_
      rintro _ ⟨y, rfl⟩
      have hown' := ownsRow_gr hown y
      have hsz' := (gr_below wr y).size
      have hsz'' := Nat.le_trans hsz hsz'
      have hBy := hBr.trans ((gr_below wr y).mono hsz)
      clear di dx dy hown hBr
      generalize gr wr y = wy at *
      go_wp2_with (at_builtin; refine wpList_append_own _ rfl _ _ 39 rfl w.heap.size 5 i0 (.int .u8 0) 1 1 Try.underlying39 hi hz0 hz1 hz2 rfl (by decide) _ _ _ rfl (hown'.alloc _) ⟨wy.heap.size, 0, none⟩ 2 2 [.int .u8 (hexd (x / 16)), .int .u8 (hexd (x % 16))] rfl rfl ?c1 ?c2 ?c3 ?c4 ?c5 ?_)
      case c1 => exact cell_two_new _ _ _ _
      case c2 => simp [Value.oneCell']
      case c3 => unfold maxLen; omega
      case c4 => omega
      case c5 => simp; omega
      intro v' w1 hown1 hgrow _
      go_wp2
      go_roundw
      case rel =>
        refine ⟨k + 1, by omega, by go_num, (hBy.alloc hsz'' _).grown hgrow (by simp; omega) (own_block_le hown'), ?_, ?_⟩
        · have := hgrow.size; simp at this; omega
        · rw [HS_.out, List.map_append]; exact hown1
      case measure => simp [intOf]; omega
    · have hk8 : k = 8 := by omega
      subst hk8
      rw [List.take_of_length_le (by rw [c.h]; omega)] at hown
      have hconv := run_convert_own Try.underlying39 Try.underlying5 hown 9 Try.underlying9
      clear hown
      go_wp2
      go_ret
      exact ⟨rfl, hBr⟩
end Go.Proofs.Ytdamljmbnkdjfaa
