/- block, IsFree, Free: walked. Conditions: the numbers fit. -/
import Derived.Test.YtcmmoemmlellbaaAl
namespace Go.Proofs.Ytcmmoemmlellbaa
open Go.RowKit

/-- the least order from k on of a free block that contains a frame (n orders are left) -/
def findB (L : FL) (f : Int) : Nat → Nat → Option Nat
  | 0, _ => none
  | n + 1, k => if f - f % 2 ^ k ∈ L k then some k else findB L f n (k + 1)

theorem findB_some {L : FL} {f : Int} : ∀ (n k j : Nat), findB L f n k = some j → k ≤ j ∧ j < k + n ∧ f - f % 2 ^ j ∈ L j
  | 0, k, j, h => by simp [findB] at h
  | n + 1, k, j, h => by
    unfold findB at h
    split at h
    · rename_i h0; cases h; exact ⟨Nat.le_refl _, by omega, h0⟩
    · obtain ⟨h1, h2, h3⟩ := findB_some n (k + 1) j h; exact ⟨by omega, by omega, h3⟩
theorem findB_none {L : FL} {f : Int} : ∀ (n k : Nat), findB L f n k = none → ∀ i, k ≤ i → i < k + n → f - f % 2 ^ i ∉ L i
  | 0, k, _ => fun i h1 h2 => by omega
  | n + 1, k, h => by
    unfold findB at h
    split at h
    · cases h
    · rename_i h0
      intro i h1 h2
      by_cases e : i = k
      · subst e; exact h0
      · exact findB_none n (k + 1) h i (by omega) (by omega)
theorem findB_iff {z : Zh} {L : FL} (v : Valid z L) {f : Int} : (∃ k, findB L f 5 0 = some k) ↔ free L f := by
  constructor
  · rintro ⟨k, h⟩
    obtain ⟨_, h2, h3⟩ := findB_some _ _ _ h
    have hp := pow_pos' k
    have := Int.emod_nonneg f (show (2 : Int) ^ k ≠ 0 by omega)
    have := Int.emod_lt_of_pos f hp
    exact ⟨k, by omega, _, h3, by unfold inBlk; omega⟩
  · rintro ⟨k, hk, b, hb, h1⟩
    cases h : findB L f 5 0 with
    | some j => exact ⟨j, rfl⟩
    | none =>
      have h2 := findB_none _ _ h k (by omega) (by omega)
      have hm := (insB_iff.1 (v.ins k hk b hb)).2.1
      have e : f - f % 2 ^ k = b := by
        unfold inBlk at h1
        rcases pow_cases hk with ⟨e', rfl⟩ | ⟨e', rfl⟩ | ⟨e', rfl⟩ | ⟨e', rfl⟩ | ⟨e', rfl⟩ <;> simp only [e'] at * <;> omega
      rw [e] at h2; exact (h2 hb).elim

theorem andNot_tab : ∀ n : Fin 256, ∀ k : Fin 5, bits BinOp.andNot IntKind.i64 (n.val : Int) (2 ^ k.val - 1) = (n.val : Int) - (n.val : Int) % 2 ^ k.val := by
  decide +kernel
theorem bits_andNot {f : Int} {k : Nat} (h0 : 0 ≤ f) (h1 : f < 256) (hk : k ≤ 4) : bits BinOp.andNot IntKind.i64 f (pw k - 1) = f - f % 2 ^ k := by
  obtain ⟨n, rfl⟩ := Int.eq_ofNat_of_zero_le h0
  exact andNot_tab ⟨n, by omega⟩ ⟨k, by omega⟩

attribute [local go_sem] wrap_pow

/-- what block answers -/
def blkV (L : FL) (f : Int) : Value := match findB L f 5 0 with
  | some k => .tuple #[.int .i64 (k : Int), .int .i64 (f - f % 2 ^ k)]
  | none => .tuple #[.int .i64 (-1), .int .i64 0]

set_option maxRecDepth 100000 in
set_option maxHeartbeats 1000000 in
theorem block_any (z : Zh) (s : Nat → Value) (L : FL) (f : Int) (w : World) (hz : z.ok = true) (hv : Valid z L) (hrd : rdZ w s L) (hf0 : 0 ≤ f) (hf1 : f < 256) :
    Calls Try.prog 52 #[zv z s, .int .i64 f] w fun e w' => e = .returned (blkV L f) ∧ Below w.heap.size w w' := by
  have HR := Lib.hid hrd; clear hrd
  have HV := Lib.hid hv; clear hv
  go_enter Try.func52, Try.ntmps52
  go_upto_block 0 with (fail)
  obtain ⟨w1, hw1⟩ : ∃ w1, w1 = w.alloc (.cells #[.int .i64 z.nd, .int .i64 z.kd, .int .i64 z.st, .int .i64 z.ct, .int .i64 z.mn, s 0, s 1, s 2, s 3, s 4] 25) := ⟨_, rfl⟩
  have hbx : boxed w1 w.heap.size z s := by rw [hw1]; exact heap_alloc_new w _
  have hbel : Below w.heap.size w w1 := by rw [hw1]; exact (Below.refl _ w).alloc (Nat.le_refl _) _
  rw [← hw1]
  have HB := Lib.hid hbx
  clear hw1 hbx
  go_wp2_with fail
  go_loopg [10] 5 (fun n s10 wr => ∃ k : Nat, s10 = .int .i64 k ∧ k ≤ 5 ∧ Hid (n = 5 - k) ∧ Hid (findB L f (5 - k) k = findB L f 5 0) ∧ Hid (boxed wr w.heap.size z s) ∧ Below w.heap.size w wr)
  case atStart => exact ⟨0, rfl, by omega, rfl, rfl, HB.out, hbel⟩
  case round =>
    obtain ⟨k, rfl, hk, hn, hfb, hbx, hbl⟩ := hrel
    by_cases hk4 : k ≤ 4
    · have hki : (k : Int) < 5 := by omega
      have hp1 := (pw_bounds hk4).1
      have hp16 := (pw_bounds hk4).2
      have hbits := bits_andNot hf0 hf1 hk4
      have hfl := box_field hbx.out k hk4
      have hlen := HV.out.len hz hk4
      have hrd : rd wr (s k) (L k) := (HR.out k hk4).below hbl
      have HRD := Lib.hid hrd
      clear hrd
      by_cases hm : f - f % 2 ^ k ∈ L k
      · have HF : Hid (findB L f 5 0 = some k) := by
          have h1 := hfb.out
          rw [show 5 - k = (5 - (k + 1)) + 1 by omega, findB, if_pos hm] at h1; exact h1.symm
        go_wp2_with (go_at_call 43; with_reducible refine (search_any (s k) (L k) (f - f % 2 ^ k) _ HRD.out (HV.out.sorted k hk4) (by omega)).mono ?_; rintro e w2 ⟨rfl, hb2⟩)
        go_ret2
        refine ⟨?_, hbl.trans (hb2.mono hbl.size)⟩
        unfold blkV
        rw [HF.out]; rfl
      · have HF : Hid (findB L f (5 - (k + 1)) (k + 1) = findB L f 5 0) := by
          have h1 := hfb.out
          rw [show 5 - k = (5 - (k + 1)) + 1 by omega, findB, if_neg hm] at h1; exact h1
        go_wp2_with (go_at_call 43; with_reducible refine (search_any (s k) (L k) (f - f % 2 ^ k) _ HRD.out (HV.out.sorted k hk4) (by omega)).mono ?_; rintro e w2 ⟨rfl, hb2⟩)
        go_roundg (5 - (k + 1))
        case rel => exact ⟨k + 1, by go_num, by omega, rfl, HF.out, (hb2.block _ (lt_of_block hbx.out)).trans hbx.out, hbl.trans (hb2.mono hbl.size)⟩
        case measure => have := hn.out; omega
    · have HF : Hid (findB L f 5 0 = none) := by have h1 := hfb.out; rw [show 5 - k = 0 by omega, findB] at h1; exact h1.symm
      go_wp2_with fail
      go_ret2
      refine ⟨?_, hbl⟩
      unfold blkV
      rw [HF.out]; rfl

def freeB (L : FL) (f : Int) : Bool := (findB L f 5 0).isSome
theorem freeB_iff {z : Zh} {L : FL} (v : Valid z L) {f : Int} : freeB L f = true ↔ free L f := by
  rw [← findB_iff v]; unfold freeB; exact Option.isSome_iff_exists
theorem block_yes (z : Zh) (s : Nat → Value) (L : FL) (f : Int) (w : World) (hz : z.ok = true) (hv : Valid z L) (hrd : rdZ w s L) (hf0 : 0 ≤ f) (hf1 : f < 256) (h : freeB L f = true) :
    Calls Try.prog 52 #[zv z s, .int .i64 f] w fun e w' => ∃ k : Nat, findB L f 5 0 = some k ∧ e = .returned (.tuple #[.int .i64 (k : Int), .int .i64 (f - f % 2 ^ k)]) ∧ Below w.heap.size w w' := by
  obtain ⟨k, hk⟩ := Option.isSome_iff_exists.1 h
  refine (block_any z s L f w hz hv hrd hf0 hf1).mono fun e w' h => ⟨k, hk, h.1.trans ?_, h.2⟩
  unfold blkV; rw [hk]
theorem block_no (z : Zh) (s : Nat → Value) (L : FL) (f : Int) (w : World) (hz : z.ok = true) (hv : Valid z L) (hrd : rdZ w s L) (hf0 : 0 ≤ f) (hf1 : f < 256) (h : freeB L f = false) :
    Calls Try.prog 52 #[zv z s, .int .i64 f] w fun e w' => e = .returned (.tuple #[.int .i64 (-1), .int .i64 0]) ∧ Below w.heap.size w w' := by
  have hk : findB L f 5 0 = none := Option.not_isSome_iff_eq_none.1 (by unfold freeB at h; rw [h]; simp)
  refine (block_any z s L f w hz hv hrd hf0 hf1).mono fun e w' h => ⟨h.1.trans ?_, h.2⟩
  unfold blkV; rw [hk]

theorem inside_zero (z : Zh) (s : Nat → Value) (f : Int) (w : World) (hz : z.ok = true) (hf : fits f) :
    Calls Try.prog 42 #[zv z s, .int .i64 f, .int .i64 0] w fun e w' => e = .returned (.bool (insB z f 0)) ∧ Below w.heap.size w w' := inside_any z s f 0 w hz hf (by omega)

theorem box_one' {w w1 : World} {A : Obj} (h : Below (w.alloc A).heap.size (w.alloc A) w1) : Below w.heap.size w w1 := ((Below.refl _ w).alloc (Nat.le_refl _) A).trans (h.mono (by simp))

set_option maxRecDepth 100000 in
set_option maxHeartbeats 1000000 in
theorem isFree_err (z : Zh) (s : Nat → Value) (L : FL) (f : Int) (w : World) (hz : z.fits) (hrd : rdZ w s L) (hfit : fitsL L) (he : chkM z L ≠ 0) :
    Calls Try.prog 26 #[zv z s, .int .i64 f] w fun e w' => e = .returned (.bool false) ∧ Below w.heap.size w w' := by
  have HR := Lib.hid hrd; clear hrd
  have HF := Lib.hid hfit; clear hfit
  have hne : (chkM z L != 0) = true := by simpa using he
  go_enter Try.func26, Try.ntmps26
  go_wp2_with (go_at_call 16; refine (check_any z s L _ hz (HR.out.below ((Below.refl _ w).alloc (Nat.le_refl _) _)) HF.out).mono ?_; rintro e w1 ⟨rfl, hb1⟩)
  go_ret
  exact ⟨rfl, box_one' hb1⟩

set_option maxRecDepth 100000 in
set_option maxHeartbeats 1000000 in
theorem isFree_ok (z : Zh) (s : Nat → Value) (L : FL) (f : Int) (w : World) (hz : z.ok = true) (hv : Valid z L) (hrd : rdZ w s L) (hf : fits f) :
    Calls Try.prog 26 #[zv z s, .int .i64 f] w fun e w' => e = .returned (.bool (freeB L f)) ∧ Below w.heap.size w w' := by
  have HR := Lib.hid (hrd.below ((Below.refl _ w).alloc (Nat.le_refl _) (.cells #[.int .i64 z.nd, .int .i64 z.kd, .int .i64 z.st, .int .i64 z.ct, .int .i64 z.mn, s 0, s 1, s 2, s 3, s 4] 25))); clear hrd
  have HV := Lib.hid hv; clear hv
  by_cases hin : insB z f 0 = true
  · have hzz := Zh.ok_iff.1 hz
    have hii := insB_zero.1 hin
    have hf0 : 0 ≤ f := by omega
    have hf1 : f < 256 := by omega
    clear hzz hii
    by_cases hfr : freeB L f = true
    · go_enter Try.func26, Try.ntmps26
      go_wp2_with (first | (go_at_call 16; refine (check_ok z s L _ hz HV.out HR.out).mono ?_; rintro e w1 ⟨rfl, hb1⟩; (have hbx1 := (hb1.block w.heap.size (by simp)).trans (heap_alloc_new w _)); obtain ⟨c0, c1, c2, c3, c4, c5, c6, c7, c8, c9⟩ := boxed.head hbx1; have HB1 := Lib.hid hbx1; clear hbx1) | (go_at_call 42; refine (inside_zero z s f _ hz hf).mono ?_; rintro e w2 ⟨rfl, hb2⟩; obtain ⟨d0, d1, d2, d3, d4, d5, d6, d7, d8, d9⟩ := boxed.head (w := w2) (B := w.heap.size) (z := z) (s := s) ((hb2.block _ (lt_of_block HB1.out)).trans HB1.out)) | (go_at_call 52; refine (block_yes z s L f _ hz HV.out ((HR.out.below hb1).below hb2) hf0 hf1 hfr).mono ?_; rintro e w3 ⟨k, hk, rfl, hb3⟩; have HK := Lib.hid hk; clear hk))
      go_ret
      exact ⟨ret_bool (by simp [hfr]), ((box_one' hb1).trans (hb2.mono (box_one' hb1).size)).trans (hb3.mono (Nat.le_trans (box_one' hb1).size hb2.size))⟩
    · have hfr' : freeB L f = false := by simpa using hfr
      clear hfr
      go_enter Try.func26, Try.ntmps26
      go_wp2_with (first | (go_at_call 16; refine (check_ok z s L _ hz HV.out HR.out).mono ?_; rintro e w1 ⟨rfl, hb1⟩; (have hbx1 := (hb1.block w.heap.size (by simp)).trans (heap_alloc_new w _)); obtain ⟨c0, c1, c2, c3, c4, c5, c6, c7, c8, c9⟩ := boxed.head hbx1; have HB1 := Lib.hid hbx1; clear hbx1) | (go_at_call 42; refine (inside_zero z s f _ hz hf).mono ?_; rintro e w2 ⟨rfl, hb2⟩; obtain ⟨d0, d1, d2, d3, d4, d5, d6, d7, d8, d9⟩ := boxed.head (w := w2) (B := w.heap.size) (z := z) (s := s) ((hb2.block _ (lt_of_block HB1.out)).trans HB1.out)) | (go_at_call 52; refine (block_no z s L f _ hz HV.out ((HR.out.below hb1).below hb2) hf0 hf1 hfr').mono ?_; rintro e w3 ⟨rfl, hb3⟩))
      go_ret
      exact ⟨ret_bool (by simp [hfr']), ((box_one' hb1).trans (hb2.mono (box_one' hb1).size)).trans (hb3.mono (Nat.le_trans (box_one' hb1).size hb2.size))⟩
  · have hin' : insB z f 0 = false := by simpa using hin
    have hfr : freeB L f = false := by
      rw [Bool.eq_false_iff]
      intro h
      obtain ⟨k, hk, b, hb, h1⟩ := (freeB_iff HV.out).1 h
      have := insB_iff.1 (HV.out.ins k hk b hb)
      exact hin (insB_zero.2 (by unfold inBlk at h1; omega))
    have HFR := Lib.hid hfr
    clear hfr hin
    go_enter Try.func26, Try.ntmps26
    go_wp2_with (first | (go_at_call 16; refine (check_ok z s L _ hz HV.out HR.out).mono ?_; rintro e w1 ⟨rfl, hb1⟩; (have hbx1 := (hb1.block w.heap.size (by simp)).trans (heap_alloc_new w _)); obtain ⟨c0, c1, c2, c3, c4, c5, c6, c7, c8, c9⟩ := boxed.head hbx1; have HB1 := Lib.hid hbx1; clear hbx1) | (go_at_call 42; refine (inside_zero z s f _ hz hf).mono ?_; rintro e w2 ⟨rfl, hb2⟩))
    go_ret
    exact ⟨ret_bool HFR.out.symm, (box_one' hb1).trans (hb2.mono (box_one' hb1).size)⟩
end Go.Proofs.Ytcmmoemmlellbaa
