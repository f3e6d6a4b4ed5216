/- The reference's InRange, Block, Few: walked. Conditions: the numbers fit. -/
import Derived.Test.YtcmmoemmlellbaaAw
namespace Go.Proofs.Ytcmmoemmlellbaa
open Go.RowKit

set_option maxHeartbeats 1000000 in
theorem inRange_any (z : Zh) (s : Nat → Value) (w : World) (hz : z.fits) :
    Calls Try.prog 44 #[zv z s] w fun e w' => e = .returned (.bool z.ok) ∧ Below w.heap.size w w' := by
  obtain ⟨nd, kd, st, ct, mn⟩ := z
  obtain ⟨⟨h1, h2⟩, ⟨h3, h4⟩, ⟨h5, h6⟩, ⟨h7, h8⟩, ⟨h9, h10⟩⟩ := hz
  simp only at h1 h2 h3 h4 h5 h6 h7 h8 h9 h10
  unfold zv
  dsimp only
  by_cases hk0 : kd = 0
  · subst hk0
    go_enter Try.func44, Try.ntmps44
    go_wp2
    all_goals go_ret
    all_goals exact ⟨ret_bool (Bool.eq_iff_iff.2 (by simp [Zh.ok]; omega)), (Below.refl _ _).alloc (Nat.le_refl _) _⟩
  · by_cases hk1 : kd = 1
    · subst hk1
      clear hk0
      go_enter Try.func44, Try.ntmps44
      go_wp2
      all_goals go_ret
      all_goals exact ⟨ret_bool (Bool.eq_iff_iff.2 (by simp [Zh.ok]; omega)), (Below.refl _ _).alloc (Nat.le_refl _) _⟩
    · have e0 : (kd != 0) = true := by simpa using hk0
      have e1 : (kd != 1) = true := by simpa using hk1
      go_enter Try.func44, Try.ntmps44
      go_wp2
      all_goals go_ret
      all_goals exact ⟨ret_bool (Bool.eq_iff_iff.2 (by simp [Zh.ok]; omega)), (Below.refl _ _).alloc (Nat.le_refl _) _⟩

set_option maxHeartbeats 1000000 in
theorem rblock_any (z : Zh) (s : Nat → Value) (f : Int) (k : Nat) (w : World) (hz : z.ok = true) (hf : fits f) (hk : k ≤ 4) :
    Calls Try.prog 47 #[zv z s, .int .i64 f, .int .i64 k] w fun e w' => e = .returned (.bool (insB z f k)) ∧ Below w.heap.size w w' := by
  have hz' := Zh.ok_iff.1 hz
  obtain ⟨nd, kd, st, ct, mn⟩ := z
  obtain ⟨h1, h2⟩ := hf
  simp only at hz'
  obtain ⟨_, _, _, h3, h4, h5, h6, _⟩ := hz'
  clear hz
  unfold zv
  dsimp only
  obtain rfl | rfl | rfl | rfl | rfl : k = 0 ∨ k = 1 ∨ k = 2 ∨ k = 3 ∨ k = 4 := by omega
  all_goals
    clear hk
    go_enter Try.func47, Try.ntmps47
    go_wp2
    all_goals go_ret
    all_goals exact ⟨ret_bool (Bool.eq_iff_iff.2 (by simp [insB]; omega)), (Below.refl _ _).alloc (Nat.le_refl _) _⟩

set_option maxHeartbeats 1000000 in
theorem rblock_out (z : Zh) (s : Nat → Value) (f o : Int) (w : World) (ho : o < 0 ∨ 4 < o) :
    Calls Try.prog 47 #[zv z s, .int .i64 f, .int .i64 o] w fun e w' => e = .returned (.bool false) ∧ Below w.heap.size w w' := by
  rcases ho with ho | ho
  all_goals
    try (have ho' : ¬ o < 0 := by omega)
    go_enter Try.func47, Try.ntmps47
    go_wp2
    all_goals go_ret
    all_goals exact ⟨rfl, (Below.refl _ _).alloc (Nat.le_refl _) _⟩

def fewL (L : FL) : Bool := (List.range 5).all fun k => decide ((L k).length ≤ 300)
theorem fewL_iff {L : FL} : fewL L = true ↔ ∀ k, k < 5 → (L k).length ≤ 300 := by simp [fewL]

set_option maxRecDepth 100000 in
set_option maxHeartbeats 1000000 in
theorem few_any (z : Zh) (s : Nat → Value) (L : FL) (w : World) (hrd : rdZ w s L) :
    Calls Try.prog 15 #[zv z s] w fun e w' => e = .returned (.bool (fewL L)) ∧ Below w.heap.size w w' := by
  have HR := Lib.hid hrd; clear hrd
  go_enter Try.func15, Try.ntmps15
  go_upto_block 0 with (fail)
  obtain ⟨w1, hw1⟩ : ∃ w1, w1 = w.alloc (.cells #[.int .i64 z.nd, .int .i64 z.kd, .int .i64 z.st, .int .i64 z.ct, .int .i64 z.mn, s 0, s 1, s 2, s 3, s 4] 25) := ⟨_, rfl⟩
  have hbx : boxed w1 w.heap.size z s := by rw [hw1]; exact heap_alloc_new w _
  have hbel : Below w.heap.size w w1 := by rw [hw1]; exact (Below.refl _ w).alloc (Nat.le_refl _) _
  rw [← hw1]
  have HB := Lib.hid hbx
  clear hw1 hbx
  go_wp2_with fail
  go_loopg [3] 5 (fun n s3 wr => ∃ k : Nat, s3 = .int .i64 k ∧ k ≤ 5 ∧ Hid (n = 5 - k) ∧ Hid (∀ j, j < k → (L j).length ≤ 300) ∧ wr = w1)
  case atStart => exact ⟨0, rfl, by omega, rfl, fun j hj => by omega, rfl⟩
  case round =>
    obtain ⟨k, rfl, hk, hn, hp, rfl⟩ := hrel
    by_cases hk4 : k ≤ 4
    · obtain ⟨a, c, hs, hlen, _⟩ := (HR.out k hk4).split
      have hfl := box_field HB.out k hk4
      rw [hs] at hfl
      clear hs
      have hki : (k : Int) < 5 := by omega
      by_cases hl : (L k).length ≤ 300
      · go_wp2_with fail
        go_roundg (5 - (k + 1))
        case rel => exact ⟨k + 1, by go_num, by omega, rfl, fun j hj => by
          by_cases e : j = k
          · subst e; exact hl
          · exact hp.out j (by omega), rfl⟩
        case measure => have := hn.out; omega
      · go_wp2_with fail
        go_ret
        refine ⟨ret_bool ?_, hbel⟩
        have : ¬ fewL L = true := fun h => hl (fewL_iff.1 h k (by omega))
        simpa using this
    · have HE : Hid (fewL L = true) := by
        exact fewL_iff.2 fun j hj => hp.out j (by omega)
      go_wp2_with fail
      go_ret
      exact ⟨ret_bool HE.out.symm, hbel⟩
end Go.Proofs.Ytcmmoemmlellbaa
