/- The reference's Check: walked; it answers chkM too. Conditions: the numbers fit. -/
import Derived.Test.YtcmmoemmlellbaaRb
import Derived.Test.YtcmmoemmlellbaaSt
import Derived.Deep.RegionHeld3
namespace Go.Proofs.Ytcmmoemmlellbaa
open Go.RowKit

/-- two neighbours of a list are buddies -/
def adjAt (z : Zh) (L : FL) (k i : Nat) : Bool := decide ((L k).getD i 0 = (L k).getD (i - 1) 0 + 2 ^ k) && insB z ((L k).getD (i - 1) 0) (k + 1)

theorem adj_pair {z : Zh} {L : FL} (_hz : z.ok = true) (hs : scanZ z L 5 0 = 0) : pairB z L = true ↔ ∃ k i, k < 4 ∧ 1 ≤ i ∧ i < (L k).length ∧ adjAt z L k i = true := by
  have hv := (scanZ_zero 5 0).1 hs
  unfold pairB pairL
  simp only [List.any_eq_true, List.mem_range, Bool.and_eq_true, decide_eq_true_eq]
  constructor
  · rintro ⟨k, hk, f, hf, hb, hu⟩
    obtain ⟨hins, hsort⟩ := hv k (by omega) (by omega)
    have hm := (insB_iff.1 (hins f hf)).2.1
    obtain ⟨b, hb1, hb2, hb3⟩ : ∃ b, b ∈ L k ∧ b + 2 ^ k ∈ L k ∧ insB z b (k + 1) = true := by
      rcases bud_cases (show k ≤ 4 by omega) hm with ⟨e1, e2, _⟩ | ⟨e1, e2, _⟩
      · rw [e2] at hu; exact ⟨f, hf, by rw [← e1]; exact hb, hu⟩
      · rw [e2] at hu; exact ⟨f - 2 ^ k, by rw [← e1]; exact hb, by rw [Int.sub_add_cancel]; exact hf, hu⟩
    obtain ⟨i, hi, e1⟩ := List.mem_iff_getElem.1 hb1
    obtain ⟨j, hj, e2⟩ := List.mem_iff_getElem.1 hb2
    have hp := pow_pos' k
    have hij : i < j := by
      rcases Nat.lt_trichotomy i j with h | h | h
      · exact h
      · subst h; omega
      · have := List.pairwise_iff_getElem.1 hsort j i hj hi h; omega
    have hi1 : i + 1 < (L k).length := by omega
    have hlo := List.pairwise_iff_getElem.1 hsort i (i + 1) hi hi1 (by omega)
    have hhi : (L k)[i + 1] ≤ b + 2 ^ k := by
      rcases Nat.eq_or_lt_of_le (show i + 1 ≤ j by omega) with h | h
      · subst h; omega
      · have := List.pairwise_iff_getElem.1 hsort (i + 1) j hi1 hj h; omega
    have hm1 := (insB_iff.1 (hins _ (List.getElem_mem hi1))).2.1
    have hmb := (insB_iff.1 (hins _ hb1)).2.1
    have he : (L k)[i + 1] = b + 2 ^ k := by
      rw [e1] at hlo
      generalize (L k)[i + 1] = y at *
      rcases pow_cases (show k ≤ 4 by omega) with ⟨e', rfl⟩ | ⟨e', rfl⟩ | ⟨e', rfl⟩ | ⟨e', rfl⟩ | ⟨e', rfl⟩ <;> simp only [e'] at * <;> omega
    refine ⟨k, i + 1, hk, by omega, hi1, ?_⟩
    unfold adjAt
    rw [show i + 1 - 1 = i by omega, getD_eq hi1, getD_eq hi, e1, he, hb3]; simp
  · rintro ⟨k, i, hk, h1, h2, h3⟩
    unfold adjAt at h3
    simp only [Bool.and_eq_true, decide_eq_true_eq] at h3
    obtain ⟨h4, h5⟩ := h3
    rw [getD_eq h2] at h4
    rw [getD_eq (show i - 1 < (L k).length by omega)] at h4 h5
    have hbb : bud (L k)[i - 1] k = (L k)[i - 1] + 2 ^ k := by unfold bud; rw [if_pos (insB_iff.1 h5).2.1]
    have := pow_pos' k
    exact ⟨k, hk, (L k)[i - 1], List.getElem_mem _, by rw [hbb, ← h4]; exact List.getElem_mem _, by rw [hbb, show min (L k)[i - 1] ((L k)[i - 1] + 2 ^ k) = (L k)[i - 1] by omega]; exact h5⟩

theorem nodup_count {P : List Int} (hP : ∀ x, x ∈ P → 0 ≤ x ∧ x < 256) : P.Nodup ↔ ∀ j : Nat, j < 256 → P.count (j : Int) ≤ 1 := by
  rw [List.nodup_iff_count]
  constructor
  · intro h j _; exact h _
  · intro h a
    by_cases ha : a ∈ P
    · have := hP a ha
      have h1 := h a.toNat (by omega)
      rwa [show ((a.toNat : Nat) : Int) = a by omega] at h1
    · rw [List.count_eq_zero_of_not_mem ha]; omega

theorem frs_range {z : Zh} {L : FL} (hz : z.ok = true) (hs : scanZ z L 5 0 = 0) : ∀ x, x ∈ frs L → 0 ≤ x ∧ x < 256 := by
  intro x hx
  obtain ⟨k, hk, b, hb, h1⟩ := mem_frs.1 hx
  have hv := ((scanZ_zero 5 0).1 hs k (by omega) (by omega)).1 b hb
  have hz' := Zh.ok_iff.1 hz
  have := insB_iff.1 hv
  unfold inBlk at h1
  omega

set_option maxRecDepth 100000 in
set_option maxHeartbeats 1000000 in
theorem rcheck_bad (z : Zh) (s : Nat → Value) (w : World) (hz : z.fits) (hb : z.ok = false) :
    Calls Try.prog 17 #[zv z s] w fun e w' => e = .returned (.int .i64 2) ∧ Below w.heap.size w w' := by
  go_enter Try.func17, Try.ntmps17
  go_wp2_with (go_at_call 44; refine (inRange_any z s _ hz).mono ?_; rintro e w1 ⟨rfl, hb1⟩)
  go_ret
  exact ⟨rfl, box_one hb1⟩

set_option maxRecDepth 100000 in
set_option maxHeartbeats 1000000 in
theorem rcheck_scan (z : Zh) (s : Nat → Value) (L : FL) (w : World) (hz : z.fits) (hok : z.ok = true) (hrd : rdZ w s L) (hfit : fitsL L) (he : scanZ z L 5 0 ≠ 0) :
    Calls Try.prog 17 #[zv z s] w fun e w' => e = .returned (.int .i64 (scanZ z L 5 0)) ∧ Below w.heap.size w w' := by
  have HR := Lib.hid (hrd.below ((Below.refl _ w).alloc (Nat.le_refl _) (.cells #[.int .i64 z.nd, .int .i64 z.kd, .int .i64 z.st, .int .i64 z.ct, .int .i64 z.mn, s 0, s 1, s 2, s 3, s 4] 25))); clear hrd
  have HF := Lib.hid hfit; clear hfit
  have HOK := Lib.hid hok
  go_enter Try.func17, Try.ntmps17
  go_wp2_with (first | (go_at_call 44; refine (inRange_any z s _ hz).mono ?_; rintro e w1 ⟨rfl, hb1⟩; (have hbx1 := (hb1.block w.heap.size (by simp)).trans (heap_alloc_new w _)); obtain ⟨c0, c1, c2, c3, c4, c5, c6, c7, c8, c9⟩ := boxed.head hbx1; clear hbx1) | (go_at_call 45; refine (listError_any z s L _ HOK.out (HR.out.below hb1) HF.out).mono ?_; rintro e w2 ⟨rfl, hb2⟩))
  go_ret
  exact ⟨rfl, (box_one hb1).trans (hb2.mono (box_one hb1).size)⟩

theorem listError_zero (z : Zh) (s : Nat → Value) (L : FL) (w : World) (hok : z.ok = true) (hrd : rdZ w s L) (hfit : fitsL L) (hs : scanZ z L 5 0 = 0) :
    Calls Try.prog 45 #[zv z s] w fun e w' => e = .returned (.int .i64 0) ∧ Below w.heap.size w w' := by
  have := listError_any z s L w hok hrd hfit; rwa [hs] at this

attribute [local go_sem] wrap_pow
theorem kc {w w' : World} {a : Addr} {v : Value} (hb : Below w.heap.size w w') (h : w.cell? a = some v) : w'.cell? a = some v := (hb.cell (block_lt_of_cell h)).trans h

end Go.Proofs.Ytcmmoemmlellbaa
