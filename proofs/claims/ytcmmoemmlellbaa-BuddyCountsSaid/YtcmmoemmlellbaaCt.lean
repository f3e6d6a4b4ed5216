/- Count, Unusable, Largest: walked. Conditions: the numbers fit. -/
import Derived.Test.YtcmmoemmlellbaaAl
import Derived.Deep.RegionLaw
namespace Go.Proofs.Ytcmmoemmlellbaa
open Go.RowKit

/-- the free frames in blocks of the first n orders -/
def unusM (L : FL) : Nat → Int
  | 0 => 0
  | n + 1 => unusM L n + (L n).length * 2 ^ n
/-- the greatest of the first n orders with a free block -/
def largM (L : FL) : Nat → Int
  | 0 => -1
  | n + 1 => if L n = [] then largM L n else n

theorem unusM_bound {L : FL} (h : ∀ k, k ≤ 4 → (L k).length ≤ 256) : ∀ n, n ≤ 5 → 0 ≤ unusM L n ∧ unusM L n ≤ n * 4096
  | 0, _ => by simp [unusM]
  | n + 1, hn => by
    have ih := unusM_bound h n (by omega)
    have hl := h n (by omega)
    unfold unusM
    have hp := pow_pos' n
    have h1 : (0 : Int) ≤ (L n).length * 2 ^ n := Int.mul_nonneg (by omega) (by omega)
    have h2 : ((L n).length : Int) * 2 ^ n ≤ 256 * 16 := by
      rcases pow_cases (show n ≤ 4 by omega) with ⟨e, _⟩ | ⟨e, _⟩ | ⟨e, _⟩ | ⟨e, _⟩ | ⟨e, _⟩ <;> rw [e] <;> omega
    constructor
    · omega
    · push_cast; omega

theorem unus_wrap {L : FL} (h : ∀ k, k ≤ 4 → (L k).length ≤ 256) {k : Nat} (hk : k ≤ 4) : wrap64 (unusM L k + wrap64 ((L k).length * 2 ^ k)) = unusM L (k + 1) := by
  have h1 := unusM_bound h k (by omega)
  have h2 := unusM_bound h (k + 1) (by omega)
  have e : unusM L (k + 1) = unusM L k + (L k).length * 2 ^ k := rfl
  rw [e] at h2 ⊢
  generalize ((L k).length : Int) * 2 ^ k = q at *
  unfold wrap64
  omega

attribute [local go_sem] wrap_pow

theorem sliceAt_five (B : Nat) (w : World) : ∀ o : Nat, o ≤ 4 → (Instr.sliceAt 23 (.pointer (some ⟨B, 5, none⟩)) none (some (.int .i64 (o : Int))) none).run Try.prog w = .ok (.slice (some ⟨B, 5, none⟩) o 5) w :=
  five (by kernel_rfl) (by kernel_rfl) (by kernel_rfl) (by kernel_rfl) (by kernel_rfl)

theorem box_one {w w1 : World} {A : Obj} (h : Below (w.alloc A).heap.size (w.alloc A) w1) : Below w.heap.size w w1 := ((Below.refl _ w).alloc (Nat.le_refl _) A).trans (h.mono (by simp))

set_option maxRecDepth 100000 in
set_option maxHeartbeats 1000000 in
theorem last_err (z : Zh) (s : Nat → Value) (L : FL) (w : World) (hz : z.fits) (hrd : rdZ w s L) (hfit : fitsL L) (he : chkM z L ≠ 0) :
    Calls Try.prog 55 #[zv z s] w fun e w' => e = .returned (.int .i64 0) ∧ Below w.heap.size w w' := by
  have HR := Lib.hid hrd; clear hrd
  have HF := Lib.hid hfit; clear hfit
  go_enter Try.func55, Try.ntmps55
  go_wp2_with (go_at_call 16; refine (check_any z s L _ hz (HR.out.below ((Below.refl _ w).alloc (Nat.le_refl _) _)) HF.out).mono ?_; rintro e w1 ⟨rfl, hb1⟩)
  go_ret
  exact ⟨rfl, box_one hb1⟩

set_option maxRecDepth 100000 in
set_option maxHeartbeats 1000000 in
theorem last_ok (z : Zh) (s : Nat → Value) (L : FL) (w : World) (hz : z.ok = true) (hv : Valid z L) (hrd : rdZ w s L) :
    Calls Try.prog 55 #[zv z s] w fun e w' => e = .returned (.int .i64 ((L 4).length * 16)) ∧ Below w.heap.size w w' := by
  have HR := Lib.hid hrd; clear hrd
  have HV := Lib.hid hv; clear hv
  obtain ⟨a, c, hs, hlen, hcell⟩ := (HR.out 4 (by omega)).split
  have hl := HV.out.len hz (show 4 ≤ 4 by omega)
  clear hcell hlen
  have HS := Lib.hid hs; clear hs
  go_enter Try.func55, Try.ntmps55
  go_wp2_with (go_at_call 16; refine (check_ok z s L _ hz HV.out (HR.out.below ((Below.refl _ w).alloc (Nat.le_refl _) _))).mono ?_; rintro e w1 ⟨rfl, hb1⟩; have hc9 : w1.cell? ⟨w.heap.size, 9, none⟩ = some (.slice a (L 4).length c) := by rw [cell_of_block ((hb1.block w.heap.size (by simp)).trans (heap_alloc_new w _))]; exact congrArg some HS.out)
  go_ret
  exact ⟨ret_int (by first | rfl | (simp; done) | omega), box_one hb1⟩

set_option maxRecDepth 100000 in
set_option maxHeartbeats 1000000 in
theorem unusable_err (z : Zh) (s : Nat → Value) (L : FL) (o : Int) (w : World) (hz : z.fits) (hrd : rdZ w s L) (hfit : fitsL L) (he : chkM z L ≠ 0) :
    Calls Try.prog 39 #[zv z s, .int .i64 o] w fun e w' => e = .returned (.int .i64 0) ∧ Below w.heap.size w w' := by
  have HR := Lib.hid hrd; clear hrd
  have HF := Lib.hid hfit; clear hfit
  go_enter Try.func39, Try.ntmps39
  go_wp2_with (go_at_call 16; refine (check_any z s L _ hz (HR.out.below ((Below.refl _ w).alloc (Nat.le_refl _) _)) HF.out).mono ?_; rintro e w1 ⟨rfl, hb1⟩)
  go_ret
  exact ⟨rfl, box_one hb1⟩

set_option maxRecDepth 100000 in
set_option maxHeartbeats 1000000 in
theorem unusable_ord (z : Zh) (s : Nat → Value) (L : FL) (o : Int) (w : World) (hz : z.ok = true) (hv : Valid z L) (hrd : rdZ w s L) (ho : o < 0 ∨ 4 < o) :
    Calls Try.prog 39 #[zv z s, .int .i64 o] w fun e w' => e = .returned (.int .i64 0) ∧ Below w.heap.size w w' := by
  have HR := Lib.hid hrd; clear hrd
  have HV := Lib.hid hv; clear hv
  rcases ho with ho | ho
  all_goals
    try (have ho' : ¬ o < 0 := by omega)
    go_enter Try.func39, Try.ntmps39
    go_wp2_with (go_at_call 16; refine (check_ok z s L _ hz HV.out (HR.out.below ((Below.refl _ w).alloc (Nat.le_refl _) _))).mono ?_; rintro e w1 ⟨rfl, hb1⟩)
    go_ret
    exact ⟨rfl, box_one hb1⟩

set_option maxRecDepth 100000 in
set_option maxHeartbeats 1000000 in
theorem unusable_ok (z : Zh) (s : Nat → Value) (L : FL) (o : Nat) (w : World) (hz : z.ok = true) (hv : Valid z L) (hrd : rdZ w s L) (ho : o ≤ 4) :
    Calls Try.prog 39 #[zv z s, .int .i64 (o : Int)] w fun e w' => e = .returned (.int .i64 (unusM L o)) ∧ Below w.heap.size w w' := by
  have HR := Lib.hid hrd; clear hrd
  have HV := Lib.hid hv; clear hv
  have hd0 : decide ((o : Int) < 0) = false := by simp
  have hd1 : decide ((4 : Int) < (o : Int)) = false := by simp; omega
  go_enter Try.func39, Try.ntmps39
  go_upto_block 0 with (go_at_call 16; refine (check_ok z s L _ hz HV.out (HR.out.below ((Below.refl _ w).alloc (Nat.le_refl _) _))).mono ?_; rintro e w1 ⟨rfl, hb1⟩; have hsl := sliceAt_five w.heap.size w1 o ho)
  have hbx : boxed w1 w.heap.size z s := (hb1.block w.heap.size (by simp)).trans (heap_alloc_new w _)
  have hbel := box_one hb1
  have HB := Lib.hid hbx; clear hbx hb1
  clear hsl
  go_wp2_with fail
  go_loopg [5, 23] o (fun n s5 s23 wr => ∃ k : Nat, s5 = .int .i64 (unusM L k) ∧ s23 = .int .i64 k ∧ k ≤ o ∧ Hid (n = o - k) ∧ wr = w1)
  case atStart => exact ⟨0, rfl, rfl, by omega, rfl, rfl⟩
  case round =>
    obtain ⟨k, rfl, rfl, hk, hn, rfl⟩ := hrel
    by_cases hlt : k < o
    · have hk4 : k ≤ 4 := by omega
      obtain ⟨a, c, hs, _, _⟩ := (HR.out k hk4).split
      have hfl := box_field HB.out k hk4
      rw [hs] at hfl
      clear hs
      have hlen := HV.out.len hz hk4
      have hu := unusM_bound (L := L) (fun k hk => HV.out.len hz hk) k (by omega)
      have hu0 := hu.1
      have hu1 : unusM L k ≤ 20000 := by have := hu.2; omega
      clear hu
      have hko : (k : Int) < (o : Int) := by omega
      have HW := Lib.hid (unusM_bound (L := L) (fun k hk => HV.out.len hz hk) (k + 1) (by omega))
      go_wp2_with fail
      go_roundg (o - (k + 1))
      case rel => exact ⟨k + 1, by rw [unus_wrap (fun k hk => HV.out.len hz hk) hk4], by go_num, by omega, rfl, rfl⟩
      case measure => have := hn.out; omega
    · have hko : Hid (k = o) := (show k = o by omega)
      go_wp2_with fail
      go_ret
      exact ⟨ret_int (by rw [hko.out]), hbel⟩

set_option maxRecDepth 100000 in
set_option maxHeartbeats 1000000 in
theorem largest_err (z : Zh) (s : Nat → Value) (L : FL) (w : World) (hz : z.fits) (hrd : rdZ w s L) (hfit : fitsL L) (he : chkM z L ≠ 0) :
    Calls Try.prog 37 #[zv z s] w fun e w' => e = .returned (.int .i64 (-1)) ∧ Below w.heap.size w w' := by
  have HR := Lib.hid hrd; clear hrd
  have HF := Lib.hid hfit; clear hfit
  go_enter Try.func37, Try.ntmps37
  go_wp2_with (go_at_call 16; refine (check_any z s L _ hz (HR.out.below ((Below.refl _ w).alloc (Nat.le_refl _) _)) HF.out).mono ?_; rintro e w1 ⟨rfl, hb1⟩)
  go_ret
  exact ⟨rfl, box_one hb1⟩

set_option maxRecDepth 100000 in
set_option maxHeartbeats 1000000 in
theorem largest_ok (z : Zh) (s : Nat → Value) (L : FL) (w : World) (hz : z.ok = true) (hv : Valid z L) (hrd : rdZ w s L) :
    Calls Try.prog 37 #[zv z s] w fun e w' => e = .returned (.int .i64 (largM L 5)) ∧ Below w.heap.size w w' := by
  have HR := Lib.hid hrd; clear hrd
  have HV := Lib.hid hv; clear hv
  go_enter Try.func37, Try.ntmps37
  go_upto_block 0 with (go_at_call 16; refine (check_ok z s L _ hz HV.out (HR.out.below ((Below.refl _ w).alloc (Nat.le_refl _) _))).mono ?_; rintro e w1 ⟨rfl, hb1⟩)
  have hbx : boxed w1 w.heap.size z s := (hb1.block w.heap.size (by simp)).trans (heap_alloc_new w _)
  have hbel := box_one hb1
  have HB := Lib.hid hbx; clear hbx hb1
  go_wp2_with fail
  go_loopg [3] 5 (fun n s3 wr => ∃ k : Nat, s3 = .int .i64 ((k : Int) - 1) ∧ k ≤ 5 ∧ Hid (n = k) ∧ Hid (largM L k = largM L 5) ∧ wr = w1)
  case atStart => exact ⟨5, rfl, by omega, rfl, rfl, rfl⟩
  case round =>
    obtain ⟨k, rfl, hk, hn, hl, rfl⟩ := hrel
    rcases k with _ | q
    · go_wp2_with fail
      go_ret
      exact ⟨ret_int (by rw [← hl.out]; rfl), hbel⟩
    · have hq4 : q ≤ 4 := by omega
      have e1 : ((q + 1 : Nat) : Int) - 1 = (q : Int) := by omega
      rw [e1]
      clear e1
      obtain ⟨a, c, hs, hlen, _⟩ := (HR.out q hq4).split
      have hfl := box_field HB.out q hq4
      rw [hs] at hfl
      clear hs
      have hq5 : (q : Int) < 5 := by omega
      have hll : largM L (q + 1) = if L q = [] then largM L q else q := rfl
      by_cases hnil : L q = []
      · have hl' : Hid (largM L q = largM L 5) := by have h1 := hl.out; rw [hll, if_pos hnil] at h1; exact h1
        rw [hnil] at hfl
        have hfl' : wr.cell? ⟨w.heap.size, 5 + q, none⟩ = some (.slice a 0 c) := hfl
        clear hfl hll
        have HN := Lib.hid hnil; clear hnil
        go_wp2_with fail
        go_roundg q
        case rel => exact ⟨q, rfl, by omega, rfl, hl'.out, rfl⟩
        case measure => have := hn.out; omega
      · have hl' : Hid ((q : Int) = largM L 5) := by have h1 := hl.out; rw [hll, if_neg hnil] at h1; exact h1
        have hpos : (0 : Int) < ((L q).length : Int) := by have := List.length_pos_iff.2 hnil; omega
        have HN := Lib.hid hnil
        clear hnil hll
        go_wp2_with fail
        go_ret
        exact ⟨ret_int hl'.out, hbel⟩

theorem rdZ.at {w w' : World} {s : Nat → Value} {L : FL} (h : rdZ w s L) (hb : Below w.heap.size w w') : Hid (rdZ w' s L) := h.below hb

theorem unusable_four (z : Zh) (s : Nat → Value) (L : FL) (w : World) (hz : z.ok = true) (hv : Valid z L) (hrd : rdZ w s L) :
    Calls Try.prog 39 #[zv z s, .int .i64 4] w fun e w' => e = .returned (.int .i64 (unusM L 4)) ∧ Below w.heap.size w w' := unusable_ok z s L 4 w hz hv hrd (by omega)

set_option maxRecDepth 100000 in
set_option maxHeartbeats 2000000 in
theorem count_ok (z : Zh) (s : Nat → Value) (L : FL) (w : World) (hz : z.ok = true) (hv : Valid z L) (hrd : rdZ w s L) :
    Calls Try.prog 35 #[zv z s] w fun e w' => e = .returned (.int .i64 (unusM L 5)) ∧ Below w.heap.size w w' := by
  have HR0 := Lib.hid hrd; clear hrd
  have HV := Lib.hid hv; clear hv
  have hu4 := unusM_bound (L := L) (fun k hk => HV.out.len hz hk) 4 (by omega)
  have hl4 := HV.out.len hz (show 4 ≤ 4 by omega)
  have hu0 := hu4.1
  have hu1 : unusM L 4 ≤ 20000 := by have := hu4.2; omega
  clear hu4
  have hsum : IntKind.i64.wrap (unusM L 4 + (L 4).length * 16) = unusM L 4 + (L 4).length * 16 := IntWalk.i64_in _ (by omega)
  have HSUM := Lib.hid hsum
  clear hsum
  go_enter Try.func35, Try.ntmps35
  go_wp2_with fail
  obtain ⟨w1, hw1⟩ : ∃ w1, w1 = w.alloc (.cells #[.int .i64 z.nd, .int .i64 z.kd, .int .i64 z.st, .int .i64 z.ct, .int .i64 z.mn, s 0, s 1, s 2, s 3, s 4] 25) := ⟨_, rfl⟩
  have hbx : boxed w1 w.heap.size z s := by rw [hw1]; exact heap_alloc_new w _
  have hbel : Below w.heap.size w w1 := by rw [hw1]; exact (Below.refl _ w).alloc (Nat.le_refl _) _
  rw [← hw1]
  have HR : Hid (rdZ w1.drew s L) := HR0.out.below hbel.drew
  have HBX : Hid (boxed w1.drew w.heap.size z s) := hbx
  clear hw1
  obtain ⟨c0, c1, c2, c3, c4, c5, c6, c7, c8, c9⟩ := boxed.head hbx
  clear hbx
  have hw := HSUM.out
  go_region_law (first | (go_simp; go_at_call 39; refine (unusable_four z s L _ hz HV.out ?h1).mono ?_; (case h1 => first | exact HR.out | exact HR.out.below hb2); rintro e wa ⟨rfl, hb1⟩; obtain ⟨d0, d1, d2, d3, d4, d5, d6, d7, d8, d9⟩ := boxed.head (w := wa) (B := w.heap.size) (z := z) (s := s) (by first | exact (hb1.block _ (lt_of_block HBX.out)).trans HBX.out | exact (hb1.block _ (Nat.lt_of_lt_of_le (lt_of_block HBX.out) hb2.size)).trans ((hb2.block _ (lt_of_block HBX.out)).trans HBX.out))) | (go_simp; go_at_call 55; refine (last_ok z s L _ hz HV.out ?h1).mono ?_; (case h1 => first | exact HR.out | exact HR.out.below hb1); rintro e wb ⟨rfl, hb2⟩; obtain ⟨e0, e1, e2, e3, e4, e5, e6, e7, e8, e9⟩ := boxed.head (w := wb) (B := w.heap.size) (z := z) (s := s) (by first | exact (hb2.block _ (lt_of_block HBX.out)).trans HBX.out | exact (hb2.block _ (Nat.lt_of_lt_of_le (lt_of_block HBX.out) hb1.size)).trans ((hb1.block _ (lt_of_block HBX.out)).trans HBX.out))))
  all_goals
    go_wp2_with fail
    go_ret
    refine ⟨ret_int ?_, ?_⟩
    · first
        | rfl
        | (show wrap64 (unusM L 4 + ((L 4).length : Int) * 16) = unusM L 5; exact hw)
        | exact hw
    · first
        | exact hbel.drew.trans ((hb1.mono hbel.size).trans (hb2.mono (Nat.le_trans hbel.size hb1.size)))
        | exact hbel.drew.trans ((hb2.mono hbel.size).trans (hb1.mono (Nat.le_trans hbel.size hb2.size)))
end Go.Proofs.Ytcmmoemmlellbaa
