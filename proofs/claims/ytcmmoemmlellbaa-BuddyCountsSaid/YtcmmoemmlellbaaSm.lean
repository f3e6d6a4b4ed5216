/- The reference's comparisons of lists and of zones. Conditions: none. -/
import Derived.Test.YtcmmoemmlellbaaCl
import Derived.BigQuiet
import Derived.Deep.QuietTactic
namespace Go.Proofs.Ytcmmoemmlellbaa
open Go.RowKit

theorem drewN_two (w : World) (a b : Nat) : (w.drewN a).drewN b = w.drewN (a + b) := by simp [World.drewN, Nat.add_assoc]

theorem getD_ext {xs ys : List Int} (h : xs.length = ys.length) (hj : ∀ j, j < xs.length → xs.getD j 0 = ys.getD j 0) : xs = ys := by
  refine List.ext_getElem h fun j h1 h2 => ?_
  have := hj j h1; rwa [getD_eq h1, getD_eq h2] at this

set_option maxRecDepth 100000 in
set_option maxHeartbeats 1000000 in
theorem sameInts_any (a b : Value) (xs ys : List Int) (w : World) (ha : rd w a xs) (hb : rd w b ys) :
    Calls Try.prog 32 #[a, b] w fun e w' => e = .returned (.bool (decide (xs = ys))) ∧ ∃ q, w' = w.drewN q := by
  obtain ⟨pa, ca, rfl, hla, hca⟩ := ha.split
  obtain ⟨pb, cb, rfl, hlb, hcb⟩ := hb.split
  clear ha hb
  have HA := Lib.hid hca; clear hca
  have HB := Lib.hid hcb; clear hcb
  by_cases hlen : xs.length = ys.length
  · have hne : (((xs.length : Int)) != ((ys.length : Int))) = false := by simp [hlen]
    have HL := Lib.hid hlen
    have hle : ys.length ≤ xs.length := by omega
    clear hlen
    go_enter Try.func32, Try.ntmps32
    go_wp2_with fail
    go_loopg [5] xs.length (fun n s5 wr => ∃ i q : Nat, s5 = .int .i64 i ∧ i ≤ xs.length ∧ Hid (n = xs.length - i) ∧ wr = w.drewN q ∧ Hid (∀ j, j < i → xs.getD j 0 = ys.getD j 0))
    case atStart => exact ⟨0, 0, rfl, by omega, rfl, rfl, fun j hj => by omega⟩
    case round =>
      obtain ⟨i, q, rfl, hi, hn, rfl, hp⟩ := hrel
      by_cases hlt : i < xs.length
      · obtain ⟨ba, oa, rfl, hxa⟩ := HA.out i hlt
        obtain ⟨bb, ob, rfl, hxb⟩ := HB.out i (by have := HL.out; omega)
        obtain ⟨x, hx⟩ : ∃ x, x = xs.getD i 0 := ⟨_, rfl⟩
        obtain ⟨y, hy⟩ : ∃ y, y = ys.getD i 0 := ⟨_, rfl⟩
        have h1 := hxa i hlt
        have h2 := hxb i (by have := HL.out; omega)
        rw [← hx] at h1
        rw [← hy] at h2
        have HX : Hid (x = xs.getD i 0 ∧ y = ys.getD i 0) := ⟨hx, hy⟩
        clear hx hy hxa hxb
        have hi1 : (i : Int) < (xs.length : Int) := by omega
        have hi2 : (i : Int) < (ys.length : Int) := by have := HL.out; omega
        go_wp2_with fail
        go_quiet (fail)
        by_cases hxy : x = y
        · have hq : (x != y) = false := by simp [hxy]
          have HXY := Lib.hid hxy; clear hxy
          go_wp2_with fail
          go_roundg (xs.length - (i + 1))
          case rel => exact ⟨i + 1, _, by go_num, by omega, rfl, rfl, fun j hj => by
            by_cases e : j = i
            · subst e; rw [← HX.out.1, ← HX.out.2]; exact HXY.out
            · exact hp.out j (by omega)⟩
          case measure => have := hn.out; omega
        · have hq : (x != y) = true := by simp [hxy]
          have HXY := Lib.hid hxy; clear hxy
          go_wp2_with fail
          go_ret
          refine ⟨ret_bool ?_, _, drewN_two _ _ _⟩
          have : xs ≠ ys := fun e => HXY.out (by rw [HX.out.1, HX.out.2, e])
          simp [this]
      · have HE : Hid (xs = ys) := getD_ext HL.out fun j hj => hp.out j (by omega)
        go_wp2_with fail
        go_ret
        exact ⟨ret_bool (by simp [HE.out]), _, rfl⟩
  · have hne : (((xs.length : Int)) != ((ys.length : Int))) = true := by simp; omega
    have HL := Lib.hid hlen
    clear hlen
    go_enter Try.func32, Try.ntmps32
    go_wp2_with fail
    go_ret
    refine ⟨ret_bool ?_, 0, rfl⟩
    have : xs ≠ ys := fun e => HL.out (by rw [e])
    simp [this]
/-- the five lists are the same -/
def sameL (L M : FL) : Bool := decide (L 0 = M 0 ∧ L 1 = M 1 ∧ L 2 = M 2 ∧ L 3 = M 3 ∧ L 4 = M 4)
theorem sameL_iff {L M : FL} : sameL L M = true ↔ ∀ k, k ≤ 4 → L k = M k := by
  simp only [sameL, decide_eq_true_eq]
  constructor
  · rintro ⟨h0, h1, h2, h3, h4⟩; exact five h0 h1 h2 h3 h4
  · intro h; exact ⟨h 0 (by omega), h 1 (by omega), h 2 (by omega), h 3 (by omega), h 4 (by omega)⟩

theorem rdZ.drewN {w : World} {s : Nat → Value} {L : FL} (h : rdZ w s L) (q : Nat) : rdZ (w.drewN q) s L := h.below (Below.drewN' (Below.refl _ w) q)

set_option maxRecDepth 100000 in
set_option maxHeartbeats 2000000 in
theorem same_any (z : Zh) (s t : Nat → Value) (L M : FL) (w : World) (hs : rdZ w s L) (ht : rdZ w t M) :
    Calls Try.prog 20 #[zv z s, zv z t] w fun e w' => e = .returned (.bool (sameL L M)) ∧ Below w.heap.size w w' := by
  have H1 := Lib.hid (hs.below (below_two w (.cells #[.int .i64 z.nd, .int .i64 z.kd, .int .i64 z.st, .int .i64 z.ct, .int .i64 z.mn, s 0, s 1, s 2, s 3, s 4] 25) (.cells #[.int .i64 z.nd, .int .i64 z.kd, .int .i64 z.st, .int .i64 z.ct, .int .i64 z.mn, t 0, t 1, t 2, t 3, t 4] 25)))
  have H2 := Lib.hid (ht.below (below_two w (.cells #[.int .i64 z.nd, .int .i64 z.kd, .int .i64 z.st, .int .i64 z.ct, .int .i64 z.mn, s 0, s 1, s 2, s 3, s 4] 25) (.cells #[.int .i64 z.nd, .int .i64 z.kd, .int .i64 z.st, .int .i64 z.ct, .int .i64 z.mn, t 0, t 1, t 2, t 3, t 4] 25)))
  clear hs ht
  go_enter Try.func20, Try.ntmps20
  go_upto_block 0 with (fail)
  obtain ⟨w1, hw1⟩ : ∃ w1, w1 = (w.alloc (.cells #[.int .i64 z.nd, .int .i64 z.kd, .int .i64 z.st, .int .i64 z.ct, .int .i64 z.mn, s 0, s 1, s 2, s 3, s 4] 25)).alloc (.cells #[.int .i64 z.nd, .int .i64 z.kd, .int .i64 z.st, .int .i64 z.ct, .int .i64 z.mn, t 0, t 1, t 2, t 3, t 4] 25) := ⟨_, rfl⟩
  have hb1 : boxed w1 w.heap.size z s := by rw [hw1]; exact heap_alloc2_old w _ _
  have hb2 : boxed w1 (w.heap.size + 1) z t := by rw [hw1]; exact heap_alloc2_new w _ _
  have hbl : Below w.heap.size w w1 := by rw [hw1]; exact below_two w _ _
  rw [← hw1] at H1 H2
  rw [← hw1]
  have HB1 := Lib.hid hb1
  have HB2 := Lib.hid hb2
  clear hw1 hb1 hb2
  go_wp2_with fail
  go_loopg [5] 5 (fun n s5 wr => ∃ k : Nat, s5 = .int .i64 k ∧ k ≤ 5 ∧ Hid (n = 5 - k) ∧ Hid (∃ q, wr = w1.drewN q) ∧ Hid (∀ j, j < k → L j = M j))
  case atStart => exact ⟨0, rfl, by omega, rfl, ⟨0, rfl⟩, fun j hj => by omega⟩
  case round =>
    obtain ⟨k, rfl, hk, hn, hw, hp⟩ := hrel
    by_cases hk4 : k ≤ 4
    · have f1 : wr.cell? ⟨w.heap.size, 5 + k, none⟩ = some (s k) := by obtain ⟨q, hq⟩ := hw.out; rw [hq]; exact box_field HB1.out k hk4
      have f2 : wr.cell? ⟨w.heap.size + 1, 5 + k, none⟩ = some (t k) := by obtain ⟨q, hq⟩ := hw.out; rw [hq]; exact box_field HB2.out k hk4
      have r1 : Hid (rd wr (s k) (L k)) := by obtain ⟨q, hq⟩ := hw.out; rw [hq]; exact H1.out.drewN q k hk4
      have r2 : Hid (rd wr (t k) (M k)) := by obtain ⟨q, hq⟩ := hw.out; rw [hq]; exact H2.out.drewN q k hk4
      have hki : (k : Int) < 5 := by omega
      go_wp2_with fail
      by_cases he : L k = M k
      · have hd : decide (L k = M k) = true := by simp [he]
        have HE := Lib.hid he
        clear he
        go_quiet ((go_at_call 32; exact Calls.quiet_of (sameInts_any (s k) (t k) (L k) (M k) _ (r1.out.below (Below.drewN' (Below.refl _ _) _)) (r2.out.below (Below.drewN' (Below.refl _ _) _)))))
        go_wp2_with fail
        go_roundg (5 - (k + 1))
        case rel => exact ⟨k + 1, by go_num, by omega, rfl, by obtain ⟨q, hq⟩ := hw.out; exact ⟨_, by rw [hq, drewN_two]⟩, fun j hj => by
          by_cases e : j = k
          · subst e; exact HE.out
          · exact hp.out j (by omega)⟩
        case measure => have := hn.out; omega
      · have hd : decide (L k = M k) = false := by simp [he]
        have HE := Lib.hid he
        clear he
        go_quiet ((go_at_call 32; exact Calls.quiet_of (sameInts_any (s k) (t k) (L k) (M k) _ (r1.out.below (Below.drewN' (Below.refl _ _) _)) (r2.out.below (Below.drewN' (Below.refl _ _) _)))))
        go_wp2_with fail
        go_ret
        refine ⟨ret_bool ?_, by obtain ⟨q, hq⟩ := hw.out; rw [hq, drewN_two]; exact Below.drewN' hbl _⟩
        have : ¬ sameL L M = true := fun h => HE.out (sameL_iff.1 h k hk4)
        simpa using this
    · have HE : Hid (sameL L M = true) := sameL_iff.2 fun j hj => hp.out j (by omega)
      go_wp2_with fail
      go_ret
      exact ⟨ret_bool HE.out.symm, by obtain ⟨q, hq⟩ := hw.out; rw [hq]; exact Below.drewN' hbl _⟩
end Go.Proofs.Ytcmmoemmlellbaa
