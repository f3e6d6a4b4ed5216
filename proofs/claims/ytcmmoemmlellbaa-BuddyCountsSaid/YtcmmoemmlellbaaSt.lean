/- The reference's set: how many free blocks contain each frame: walked. Conditions: the blocks lie in the zone. -/
import Derived.Test.YtcmmoemmlellbaaRa
namespace Go.Proofs.Ytcmmoemmlellbaa
open Go.RowKit

/-- block B counts the frames of P -/
def counts (w : World) (B : Nat) (P : List Int) : Prop := ∃ C, w.heap[B]? = some (.cells C 3 (0, 0)) ∧ C.size = 256 ∧ ∀ j : Nat, j < 256 → C[j]? = some (.int .i64 (P.count (j : Int) : Nat))
theorem counts_new (w : World) : counts (w.alloc (.cells (Array.replicate 256 (.int .i64 0)) 3)) w.heap.size [] :=
  ⟨_, alloc_at w _, by simp, fun j hj => by simp [hj]⟩
theorem counts.cell {w : World} {B : Nat} {P : List Int} (h : counts w B P) {j : Nat} (hj : j < 256) : w.cell? ⟨B, j, none⟩ = some (.int .i64 (P.count (j : Int) : Nat)) := by
  obtain ⟨C, h1, h2, h3⟩ := h; rw [cell_of_block h1]; exact h3 j hj
theorem counts.frozen {w : World} {B : Nat} {P : List Int} (h : counts w B P) (j : Nat) : w.frozen? ⟨B, j, none⟩ = false := by
  obtain ⟨C, h1, _⟩ := h; exact frozen_of_block h1 j
theorem counts.lt {w : World} {B : Nat} {P : List Int} (h : counts w B P) : B < w.heap.size := by obtain ⟨C, h1, _⟩ := h; exact lt_of_block h1
theorem counts.below {w w' : World} {B : Nat} {P : List Int} (h : counts w B P) (hb : Below w.heap.size w w') : counts w' B P := by
  obtain ⟨C, h1, h2, h3⟩ := h; exact ⟨C, (hb.block B (lt_of_block h1)).trans h1, h2, h3⟩
theorem counts.set {w : World} {B : Nat} {P : List Int} (h : counts w B P) {j : Nat} (hj : j < 256) : counts (w.setCell ⟨B, j, none⟩ (.int .i64 ((P.count (j : Int) : Nat) + 1 : Int))) B (P ++ [(j : Int)]) := by
  obtain ⟨C, h1, h2, h3⟩ := h
  refine ⟨_, heap_setCell_at h1 j _, by simpa using h2, fun i hi => ?_⟩
  rw [Array.getElem?_setIfInBounds, List.count_append]
  by_cases e : j = i
  · subst e; rw [if_pos rfl, if_pos (by omega)]; simp
  · rw [if_neg e, h3 i hi]
    have : ¬ ((j : Int) = (i : Int)) := by omega
    simp [this]

theorem make256 (w : World) : (Instr.makeSlice 22 (.int .i64 256) (.int .i64 256)).run Try.prog w = .ok (.slice (some ⟨w.heap.size, 0, none⟩) 256 256) (w.alloc (.cells (Array.replicate 256 (.int .i64 0)) 3)) := by kernel_rfl

theorem lstF_len (k : Nat) : ∀ l : List Int, (lstF k l).length = l.length * 2 ^ k
  | [] => by simp [lstF]
  | x :: l => by
    have := lstF_len k l
    unfold lstF at *
    rw [List.flatMap_cons, List.length_append, this, blkF_len, List.length_cons]
    rw [Nat.add_mul, Nat.one_mul, Nat.add_comm]
theorem frs_len {L : FL} (h : ∀ k, k ≤ 4 → (L k).length ≤ 256) : (frs L).length ≤ 10000 := by
  have e : (frs L).length = (L 0).length * 2 ^ 0 + (L 1).length * 2 ^ 1 + (L 2).length * 2 ^ 2 + (L 3).length * 2 ^ 3 + (L 4).length * 2 ^ 4 := by
    unfold frs
    rw [frsTo_succ, frsTo_succ, frsTo_succ, frsTo_succ, frsTo_succ]
    simp only [List.length_append, lstF_len]
    simp [frsTo]
  have := h 0 (by omega); have := h 1 (by omega); have := h 2 (by omega); have := h 3 (by omega); have := h 4 (by omega)
  rw [e]; omega

attribute [local go_sem] wrap_pow

set_option maxRecDepth 100000 in
set_option maxHeartbeats 4000000 in
theorem set_any (z : Zh) (s : Nat → Value) (L : FL) (w : World) (hok : z.ok = true) (hrd : rdZ w s L) (hscan : scanZ z L 5 0 = 0) :
    Calls Try.prog 46 #[zv z s] w fun e w' => ∃ S, e = .returned (.slice (some ⟨S, 0, none⟩) 256 256) ∧ counts w' S (frs L) ∧ w.heap.size ≤ S ∧ Below w.heap.size w w' := by
  have HR := Lib.hid hrd; clear hrd
  have HOK := Lib.hid hok
  have HV := Lib.hid ((scanZ_zero 5 0).1 hscan)
  have hfl0 := frs_len (L := L) (fun k hk => list_len hok (HV.out k (by omega) (by omega)).1 (HV.out k (by omega) (by omega)).2)
  have HFL := Lib.hid hfl0
  have hzz := Zh.ok_iff.1 hok
  have hz1 : 0 ≤ z.st := by omega
  have hz2 : z.st + z.ct ≤ 256 := by omega
  clear hok hscan hfl0 hzz
  have hmk := fun w => make256 w
  go_enter Try.func46, Try.ntmps46
  go_upto_block 0 with (fail)
  obtain ⟨w1, hw1⟩ : ∃ w1, w1 = (w.alloc (.cells #[.int .i64 z.nd, .int .i64 z.kd, .int .i64 z.st, .int .i64 z.ct, .int .i64 z.mn, s 0, s 1, s 2, s 3, s 4] 25)).alloc (.cells (Array.replicate 256 (.int .i64 0)) 3) := ⟨_, rfl⟩
  have hbx : boxed w1 w.heap.size z s := by rw [hw1]; exact heap_alloc2_old w _ _
  have hcn : counts w1 (w.heap.size + 1) [] := by
    rw [hw1]
    have := counts_new (w.alloc (.cells #[.int .i64 z.nd, .int .i64 z.kd, .int .i64 z.st, .int .i64 z.ct, .int .i64 z.mn, s 0, s 1, s 2, s 3, s 4] 25))
    rwa [show (w.alloc (.cells #[.int .i64 z.nd, .int .i64 z.kd, .int .i64 z.st, .int .i64 z.ct, .int .i64 z.mn, s 0, s 1, s 2, s 3, s 4] 25)).heap.size = w.heap.size + 1 by simp] at this
  have hbel : Below w.heap.size w w1 := by rw [hw1]; exact below_two w _ _
  rw [← hw1]
  have HB := Lib.hid hbx
  have HC0 := Lib.hid hcn
  clear hw1 hbx hcn hmk
  go_wp2_with fail
  go_loopg [4] 5 (fun n s4 wr => ∃ k : Nat, s4 = .int .i64 k ∧ k ≤ 5 ∧ Hid (n = 5 - k) ∧ Hid (counts wr (w.heap.size + 1) (frsTo L k)) ∧ Hid (boxed wr w.heap.size z s) ∧ Below w.heap.size w wr)
  case atStart => exact ⟨0, rfl, by omega, rfl, by simpa [frsTo, Hid] using HC0.out, HB.out, hbel⟩
  case round =>
    obtain ⟨k, rfl, hk, hn, hcn, hbx, hbl⟩ := hrel
    by_cases hk5 : k < 5
    · have hk4 : k ≤ 4 := by omega
      have hki : (k : Int) < 5 := by omega
      have hd5 : decide ((k : Int) ≤ 4) = true := by simp; omega
      obtain ⟨a, c, hs, hlen, hcell⟩ := (HR.out k hk4).split
      have HC := Lib.hid hcell; clear hcell
      have HL : Hid (s k = .slice a (L k).length c) := hs
      clear hs
      go_wp2_with fail
      go_loopg [5] (L k).length (fun n s5 wr' => ∃ i : Nat, s5 = .int .i64 i ∧ i ≤ (L k).length ∧ Hid (n = (L k).length - i) ∧ Hid (counts wr' (w.heap.size + 1) (P2 L k i)) ∧ Hid (boxed wr' w.heap.size z s) ∧ Below w.heap.size w wr')
      case atStart => exact ⟨0, rfl, by omega, rfl, by rw [P2_zero]; exact hcn, hbx, hbl⟩
      case round =>
        obtain ⟨i, rfl, hi, hn', hcn', hbx', hbl'⟩ := hrel
        have hfl := box_field hbx'.out k hk4
        rw [HL.out] at hfl
        by_cases hlt : i < (L k).length
        · obtain ⟨b, o, rfl, hcl⟩ := HC.out i hlt
          obtain ⟨x, hx⟩ : ∃ x, x = (L k).getD i 0 := ⟨_, rfl⟩
          have hin : insB z x k = true := (HV.out k (by omega) (by omega)).1 x (by rw [hx, getD_eq hlt]; exact List.getElem_mem hlt)
          have HCI : Hid (w.cell? ⟨b, o + i, none⟩ = some (.int .i64 x)) := by rw [hx]; exact hcl i hlt
          have hci : wr.cell? ⟨b, o + i, none⟩ = some (.int .i64 x) := (hbl'.cell (p := ⟨b, o + i, none⟩) (block_lt_of_cell HCI.out)).trans HCI.out
          have hii := insB_iff.1 hin
          rw [← pw_eq] at hii
          have hp1 := (pw_bounds hk4).1
          have hp16 := (pw_bounds hk4).2
          have hx0 : 0 ≤ x := by omega
          have hx1 : x + pw k ≤ 256 := by omega
          have HX : Hid (x = (L k).getD i 0 ∧ pw k = 2 ^ k) := ⟨hx, rfl⟩
          have hilt : (i : Int) < ((L k).length : Int) := by omega
          clear hx hii hin hcl
          go_wp2_with fail
          clear hci hfl
          go_loopg [6] (2 ^ k) (fun n s6 wt => ∃ (t q : Nat), s6 = .int .i64 q ∧ Hid ((q : Int) = x + t ∧ n = 2 ^ k - t) ∧ (q : Int) ≤ x + pw k ∧ x ≤ q ∧ Hid (counts wt (w.heap.size + 1) (P3 L k i x t)) ∧ Hid (boxed wt w.heap.size z s) ∧ Below w.heap.size w wt)
          case atStart => exact ⟨0, x.toNat, by go_num, ⟨by omega, rfl⟩, by omega, by omega, by rw [P3_zero]; exact hcn', hbx', hbl'⟩
          case round =>
            obtain ⟨t, q, rfl, hq, hq1, hq2, hcn3, hbx3, hbl3⟩ := hrel
            have hpk : pw k = ((2 ^ k : Nat) : Int) := by rw [HX.out.2]; simp
            have HP := Lib.hid hpk; clear hpk
            have hfl := box_field hbx3.out k hk4
            rw [HL.out] at hfl
            have hci : wr.cell? ⟨b, o + i, none⟩ = some (.int .i64 x) := (hbl3.cell (p := ⟨b, o + i, none⟩) (block_lt_of_cell HCI.out)).trans HCI.out
            by_cases hqp : (q : Int) < x + pw k
            · have htk : Hid (t < 2 ^ k) := by have h1 := hq.out.1; have h2 := HP.out; show t < 2 ^ k; omega
              have hq256 : q < 256 := by omega
              have hcq := hcn3.out.cell hq256
              have hfq : wr.frozen? ⟨w.heap.size + 1, q, none⟩ = false := hcn3.out.frozen q
              have hq256' : (q : Int) < 256 := by omega
              have hset := hcn3.out.set hq256
              have HS := Lib.hid hset; clear hset
              have hcount : (P3 L k i x t).count (q : Int) ≤ 10000 := by
                have h1 : (P3 L k i x t).length ≤ (frs L).length := by rw [HX.out.1]; exact (P3_prefix hk5 hlt t).length_le
                have h2 := HFL.out
                have h3 := List.count_le_length (l := P3 L k i x t) (a := (q : Int))
                omega
              obtain ⟨m, hm⟩ : ∃ m, m = (P3 L k i x t).count (q : Int) := ⟨_, rfl⟩
              rw [← hm] at hcq hcount
              have HM := Lib.hid hm; clear hm
              go_wp2_with fail
              go_roundg (2 ^ k - (t + 1))
              case rel =>
                exact ⟨t + 1, q + 1, by go_num, ⟨by have := hq.out.1; omega, rfl⟩, by omega, by omega, by rw [P3_step htk.out, ← hq.out.1, HM.out]; exact HS.out,
                  (Below.heap_setCell _ _ _ _ (by simp)).trans hbx3.out, hbl3.setCell (by simp) _⟩
              case measure => have h1 := hq.out.2; have h2 := htk.out; omega
            · have htk : Hid (2 ^ k ≤ t) := by have h1 := hq.out.1; have h2 := HP.out; show 2 ^ k ≤ t; omega
              have HD : Hid (P3 L k i x t = P2 L k (i + 1)) := by rw [HX.out.1]; exact P3_done hlt htk.out
              go_wp2_with fail
              go_roundg ((L k).length - (i + 1))
              case rel => exact ⟨i + 1, by go_num, by omega, rfl, HD.out ▸ hcn3.out, hbx3.out, hbl3⟩
              case measure => have := hn'.out; omega
        · have HD : Hid (P2 L k i = frsTo L (k + 1)) := P2_done L k (by omega)
          go_wp2_with fail
          go_roundg (5 - (k + 1))
          case rel => exact ⟨k + 1, by go_num, by omega, rfl, HD.out ▸ hcn'.out, hbx'.out, hbl'⟩
          case measure => have := hn.out; omega
    · have HD : Hid (k = 5) := (show k = 5 by omega)
      go_wp2_with fail
      go_ret
      exact ⟨w.heap.size + 1, rfl, by have h1 := hcn.out; rw [HD.out] at h1; exact h1, by omega, hbl⟩
end Go.Proofs.Ytcmmoemmlellbaa
