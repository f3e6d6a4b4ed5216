/- The reference's listError: walked. Conditions: the numbers fit. -/
import Derived.Test.YtcmmoemmlellbaaRa
import Derived.Deep.RegionLaw
import Derived.BigQuiet
import Derived.Deep.QuietTactic
namespace Go.Proofs.Ytcmmoemmlellbaa
open Go.RowKit

theorem scan_res {z : Zh} {L : FL} {k : Nat} {e : Int} (hk : k < 5) (hs : scanZ z L (5 - k) k = scanZ z L 5 0) (hf : scanF z k (L k) (L k).length 0 = e) (he : e ≠ 0) : scanZ z L 5 0 = e := by
  rw [← hs, show 5 - k = (5 - (k + 1)) + 1 by omega, scanZ, hf, if_neg he]

set_option maxRecDepth 100000 in
set_option maxHeartbeats 4000000 in
theorem listError_any (z : Zh) (s : Nat → Value) (L : FL) (w : World) (hok : z.ok = true) (hrd : rdZ w s L) (hfit : fitsL L) :
    Calls Try.prog 45 #[zv z s] w fun e w' => e = .returned (.int .i64 (scanZ z L 5 0)) ∧ Below w.heap.size w w' := by
  have HR := Lib.hid hrd; clear hrd
  have HF := Lib.hid hfit; clear hfit
  have HOK := Lib.hid hok; clear hok
  go_enter Try.func45, Try.ntmps45
  go_upto_block 0 with (fail)
  obtain ⟨w1, hw1⟩ : ∃ w1, w1 = w.alloc (.cells #[.int .i64 z.nd, .int .i64 z.kd, .int .i64 z.st, .int .i64 z.ct, .int .i64 z.mn, s 0, s 1, s 2, s 3, s 4] 25) := ⟨_, rfl⟩
  have hbx : boxed w1 w.heap.size z s := by rw [hw1]; exact heap_alloc_new w _
  have hbel : Below w.heap.size w w1 := by rw [hw1]; exact (Below.refl _ w).alloc (Nat.le_refl _) _
  rw [← hw1]
  have HB := Lib.hid hbx
  clear hw1 hbx
  go_wp2_with fail
  go_loopg [3] 5 (fun n s3 wr => ∃ k : Nat, s3 = .int .i64 k ∧ k ≤ 5 ∧ Hid (n = 5 - k) ∧ Hid (scanZ z L (5 - k) k = scanZ z L 5 0) ∧ Hid (boxed wr w.heap.size z s) ∧ Below w.heap.size w wr)
  case atStart => exact ⟨0, rfl, by omega, rfl, rfl, HB.out, hbel⟩
  case round =>
    obtain ⟨k, rfl, hk, hn, hsc, hbx, hbl⟩ := hrel
    by_cases hk5 : k < 5
    · have hk4 : k ≤ 4 := by omega
      have hki : (k : Int) < 5 := by omega
      have hd5 : decide ((k : Int) ≤ 4) = true := by simp; omega
      obtain ⟨a, c, hs, hlen, hcell⟩ := (HR.out k hk4).split
      have HC := Lib.hid hcell; clear hcell
      have HL : Hid (s k = .slice a (L k).length c) := hs
      clear hs
      go_wp2_with fail
      go_loopg [4] (L k).length (fun n s4 wr' => ∃ i : Nat, s4 = .int .i64 i ∧ i ≤ (L k).length ∧ Hid (n = (L k).length - i) ∧ Hid (scanF z k (L k) ((L k).length - i) i = scanF z k (L k) (L k).length 0) ∧ Hid (boxed wr' w.heap.size z s) ∧ Below w.heap.size w wr')
      case atStart => exact ⟨0, rfl, by omega, rfl, rfl, hbx.out, hbl⟩
      case round =>
        obtain ⟨i, rfl, hi, hn', hsf, hbx', hbl'⟩ := hrel
        obtain ⟨c0, c1, c2, c3, c4, c5, c6, c7, c8, c9⟩ := boxed.head hbx'.out
        have hfl := box_field hbx'.out k hk4
        rw [HL.out] at hfl
        by_cases hlt : i < (L k).length
        · obtain ⟨b, o, rfl, hcl⟩ := HC.out i hlt
          obtain ⟨x, hx⟩ : ∃ x, x = (L k).getD i 0 := ⟨_, rfl⟩
          have hfi : fits x := hx ▸ HF.out k hk4 _ (by rw [getD_eq hlt]; exact List.getElem_mem hlt)
          have hfi1 := hfi.1
          have hfi2 := hfi.2
          have hci := rd.cell_keep hcl hlt hbl'
          rw [← hx] at hci
          have HX := Lib.hid hx; clear hx
          have hilt : (i : Int) < ((L k).length : Int) := by omega
          have hfin := Lib.hid hfi
          go_upto_region 7 with fail
          go_cut [28] from 18 to 28 (fun s28 wx => ∃ v28, s28 = .bool v28 ∧ Hid (v28 = !insB z x k) ∧ Hid (boxed wx w.heap.size z s) ∧ Below w.heap.size w wx)
          case first =>
            go_region_law (first | (go_simp; go_at_call 47; with_reducible refine (rblock_any z s x k _ HOK.out hfin.out hk4).mono ?_; rintro e w2 ⟨rfl, hb2⟩))
            all_goals
              go_wp2_with fail
              go_meet
              case rel => exact ⟨_, rfl, rfl, (hb2.block _ (lt_of_block hbx'.out)).trans hbx'.out, hbl'.drew.trans (hb2.mono hbl'.size)⟩
          case rest =>
            obtain ⟨v28, rfl, hv28, hbxc, hblc⟩ := hcut
            by_cases hin : insB z x k = true
            · obtain rfl : v28 = false := by rw [hv28.out, hin]; rfl
              have hflc := box_field hbxc.out k hk4
              rw [HL.out] at hflc
              have hcc := rd.cell_keep hcl hlt hblc
              rw [← HX.out] at hcc
              have hcl' := hcl
              clear hcl hfl c0 c1 c2 c3 c4 c5 c6 c7 c8 c9 hci
              by_cases h0 : 0 < i
              · obtain ⟨y, hy⟩ : ∃ y, y = (L k).getD (i - 1) 0 := ⟨_, rfl⟩
                have hcp := rd.cell_keep hcl' (show i - 1 < (L k).length by omega) hblc
                rw [← hy] at hcp
                have HY := Lib.hid hy; clear hy
                have hd : decide ((0 : Int) < (i : Int)) = true := by simp; omega
                have hw1 : IntKind.i64.wrap ((i : Int) - 1) = (i : Int) - 1 := IntWalk.i64_in _ (by omega)
                have hi0 : (0 : Int) ≤ (i : Int) - 1 := by omega
                have hi1 : (i : Int) - 1 < ((L k).length : Int) := by omega
                have hi2 : ((i : Int) - 1).toNat = i - 1 := by omega
                by_cases hle : x ≤ y
                · have HS : Hid (scanF z k (L k) (L k).length 0 = 10) := by
                    have h1 := hsf.out; rw [scanF_step hlt, ← HX.out, ← HY.out, hin, if_neg (by simp), if_pos ⟨h0, hle⟩] at h1; exact h1.symm
                  go_wp2_with fail
                  go_quiet (fail)
                  clear hw1 hi2
                  go_wp2_with fail
                  go_ret
                  exact ⟨ret_int (scan_res hk5 hsc.out HS.out (by omega)).symm, Below.drewN' hblc _⟩
                · have HS : Hid (scanF z k (L k) ((L k).length - (i + 1)) (i + 1) = scanF z k (L k) (L k).length 0) := by
                    have h1 := hsf.out; rw [scanF_step hlt, ← HX.out, ← HY.out, hin, if_neg (by simp), if_neg (fun h => hle h.2)] at h1; exact h1
                  go_wp2_with fail
                  go_quiet (fail)
                  clear hw1 hi2
                  go_wp2_with fail
                  go_roundg ((L k).length - (i + 1))
                  case rel => exact ⟨i + 1, by go_num, by omega, rfl, HS.out, hbxc.out, Below.drewN' hblc _⟩
                  case measure => have := hn'.out; omega
              · have HS : Hid (scanF z k (L k) ((L k).length - (i + 1)) (i + 1) = scanF z k (L k) (L k).length 0) := by
                  have h1 := hsf.out; rw [scanF_step hlt, ← HX.out, hin, if_neg (by simp), if_neg (fun h => h0 h.1)] at h1; exact h1
                have hd : decide ((0 : Int) < (i : Int)) = false := by simp; omega
                go_wp2_with fail
                go_quiet (fail)
                go_wp2_with fail
                go_roundg ((L k).length - (i + 1))
                case rel => exact ⟨i + 1, by go_num, by omega, rfl, HS.out, hbxc.out, Below.drewN' hblc _⟩
                case measure => have := hn'.out; omega
            · have hin' : insB z x k = false := by simpa using hin
              obtain rfl : v28 = true := by rw [hv28.out, hin']; rfl
              have HS : Hid (scanF z k (L k) (L k).length 0 = 3) := by
                have h1 := hsf.out; rw [scanF_step hlt, ← HX.out, if_pos hin'] at h1; exact h1.symm
              clear hcl hin
              go_wp2_with fail
              go_ret
              exact ⟨ret_int (scan_res hk5 hsc.out HS.out (by omega)).symm, hblc⟩
        · have HS : Hid (scanZ z L (5 - (k + 1)) (k + 1) = scanZ z L 5 0) := by
            have h1 := hsf.out; rw [show (L k).length - i = 0 by omega, scanF] at h1
            exact (scanZ_step hk5 h1.symm).symm.trans hsc.out
          go_wp2_with fail
          go_roundg (5 - (k + 1))
          case rel => exact ⟨k + 1, by go_num, by omega, rfl, HS.out, hbx'.out, hbl'⟩
          case measure => have := hn.out; omega
    · have HS : Hid (scanZ z L 5 0 = 0) := by
        have h1 := hsc.out; rw [show 5 - k = 0 by omega, scanZ] at h1; exact h1.symm
      go_wp2_with fail
      go_ret
      exact ⟨ret_int HS.out.symm, hbl⟩
end Go.Proofs.Ytcmmoemmlellbaa
