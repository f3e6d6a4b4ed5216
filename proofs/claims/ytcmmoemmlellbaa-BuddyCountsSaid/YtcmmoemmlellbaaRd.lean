/- The reference's Check on a state whose lists are sound: walked. Conditions: the numbers fit. -/
import Derived.Test.YtcmmoemmlellbaaRc
import Derived.Deep.RegionHeld3
import Derived.StillTailTactics
namespace Go.Proofs.Ytcmmoemmlellbaa
open Go.RowKit
attribute [local go_sem] wrap_pow

theorem shift_pw {k : Nat} (hk : k ≤ 4) : IntKind.i64.wrap (2 ^ min (IntKind.u64.wrap (k : Int)).toNat 64) = pw k := by
  obtain rfl | rfl | rfl | rfl | rfl : k = 0 ∨ k = 1 ∨ k = 2 ∨ k = 3 ∨ k = 4 := by omega
  all_goals decide +kernel

set_option maxRecDepth 100000 in
set_option maxHeartbeats 4000000 in
theorem rcheck_main (z : Zh) (s : Nat → Value) (L : FL) (w : World) (hz : z.fits) (hok : z.ok = true) (hrd : rdZ w s L) (hfit : fitsL L) (hscan : scanZ z L 5 0 = 0) :
    Calls Try.prog 17 #[zv z s] w fun e w' => e = .returned (.int .i64 (chkM z L)) ∧ Below w.heap.size w w' := by
  have HR0 := Lib.hid hrd
  have HR := Lib.hid (hrd.below ((Below.refl _ w).alloc (Nat.le_refl _) (.cells #[.int .i64 z.nd, .int .i64 z.kd, .int .i64 z.st, .int .i64 z.ct, .int .i64 z.mn, s 0, s 1, s 2, s 3, s 4] 25))); clear hrd
  have HF := Lib.hid hfit; clear hfit
  have HOK := Lib.hid hok
  have HS0 := Lib.hid hscan
  have HV := Lib.hid ((scanZ_zero 5 0).1 hscan)
  have hfl0 := frs_len (L := L) (fun k hk => list_len hok (HV.out k (by omega) (by omega)).1 (HV.out k (by omega) (by omega)).2)
  have HFL := Lib.hid hfl0
  have HRG := Lib.hid (frs_range hok hscan)
  clear hok hscan hfl0
  go_enter Try.func17, Try.ntmps17
  go_upto_block 0 with (first | (go_at_call 44; refine (inRange_any z s _ hz).mono ?_; rintro e w1 ⟨he, hb1⟩; rw [HOK.out] at he; subst he; (have hbx1 := (hb1.block w.heap.size (by simp)).trans (heap_alloc_new w _)); obtain ⟨c0, c1, c2, c3, c4, c5, c6, c7, c8, c9⟩ := boxed.head hbx1; have HB1 := Lib.hid hbx1; clear hbx1) | (go_at_call 45; refine (listError_zero z s L _ HOK.out (HR.out.below hb1) HF.out HS0.out).mono ?_; rintro e w2 ⟨rfl, hb2⟩; (have hbx2 := (hb2.block _ (lt_of_block HB1.out)).trans HB1.out); obtain ⟨d0, d1, d2, d3, d4, d5, d6, d7, d8, d9⟩ := boxed.head hbx2; have HB2 := Lib.hid hbx2; clear hbx2) | (go_at_call 46; refine (set_any z s L _ HOK.out ((HR.out.below hb1).below hb2) HS0.out).mono ?_; rintro e w3 ⟨S, rfl, hcn, hS, hb3⟩))
  have hbx : boxed w3 w.heap.size z s := (hb3.block _ (lt_of_block HB2.out)).trans HB2.out
  have hbel : Below w.heap.size w w3 := ((box_one hb1).trans (hb2.mono (box_one hb1).size)).trans (hb3.mono (Nat.le_trans (box_one hb1).size hb2.size))
  have HB := Lib.hid hbx
  have HC := Lib.hid hcn
  clear hb1 hb2 hb3 hbx hcn c0 c1 c2 c3 c4 c5 c6 c7 c8 c9 d0 d1 d2 d3 d4 d5 d6 d7 d8 d9
  go_cut [] from 18 to 28 (fun wx => Hid ((frs L).Nodup) ∧ wx = w3)
  case first =>
    go_wp2_with fail
    go_loopg [5] 256 (fun n s5 wr => ∃ f : Nat, s5 = .int .i64 f ∧ f ≤ 256 ∧ Hid (n = 256 - f) ∧ Hid (∀ j : Nat, j < f → (frs L).count (j : Int) ≤ 1) ∧ wr = w3)
    case atStart => exact ⟨0, rfl, by omega, rfl, fun j hj => by omega, rfl⟩
    case round =>
      obtain ⟨f, rfl, hf, hn, hp, rfl⟩ := hrel
      by_cases hlt : f < 256
      · have hcf := HC.out.cell hlt
        have hlt' : (f : Int) < 256 := by omega
        obtain ⟨m, hm⟩ : ∃ m, m = (frs L).count (f : Int) := ⟨_, rfl⟩
        rw [← hm] at hcf
        have HM := Lib.hid hm; clear hm
        by_cases hm1 : 1 < m
        · have HN : Hid (¬ (frs L).Nodup) := fun h => by
            have := (nodup_count HRG.out).1 h f hlt
            rw [← HM.out] at this; omega
          go_wp2_with fail
          go_ret
          exact ⟨ret_int (chk_dup HOK.out HS0.out HN.out).symm, hbel⟩
        · go_wp2_with fail
          go_roundg (256 - (f + 1))
          case rel => exact ⟨f + 1, by go_num, by omega, rfl, fun j hj => by
            by_cases e : j = f
            · subst e; rw [← HM.out]; omega
            · exact hp.out j (by omega), rfl⟩
          case measure => have := hn.out; omega
      · have HN : Hid ((frs L).Nodup) := (nodup_count HRG.out).2 fun j hj => hp.out j (by omega)
        go_wp2_with fail
        go_meet
        case rel => exact ⟨HN.out, rfl⟩
  case rest =>
    obtain ⟨hnd, rfl⟩ := hcut
    have HS := Lib.hid (chk_pair HOK.out HS0.out hnd.out)
    go_wp2_with fail
    go_loopg [6] 4 (fun n s6 wr => ∃ k : Nat, s6 = .int .i64 k ∧ k ≤ 4 ∧ Hid (n = 4 - k) ∧ Hid (∀ j i, j < k → 1 ≤ i → i < (L j).length → adjAt z L j i = false) ∧ Hid (boxed wr w.heap.size z s) ∧ Below w.heap.size w wr)
    case atStart => exact ⟨0, rfl, by omega, rfl, fun j i hj => by omega, HB.out, hbel⟩
    case round =>
      obtain ⟨k, rfl, hk, hn, hpl, hbx, hbl⟩ := hrel
      by_cases hk3 : k < 4
      · have hk4 : k ≤ 4 := by omega
        have hki : (k : Int) < 4 := by omega
        have hki5 : (k : Int) < 5 := by omega
        have hd4 : decide ((k : Int) < 4) = true := by simp; omega
        obtain ⟨a, c, hs, hlen, hcell⟩ := (HR0.out k hk4).split
        have HCL := Lib.hid hcell; clear hcell
        have HL : Hid (s k = .slice a (L k).length c) := hs
        clear hs
        have hl256 := list_len HOK.out (HV.out k (by omega) (by omega)).1 (HV.out k (by omega) (by omega)).2
        go_wp2_with fail
        go_loopg [7] 300 (fun n s7 wr' => ∃ i : Nat, s7 = .int .i64 i ∧ 1 ≤ i ∧ i ≤ 257 ∧ Hid (n = 301 - i) ∧ Hid (∀ j, 1 ≤ j → j < i → j < (L k).length → adjAt z L k j = false) ∧ Hid (boxed wr' w.heap.size z s) ∧ Below w.heap.size w wr')
        case atStart => exact ⟨1, rfl, by omega, by omega, rfl, fun j h1 h2 => by omega, hbx.out, hbl⟩
        case round =>
          obtain ⟨i, rfl, hi1, hi, hn', hpa, hbx', hbl'⟩ := hrel
          have hfl := box_field hbx'.out k hk4
          rw [HL.out] at hfl
          by_cases hlt : i < (L k).length
          · obtain ⟨b, o, rfl, hcl⟩ := HCL.out i hlt
            obtain ⟨x, hx⟩ : ∃ x, x = (L k).getD i 0 := ⟨_, rfl⟩
            obtain ⟨y, hy⟩ : ∃ y, y = (L k).getD (i - 1) 0 := ⟨_, rfl⟩
            have hciw := hcl i hlt
            have hcpw := hcl (i - 1) (by omega)
            have hci : wr.cell? ⟨b, o + i, none⟩ = some (.int .i64 x) := by rw [hx]; exact rd.cell_keep hcl hlt hbl'
            have hcp : wr.cell? ⟨b, o + (i - 1), none⟩ = some (.int .i64 y) := by rw [hy]; exact rd.cell_keep hcl (show i - 1 < (L k).length by omega) hbl'
            have hiny : insB z y k = true := (HV.out k (by omega) (by omega)).1 y (by rw [hy, getD_eq (show i - 1 < (L k).length by omega)]; exact List.getElem_mem _)
            have hii := insB_iff.1 hiny
            rw [← pw_eq] at hii
            have hzz := Zh.ok_iff.1 HOK.out
            have hp1 := (pw_bounds hk4).1
            have hp16 := (pw_bounds hk4).2
            have hy0 : 0 ≤ y := by omega
            have hy1 : y + pw k ≤ 256 := by omega
            have HXY : Hid (x = (L k).getD i 0 ∧ y = (L k).getD (i - 1) 0) := ⟨hx, hy⟩
            clear hzz hii hiny hciw hcpw hcl hx hy
            have hilt : (i : Int) < ((L k).length : Int) := by omega
            have hi1i : (1 : Int) ≤ (i : Int) := by omega
            have hi0 : (0 : Int) ≤ (i : Int) - 1 := by omega
            have hi1' : (i : Int) - 1 < ((L k).length : Int) := by omega
            have hi2 : ((i : Int) - 1).toNat = i - 1 := by omega
            have hw1 : IntKind.i64.wrap ((i : Int) - 1) = (i : Int) - 1 := IntWalk.i64_in _ (by omega)
            have hw2 : IntKind.i64.wrap (y + pw k) = y + pw k := IntWalk.i64_in _ (by omega)
            have hfy : fits y := by unfold fits; omega
            have HW := Lib.hid hw1
            have HW2 := Lib.hid hw2
            have HI2 := Lib.hid hi2
            have HFY := Lib.hid hfy
            clear hw1 hw2 hi2
            obtain ⟨c0, c1, c2, c3, c4, c5, c6, c7, c8, c9⟩ := boxed.head hbx'.out
            go_upto_region 18 with fail
            go_cut [75] from 42 to 75 (fun s75 wx => ∃ v, s75 = .bool v ∧ Hid (v = adjAt z L k i) ∧ Hid (boxed wx w.heap.size z s) ∧ Below w.heap.size w wx)
            case first =>
              by_cases he : x = y + pw k
              · subst he
                have HV75 : Hid (insB z y (k + 1) = adjAt z L k i) := by
                  unfold adjAt
                  rw [← HXY.out.1, ← HXY.out.2, ← pw_eq]
                  exact (show _ = _ by simp)
                have hw1 := HW.out
                have hw2 := HW2.out
                have hi2 := HI2.out
                have hE : (y + pw k == y + pw k) = true := by simp
                have hsh := shift_pw hk4
                have hk1w : IntKind.i64.wrap ((k : Int) + 1) = (k : Int) + 1 := IntWalk.i64_in _ (by omega)
                go_still_tail 32, (by kernel_rfl)
                change wpList _ _ _ _ _ wr.drew
                have hbd : Below w.heap.size w wr.drew := hbl'.drew
                have HBD : Hid (boxed wr.drew w.heap.size z s) := hbx'.out
                generalize wr.drew = wd at *
                go_wp2_with (go_at_call 47; refine (rblock_any z s y (k + 1) _ HOK.out HFY.out (by omega)).mono ?_; rintro e wv ⟨rfl, hbv⟩)
                go_meet
                case rel => exact ⟨_, rfl, HV75.out, (hbv.block _ (lt_of_block HBD.out)).trans HBD.out, hbd.trans (hbv.mono hbd.size)⟩
              · have hE : (x == y + pw k) = false := by simpa using he
                have HV75 : Hid (false = adjAt z L k i) := by
                  unfold adjAt
                  rw [← HXY.out.1, ← HXY.out.2, ← pw_eq]
                  exact (show _ = _ by simp [he])
                have HE := Lib.hid he
                clear he
                have hw1 := HW.out
                have hw2 := HW2.out
                have hi2 := HI2.out
                go_quiet (fail)
                go_wp2_with fail
                go_meet
                case rel => exact ⟨_, rfl, HV75.out, hbx'.out, Below.drewN' hbl' _⟩
            case rest =>
              obtain ⟨v, rfl, hv, hbxv, hblv⟩ := hcut
              cases v with
              | true =>
                have HP : Hid (pairB z L = true) := (adj_pair HOK.out HS0.out).2 ⟨k, i, hk3, hi1, hlt, hv.out.symm⟩
                go_wp2_with fail
                go_ret
                exact ⟨ret_int (by rw [HS.out, HP.out]; rfl), hblv⟩
              | false =>
                go_wp2_with fail
                go_roundg (301 - (i + 1))
                case rel => exact ⟨i + 1, by go_num, by omega, by omega, rfl, fun j h1 h2 h3 => by
                  by_cases e : j = i
                  · subst e; exact hv.out.symm
                  · exact hpa.out j h1 (by omega) h3, hbxv.out, hblv⟩
                case measure => have := hn'.out; omega
          · have HP : Hid (∀ j i, j < k + 1 → 1 ≤ i → i < (L j).length → adjAt z L j i = false) := fun j i' hj h1 h2 => by
              by_cases e : j = k
              · subst e; exact hpa.out i' h1 (by omega) h2
              · exact hpl.out j i' (by omega) h1 h2
            go_wp2_with fail
            go_roundg (4 - (k + 1))
            case rel => exact ⟨k + 1, by go_num, by omega, rfl, HP.out, hbx'.out, hbl'⟩
            case measure => have := hn.out; omega
      · have HP : Hid (pairB z L = false) := by
          refine Bool.eq_false_iff.2 fun h => ?_
          obtain ⟨j, i, h1, h2, h3, h4⟩ := (adj_pair HOK.out HS0.out).1 h
          rw [hpl.out j i (by omega) h2 h3] at h4
          exact Bool.noConfusion h4
        go_wp2_with fail
        go_ret
        exact ⟨ret_int (by rw [HS.out, HP.out]; rfl), hbl⟩

theorem rcheck_any (z : Zh) (s : Nat → Value) (L : FL) (w : World) (hz : z.fits) (hrd : rdZ w s L) (hfit : fitsL L) :
    Calls Try.prog 17 #[zv z s] w fun e w' => e = .returned (.int .i64 (chkM z L)) ∧ Below w.heap.size w w' := by
  by_cases hok : z.ok = true
  · by_cases hs : scanZ z L 5 0 = 0
    · exact rcheck_main z s L w hz hok hrd hfit hs
    · refine (rcheck_scan z s L w hz hok hrd hfit hs).mono fun e w' ⟨he, hb⟩ => ⟨?_, hb⟩
      rw [he]; exact ret_int (by unfold chkM; rw [if_neg (by simp [hok]), if_pos hs])
  · refine (rcheck_bad z s w hz (by simpa using hok)).mono fun e w' ⟨he, hb⟩ => ⟨?_, hb⟩
    rw [he]; exact ret_int (by unfold chkM; rw [if_pos (by simpa using hok)])
end Go.Proofs.Ytcmmoemmlellbaa
