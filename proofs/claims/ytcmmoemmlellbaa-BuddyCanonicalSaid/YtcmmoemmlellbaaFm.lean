/- Frames: walked. Conditions: the numbers fit. -/
import Derived.Test.YtcmmoemmlellbaaFs
import Derived.Test.YtcmmoemmlellbaaSt
import Derived.OwnWalk
import Derived.Lib.SmallJoins
import Derived.Maps.AppendAt
import Derived.Deep.CutRange
import Derived.Deep.CutBlock
namespace Go.Proofs.Ytcmmoemmlellbaa
open Go.RowKit
attribute [local go_sem] wrap_pow

/-- the call's own slice reads as the numbers -/
abbrev ownI (w : World) (base : Nat) (v : Value) (xs : List Int) : Prop := w.ownsRow base 3 1 v xs.length (xs.map (Value.int .i64))
theorem ownI.keep {w w' : World} {base : Nat} {v : Value} {xs : List Int} (h : ownI w base v xs) (hb : Below w.heap.size w w') : ownI w' base v xs := by
  refine ⟨h.1, ?_⟩
  rcases h.2 with h0 | ⟨g, cap, cur, rfl, hg, hh, h3⟩
  · exact .inl h0
  · exact .inr ⟨g, cap, cur, rfl, hg, (hb.block g (lt_of_block hh)).trans hh, h3⟩
theorem ownI.own {w : World} {base : Nat} {v : Value} {xs : List Int} (h : ownI w base v xs) : ∃ g, Go.Proofs.Ytcmmoemmlellbaa.own w base g v xs := by
  rcases h.2 with ⟨rfl, h0⟩ | ⟨g, cap, cur, rfl, hg, hh, h1, h2, h3, h4⟩
  · exact ⟨none, List.length_eq_zero_iff.1 h0, _, rfl⟩
  · refine ⟨some g, hg, 0, cap, cur, rfl, h1, by unfold maxLen at h2; omega, hh, by omega, fun j hj => ?_⟩
    rw [Nat.zero_add]
    have h5 : (cur.toList.take (xs.length * 1))[j]? = (xs.map (Value.int .i64))[j]? := by rw [h4]
    rw [List.getElem?_take, if_pos (by omega), Array.getElem?_toList, List.getElem?_map] at h5
    rw [h5, List.getD_eq_getElem?_getD, List.getElem?_eq_getElem hj]; rfl

set_option maxRecDepth 100000 in
set_option maxHeartbeats 1000000 in
theorem frames_err (z : Zh) (s : Nat → Value) (L : FL) (w : World) (hz : z.fits) (hrd : rdZ w s L) (hfit : fitsL L) (he : chkM z L ≠ 0) :
    Calls Try.prog 33 #[zv z s] w fun e w' => e = .returned (.slice none 0 0) ∧ Below w.heap.size w w' := by
  have HR := Lib.hid hrd; clear hrd
  have HF := Lib.hid hfit; clear hfit
  have hne : (chkM z L != 0) = true := by simpa using he
  go_enter Try.func33, Try.ntmps33
  go_wp2_with (go_at_call 16; refine (check_any z s L _ hz (HR.out.below ((Below.refl _ w).alloc (Nat.le_refl _) _)) HF.out).mono ?_; rintro e w1 ⟨rfl, hb1⟩)
  go_ret
  exact ⟨rfl, box_one' hb1⟩

set_option maxRecDepth 100000 in
set_option maxHeartbeats 4000000 in
theorem frames_ok (z : Zh) (s : Nat → Value) (L : FL) (w : World) (hz : z.ok = true) (hv : Valid z L) (hrd : rdZ w s L) :
    Calls Try.prog 33 #[zv z s] w fun e w' => ∃ v, e = .returned v ∧ Go.Proofs.Ytcmmoemmlellbaa.rd w' v (flist L) ∧ Below w.heap.size w w' := by
  have HR0 := Lib.hid hrd
  have HR := Lib.hid (hrd.below ((Below.refl _ w).alloc (Nat.le_refl _) (.cells #[.int .i64 z.nd, .int .i64 z.kd, .int .i64 z.st, .int .i64 z.ct, .int .i64 z.mn, s 0, s 1, s 2, s 3, s 4] 25))); clear hrd
  have HV := Lib.hid hv; clear hv
  have HFL : Hid ((frs L).length ≤ 10000) := frs_len (fun k hk => by have := HV.out.len hz hk; omega)
  have hzz := Zh.ok_iff.1 hz
  have hz1 : 0 ≤ z.st := by omega
  have hz2 : z.st + z.ct ≤ 256 := by omega
  clear hzz
  have hinfo : (Try.prog.info? 3).map (fun i => (i.zero, i.size, i.bytes)) = some (some (.int .i64 0), 1, 8) := by kernel_rfl
  obtain ⟨i0, hi0, hiz0, hiz1, hiz2⟩ := info_parts hinfo
  go_enter Try.func33, Try.ntmps33
  go_upto_region 4 with (go_at_call 16; refine (check_ok z s L _ hz HV.out HR.out).mono ?_; rintro e w1 ⟨rfl, hb1⟩)
  have hbx1 := (hb1.block w.heap.size (by simp)).trans (heap_alloc_new w _)
  have hbel1 : Below w.heap.size w w1 := box_one' hb1
  have hsz1 : w.heap.size + 1 ≤ w1.heap.size := lt_of_block hbx1
  obtain ⟨c0, c1, c2, c3, c4, c5, c6, c7, c8, c9⟩ := boxed.head hbx1
  clear hb1
  go_upto_block 0 with fail
  clear c0 c1 c2 c3 c4 c5 c6 c7 c8 c9 hbx1
  go_wp2_with fail
  go_loopg [3, 14] 5 (fun n s3 s14 wr => ∃ k : Nat, s14 = .int .i64 k ∧ k ≤ 5 ∧ Hid (n = 5 - k) ∧ Hid (ownI wr (w.heap.size + 1) s3 (frsTo L k)) ∧ w.heap.size + 1 ≤ wr.heap.size ∧ Below w.heap.size w wr)
  case atStart => exact ⟨0, rfl, by omega, rfl, World.ownsRow_nil _ _ _ _, hsz1, hbel1⟩
  case round =>
    obtain ⟨k, rfl, hk, hn, hown, hszr, hbl⟩ := hrel
    by_cases hk5 : k < 5
    · have hk4 : k ≤ 4 := by omega
      have hki : (k : Int) < 5 := by omega
      obtain ⟨a, c, hs, hlen, hcell⟩ := (HR0.out k hk4).split
      have HC := Lib.hid hcell
      have HL : Hid (s k = .slice a (L k).length c) := hs
      clear hs hcell
      go_upto_region 6 with fail
      go_cut [4, 5] from 15 to 37 (fun s4 s5 wx => s4 = .int .i64 k ∧ s5 = .slice a (L k).length c ∧ wx = wr)
      case first =>
        have hidx : ∀ w, (Instr.index 23 (.agg #[s 0, s 1, s 2, s 3, s 4]) (.int .i64 (k : Int))).run Try.prog w = .ok (.slice a (L k).length c) w := fun w => by rw [← HL.out]; exact index_five s w k hk4
        go_wp2_with fail
        go_meet
        case rel => exact ⟨rfl, rfl, rfl⟩
      case rest =>
        obtain ⟨rfl, rfl, hwc⟩ := hcut
        subst hwc
        go_wp2_with fail
        go_loopg [3, 20] (L k).length (fun n s3 s20 wr => ∃ i : Nat, s20 = .int .i64 i ∧ i ≤ (L k).length ∧ Hid (n = (L k).length - i) ∧ Hid (ownI wr (w.heap.size + 1) s3 (P2 L k i)) ∧ w.heap.size + 1 ≤ wr.heap.size ∧ Below w.heap.size w wr)
        case atStart => exact ⟨0, rfl, by omega, rfl, by rw [P2_zero]; exact hown, hszr, hbl⟩
        case round =>
          obtain ⟨i, rfl, hi, hn', hown', hszr', hbl'⟩ := hrel
          by_cases hlt : i < (L k).length
          · have hilt : (i : Int) < ((L k).length : Int) := by omega
            obtain ⟨b, o, rfl, hcl⟩ := HC.out i hlt
            obtain ⟨x, hx⟩ : ∃ x, x = (L k).getD i 0 := ⟨_, rfl⟩
            have hin : insB z x k = true := HV.out.ins k hk4 x (by rw [hx, getD_eq hlt]; exact List.getElem_mem hlt)
            have hc0 : w.cell? ⟨b, o + i, none⟩ = some (.int .i64 x) := by rw [hx]; exact hcl i hlt
            have hci := (hbl'.cell (block_lt_of_cell hc0)).trans hc0
            have hii := insB_iff.1 hin
            rw [← pw_eq] at hii
            have hp1 := (pw_bounds hk4).1
            have hp16 := (pw_bounds hk4).2
            have hx0 : 0 ≤ x := by omega
            have hx1 : x + pw k ≤ 256 := by omega
            have HX : Hid (x = (L k).getD i 0) := hx
            obtain ⟨m, hm⟩ : ∃ m : Nat, m = 2 ^ k := ⟨_, rfl⟩
            have HM : Hid (pw k = m ∧ m = 2 ^ k) := ⟨by rw [pw_eq, hm]; simp, hm⟩
            clear hx hii hin hcl hc0 hm
            go_upto_block 4 with fail
            rw [wrap_pow k hk4]
            go_wp2_with fail
            go_loopg [3, 26] m (fun n s3 s26 wr => ∃ t : Nat, s26 = .int .i64 t ∧ (t : Int) ≤ pw k ∧ Hid (n = m - t) ∧ Hid (ownI wr (w.heap.size + 1) s3 (P3 L k i x t)) ∧ w.heap.size + 1 ≤ wr.heap.size ∧ Below w.heap.size w wr)
            case atStart => exact ⟨0, rfl, by omega, rfl, by rw [P3_zero]; exact hown'.out, hszr', hbl'⟩
            case round =>
              obtain ⟨t, rfl, ht, hn3, hown3, hsz3, hbl3⟩ := hrel
              by_cases hlt3 : (t : Int) < pw k
              · have htm : t < 2 ^ k := by have h1 := HM.out.1; have h2 := HM.out.2; omega
                have hlen3 : (P3 L k i x t).length ≤ 10000 := by
                  have h1 : (P3 L k i x t).length ≤ (frs L).length := by rw [HX.out]; exact (P3_prefix hk5 hlt t).length_le
                  have h2 := HFL.out
                  omega
                have HST : Hid (P3 L k i x (t + 1) = P3 L k i x t ++ [x + t]) := P3_step htm
                have hxt : Hid (x + (t : Int) = x + (t : Int)) := rfl
                have ho3 := hown3.out
                clear htm
                go_upto_region 14 with (at_builtin; go_loud (refine wpList_append_own_at _ rfl _ _ 22 rfl (w.heap.size + 1) 3 i0 (.int .i64 0) 1 8 Try.underlying22 hi0 hiz0 hiz1 hiz2 rfl (by decide) _ _ _ rfl (ho3.alloc _) ⟨wr.heap.size, 0, none⟩ 1 1 [.int .i64 (x + (t : Int))] rfl rfl (cell_one_new _ _ _) (fun u hu => by simp at hu; subst hu; rfl) (by unfold maxLen; omega) (by omega) (by simp; omega) ?_); intro v' w4 hown4 hgrow hnil hat)
                have hown5 : Hid (ownI w4 (w.heap.size + 1) v' (P3 L k i x (t + 1))) := by
                  show ownI _ _ _ _
                  rw [HST.out]
                  have e1 : (P3 L k i x t).length + 1 = (P3 L k i x t ++ [x + (t : Int)]).length := by simp
                  rw [e1, show (P3 L k i x t).map (Value.int .i64) ++ [Value.int .i64 (x + (t : Int))] = (P3 L k i x t ++ [x + (t : Int)]).map (Value.int .i64) by simp] at hown4
                  exact hown4
                have hs4 : (wr.alloc (.cells #[.int .i64 (x + (t : Int))] 3)).heap.size = wr.heap.size + 1 := by simp
                have hbl4 : Below w.heap.size w w4 := hbl3.trans ⟨hgrow.os, hgrow.tape, hgrow.output, by have := hgrow.size; omega, fun b hb => (hgrow.block b (by omega) fun e => by have := (ho3.lt b e.symm).1; omega).trans (heap_alloc_old wr _ (by omega))⟩
                have hsz4 : w.heap.size + 1 ≤ w4.heap.size := by have := hgrow.size; omega
                clear hown4 hgrow hnil hat hs4 ho3
                go_wp2_with fail
                go_roundg (m - (t + 1))
                case rel => exact ⟨t + 1, by go_num, by omega, rfl, hown5.out, hsz4, hbl4⟩
                case measure =>
                  have h1 := hn3.out
                  have h2 := HM.out.1
                  omega
              · have HD : Hid (P3 L k i x t = P2 L k (i + 1)) := by rw [HX.out]; exact P3_done hlt (by have h1 := HM.out.1; have h2 := HM.out.2; omega)
                go_wp2_with fail
                go_roundg ((L k).length - (i + 1))
                case rel => exact ⟨i + 1, by go_num, by omega, rfl, by rw [← HD.out]; exact hown3.out, hsz3, hbl3⟩
                case measure => have := hn'.out; omega
          · have HD : Hid (P2 L k i = frsTo L (k + 1)) := P2_done L k (by omega)
            go_wp2_with fail
            go_roundg (5 - (k + 1))
            case rel => exact ⟨k + 1, by go_num, by omega, rfl, by rw [← HD.out]; exact hown'.out, hszr', hbl'⟩
            case measure => have := hn.out; omega
    · obtain rfl : k = 5 := by omega
      have hown' := hown.out
      obtain ⟨g, hg⟩ := ownI.own hown'
      have HG := Lib.hid hg
      have hl5 := HFL.out
      have hl6 : (frsTo L 5).length ≤ 10000 := hl5
      clear hown' hg
      go_wp2_with (go_at_call 54; refine (sort_any _ (frsTo L 5) _ (w.heap.size + 1) g HG.out (by omega)).mono ?_; rintro e w5 ⟨rfl, hrd5, hk5⟩)
      go_ret
      refine ⟨_, rfl, ?_, hbl.trans (hk5.to_below hbl.size fun b hb e => ?_)⟩
      · rw [← sort_frs hz HV.out]; exact hrd5
      · have h1 := HG.out
        rw [e] at h1
        have := h1.lt
        omega
end Go.Proofs.Ytcmmoemmlellbaa
