/- The reference's Frames, Count, Largest and Unusable: walked; Count on a zone with an error. Conditions: the numbers fit. -/
import Derived.Test.YtcmmoemmlellbaaRp
import Derived.Test.YtcmmoemmlellbaaFm
namespace Go.Proofs.Ytcmmoemmlellbaa
open Go.RowKit
attribute [local go_sem] wrap_pow

/-- the free frames below a bound -/
def flTo (L : FL) (n : Nat) : List Int := ((List.range n).map fun t : Nat => (t : Int)).filter fun x => freeB L x
theorem flTo_succ (L : FL) (n : Nat) : flTo L (n + 1) = flTo L n ++ (if freeB L (n : Int) = true then [(n : Int)] else []) := by
  unfold flTo
  rw [List.range_succ, List.map_append, List.filter_append]
  congr 1
  by_cases h : freeB L (n : Int) = true
  · simp [h]
  · rw [if_neg h]; simp [h]
theorem flTo_len (L : FL) (n : Nat) : (flTo L n).length ≤ n := by
  unfold flTo
  refine Nat.le_trans (List.length_filter_le _ _) ?_
  simp

set_option maxRecDepth 100000 in
set_option maxHeartbeats 1000000 in
theorem rframes_err (z : Zh) (s : Nat → Value) (L : FL) (w : World) (hz : z.fits) (hrd : rdZ w s L) (hfit : fitsL L) (he : chkM z L ≠ 0) :
    Calls Try.prog 34 #[zv z s] w fun e w' => e = .returned (.slice none 0 0) ∧ Below w.heap.size w w' := by
  have HR := Lib.hid hrd; clear hrd
  have HF := Lib.hid hfit; clear hfit
  have hne : (chkM z L != 0) = true := by simpa using he
  go_enter Try.func34, Try.ntmps34
  go_wp2_with (go_at_call 17; refine (rcheck_any z s L _ hz (HR.out.below ((Below.refl _ w).alloc (Nat.le_refl _) _)) HF.out).mono ?_; rintro e w1 ⟨rfl, hb1⟩)
  go_ret
  exact ⟨rfl, box_one' hb1⟩

set_option maxRecDepth 100000 in
set_option maxHeartbeats 2000000 in
theorem rframes_ok (z : Zh) (s : Nat → Value) (L : FL) (w : World) (hz : z.ok = true) (hv : Valid z L) (hrd : rdZ w s L) :
    Calls Try.prog 34 #[zv z s] w fun e w' => ∃ v, e = .returned v ∧ Go.Proofs.Ytcmmoemmlellbaa.rd w' v (flist L) ∧ Below w.heap.size w w' := by
  have HR := Lib.hid (hrd.below ((Below.refl _ w).alloc (Nat.le_refl _) (.cells #[.int .i64 z.nd, .int .i64 z.kd, .int .i64 z.st, .int .i64 z.ct, .int .i64 z.mn, s 0, s 1, s 2, s 3, s 4] 25))); clear hrd
  have HV := Lib.hid hv; clear hv
  have HSC : Hid (scanZ z L 5 0 = 0) := scan_ok HV.out
  have hinfo : (Try.prog.info? 3).map (fun i => (i.zero, i.size, i.bytes)) = some (some (.int .i64 0), 1, 8) := by kernel_rfl
  obtain ⟨i0, hi0, hiz0, hiz1, hiz2⟩ := info_parts hinfo
  go_enter Try.func34, Try.ntmps34
  go_upto_region 5 with (first | (go_at_call 17; refine (rcheck_ok z s L _ hz HV.out HR.out).mono ?_; rintro e w1 ⟨rfl, hb1⟩; have hbx1 := (hb1.block w.heap.size (by simp)).trans (heap_alloc_new w _); have HB1 := Lib.hid hbx1; clear hbx1) | (refine load_zone rfl (.tmp 1) rfl w.heap.size z s rfl HB1.out ?_) | (go_at_call 46; refine (set_any z s L _ hz (HR.out.below hb1) HSC.out).mono ?_; rintro e w3 ⟨S, rfl, hcn, hS, hb3⟩))
  have hbel1 : Below w.heap.size w w1 := box_one' hb1
  have hbel3 : Below w.heap.size w w3 := hbel1.trans (hb3.mono hbel1.size)
  have hsz1 : w.heap.size + 1 ≤ w1.heap.size := lt_of_block HB1.out
  have hSlt := hcn.row.lt
  have HROW := Lib.hid hcn.row
  obtain ⟨base, hbase⟩ : ∃ base, base = w3.heap.size := ⟨_, rfl⟩
  rw [← hbase] at hSlt
  have hwb : w.heap.size ≤ base := by rw [hbase]; exact hbel3.size
  have hbase' : base ≤ w3.heap.size := by omega
  clear hb1 hcn hS hb3 hbel1 hbase
  go_wp2_with fail
  go_loopg [3, 5] 256 (fun n s3 s5 wr => ∃ t : Nat, s5 = .int .i64 t ∧ t ≤ 256 ∧ Hid (n = 256 - t) ∧ Hid (rowI wr S (fun x => ((frs L).count x : Nat))) ∧ Hid (ownI wr base s3 (flTo L t)) ∧ base ≤ wr.heap.size ∧ Below w.heap.size w wr)
  case atStart => exact ⟨0, rfl, by omega, rfl, HROW.out, World.ownsRow_nil _ _ _ _, hbase', hbel3⟩
  case round =>
    obtain ⟨t, rfl, ht, hn, hrow, hown, hszr, hbl⟩ := hrel
    by_cases hlt : t < 256
    · have hti : (t : Int) < 256 := by omega
      have hc := hrow.out.cell hlt
      obtain ⟨m1, hm1⟩ : ∃ m1, m1 = (frs L).count (t : Int) := ⟨_, rfl⟩
      rw [← hm1] at hc
      have HC : Hid (m1 ≠ 0 ↔ freeB L (t : Int) = true) := by rw [hm1, freeB_iff HV.out]; exact free_frs
      have HST := Lib.hid (flTo_succ L t)
      clear hm1
      by_cases hpos : 0 < m1
      · have hfr := HC.out.1 (by omega)
        have ho3 := hown.out
        have hlen3 := flTo_len L t
        have hpos' : (0 : Int) < (m1 : Int) := by omega
        go_upto_region 7 with (at_builtin; go_loud (refine wpList_append_own_at _ rfl _ _ 22 rfl base 3 i0 (.int .i64 0) 1 8 Try.underlying22 hi0 hiz0 hiz1 hiz2 rfl (by decide) _ _ _ rfl (ho3.alloc _) ⟨wr.heap.size, 0, none⟩ 1 1 [.int .i64 (t : Int)] rfl rfl (cell_one_new _ _ _) (fun u hu => by simp at hu; subst hu; rfl) (by unfold maxLen; omega) (by omega) (by simp; omega) ?_); intro v' w4 hown4 hgrow hnil hat)
        have hown5 : Hid (ownI w4 base v' (flTo L (t + 1))) := by
          show ownI _ _ _ _
          rw [HST.out, if_pos hfr]
          have e1 : (flTo L t).length + 1 = (flTo L t ++ [(t : Int)]).length := by simp
          rw [e1, show (flTo L t).map (Value.int .i64) ++ [Value.int .i64 (t : Int)] = (flTo L t ++ [(t : Int)]).map (Value.int .i64) by simp] at hown4
          exact hown4
        have hs4 : (wr.alloc (.cells #[.int .i64 (t : Int)] 3)).heap.size = wr.heap.size + 1 := by simp
        have hlow : ∀ b, b < base → w4.heap[b]? = wr.heap[b]? := fun b hb => (hgrow.block b (by omega) fun e => by have := (ho3.lt b e.symm).1; omega).trans (heap_alloc_old wr _ (by omega))
        have hbl4 : Below w.heap.size w w4 := hbl.trans ⟨hgrow.os, hgrow.tape, hgrow.output, by have := hgrow.size; omega, fun b hb => hlow b (by omega)⟩
        have hsz4 : base ≤ w4.heap.size := by have := hgrow.size; omega
        have hrow4 : Hid (rowI w4 S (fun x => ((frs L).count x : Nat))) := hrow.out.keep (hlow S hSlt)
        clear hown4 hgrow hnil hat hs4 ho3 hlow
        go_wp2_with fail
        go_roundg (256 - (t + 1))
        case rel => exact ⟨t + 1, by go_num, by omega, rfl, hrow4.out, hown5.out, hsz4, hbl4⟩
        case measure => have := hn.out; omega
      · obtain rfl : m1 = 0 := by omega
        have hown5 : Hid (flTo L (t + 1) = flTo L t) := by
          show _ = _
          rw [HST.out, if_neg fun h => HC.out.2 h rfl, List.append_nil]
        go_wp2_with fail
        go_roundg (256 - (t + 1))
        case rel => exact ⟨t + 1, by go_num, by omega, rfl, hrow.out, by rw [hown5.out]; exact hown.out, hszr, hbl⟩
        case measure => have := hn.out; omega
    · obtain rfl : t = 256 := by omega
      have hown' := hown.out
      obtain ⟨g, hg⟩ := ownI.own hown'
      have HG := Lib.hid hg.rd
      clear hown' hg
      go_wp2_with fail
      go_ret
      exact ⟨_, rfl, HG.out, hbl⟩

set_option maxRecDepth 100000 in
set_option maxHeartbeats 1000000 in
theorem rcount_gen (z : Zh) (s : Nat → Value) (L : FL) (xs : List Int) (w : World) (hrd : rdZ w s L)
    (hF : ∀ w, rdZ w s L → Calls Try.prog 34 #[zv z s] w fun e w' => ∃ v, e = .returned v ∧ Go.Proofs.Ytcmmoemmlellbaa.rd w' v xs ∧ Below w.heap.size w w') :
    Calls Try.prog 36 #[zv z s] w fun e w' => e = .returned (.int .i64 (xs.length : Nat)) ∧ Below w.heap.size w w' := by
  have HR := Lib.hid (hrd.below ((Below.refl _ w).alloc (Nat.le_refl _) (.cells #[.int .i64 z.nd, .int .i64 z.kd, .int .i64 z.st, .int .i64 z.ct, .int .i64 z.mn, s 0, s 1, s 2, s 3, s 4] 25))); clear hrd
  have HFF := Lib.hid hF; clear hF
  go_enter Try.func36, Try.ntmps36
  go_wp2_with (go_at_call 34; refine (HFF.out _ HR.out).mono ?_; rintro e w1 ⟨vf, rfl, hrf, hb1⟩; (obtain ⟨af, cf, rfl, _⟩ := hrf.split); clear hrf)
  go_ret
  exact ⟨rfl, box_one' hb1⟩

set_option maxRecDepth 100000 in
set_option maxHeartbeats 1000000 in
theorem rlargest_err (z : Zh) (s : Nat → Value) (L : FL) (w : World) (hz : z.fits) (hrd : rdZ w s L) (hfit : fitsL L) (he : chkM z L ≠ 0) :
    Calls Try.prog 38 #[zv z s] w fun e w' => e = .returned (.int .i64 (-1)) ∧ Below w.heap.size w w' := by
  have HR := Lib.hid hrd; clear hrd
  have HF := Lib.hid hfit; clear hfit
  have hne : (chkM z L != 0) = true := by simpa using he
  go_enter Try.func38, Try.ntmps38
  go_wp2_with (go_at_call 17; refine (rcheck_any z s L _ hz (HR.out.below ((Below.refl _ w).alloc (Nat.le_refl _) _)) HF.out).mono ?_; rintro e w1 ⟨rfl, hb1⟩)
  go_ret
  exact ⟨rfl, box_one' hb1⟩

set_option maxRecDepth 100000 in
set_option maxHeartbeats 1000000 in
theorem rlargest_ok (z : Zh) (s : Nat → Value) (L : FL) (w : World) (hz : z.ok = true) (hv : Valid z L) (hrd : rdZ w s L) :
    Calls Try.prog 38 #[zv z s] w fun e w' => e = .returned (.int .i64 (largM L 5)) ∧ Below w.heap.size w w' := by
  have HR := Lib.hid hrd; clear hrd
  have HV := Lib.hid hv; clear hv
  go_enter Try.func38, Try.ntmps38
  go_upto_block 0 with (go_at_call 17; refine (rcheck_ok z s L _ hz HV.out (HR.out.below ((Below.refl _ w).alloc (Nat.le_refl _) _))).mono ?_; rintro e w1 ⟨rfl, hb1⟩)
  have hbx : boxed w1 w.heap.size z s := (hb1.block w.heap.size (by simp)).trans (heap_alloc_new w _)
  have hbel : Below w.heap.size w w1 := box_one' hb1
  have HB := Lib.hid hbx; clear hbx hb1
  go_wp2_with fail
  go_loopg [3, 4] 5 (fun n s3 s4 wr => ∃ k : Nat, s3 = .int .i64 (largM L k) ∧ s4 = .int .i64 k ∧ k ≤ 5 ∧ Hid (n = 5 - k) ∧ wr = w1)
  case atStart => exact ⟨0, rfl, rfl, by omega, rfl, rfl⟩
  case round =>
    obtain ⟨k, rfl, rfl, hk, hn, rfl⟩ := hrel
    by_cases hk5 : k < 5
    · have hk4 : k ≤ 4 := by omega
      have hki : (k : Int) ≤ 4 := by omega
      have hki5 : (k : Int) < 5 := by omega
      obtain ⟨a, c, hs, _, _⟩ := (HR.out k hk4).split
      have hfl := box_field HB.out k hk4
      rw [hs] at hfl
      clear hs
      by_cases hnil : L k = []
      · have HL : Hid (largM L (k + 1) = largM L k) := (show _ = _ by rw [largM, if_pos hnil])
        rw [hnil] at hfl
        have hfl' : wr.cell? ⟨w.heap.size, 5 + k, none⟩ = some (.slice a 0 c) := hfl
        clear hfl hnil
        go_wp2_with fail
        go_roundg (5 - (k + 1))
        case rel => exact ⟨k + 1, by rw [HL.out], by go_num, by omega, rfl, rfl⟩
        case measure => have := hn.out; omega
      · have HL : Hid (largM L (k + 1) = k) := (show _ = _ by rw [largM, if_neg hnil])
        have hpos : 0 < (L k).length := List.length_pos_iff.2 hnil
        have hpos' : (0 : Int) < ((L k).length : Int) := by omega
        have hnn := Lib.hid hnil
        go_wp2_with fail
        go_roundg (5 - (k + 1))
        case rel => exact ⟨k + 1, by rw [HL.out], by go_num, by omega, rfl, rfl⟩
        case measure => have := hn.out; omega
    · obtain rfl : k = 5 := by omega
      go_wp2_with fail
      go_ret
      exact ⟨rfl, hbel⟩

set_option maxRecDepth 100000 in
set_option maxHeartbeats 1000000 in
theorem runusable_err (z : Zh) (s : Nat → Value) (L : FL) (o : Int) (w : World) (hz : z.fits) (hrd : rdZ w s L) (hfit : fitsL L) (he : chkM z L ≠ 0) :
    Calls Try.prog 40 #[zv z s, .int .i64 o] w fun e w' => e = .returned (.int .i64 0) ∧ Below w.heap.size w w' := by
  have HR := Lib.hid hrd; clear hrd
  have HF := Lib.hid hfit; clear hfit
  have hne : (chkM z L != 0) = true := by simpa using he
  go_enter Try.func40, Try.ntmps40
  go_wp2_with (go_at_call 17; refine (rcheck_any z s L _ hz (HR.out.below ((Below.refl _ w).alloc (Nat.le_refl _) _)) HF.out).mono ?_; rintro e w1 ⟨rfl, hb1⟩)
  go_ret
  exact ⟨rfl, box_one' hb1⟩

set_option maxRecDepth 100000 in
set_option maxHeartbeats 1000000 in
theorem runusable_ord (z : Zh) (s : Nat → Value) (L : FL) (o : Int) (w : World) (hz : z.ok = true) (hv : Valid z L) (hrd : rdZ w s L) (ho : o < 0 ∨ 4 < o) :
    Calls Try.prog 40 #[zv z s, .int .i64 o] w fun e w' => e = .returned (.int .i64 0) ∧ Below w.heap.size w w' := by
  have HR := Lib.hid hrd; clear hrd
  have HV := Lib.hid hv; clear hv
  rcases ho with ho | ho
  all_goals
    try (have ho' : ¬ o < 0 := by omega)
    go_enter Try.func40, Try.ntmps40
    go_wp2_with (go_at_call 17; refine (rcheck_ok z s L _ hz HV.out (HR.out.below ((Below.refl _ w).alloc (Nat.le_refl _) _))).mono ?_; rintro e w1 ⟨rfl, hb1⟩)
    go_ret
    exact ⟨rfl, box_one' hb1⟩

set_option maxRecDepth 100000 in
set_option maxHeartbeats 1000000 in
theorem runusable_ok (z : Zh) (s : Nat → Value) (L : FL) (o : Nat) (w : World) (hz : z.ok = true) (hv : Valid z L) (hrd : rdZ w s L) (ho : o ≤ 4) :
    Calls Try.prog 40 #[zv z s, .int .i64 (o : Int)] w fun e w' => e = .returned (.int .i64 (unusM L o)) ∧ Below w.heap.size w w' := by
  have HR := Lib.hid hrd; clear hrd
  have HV := Lib.hid hv; clear hv
  have hd0 : decide ((o : Int) < 0) = false := by simp
  have hd1 : decide ((4 : Int) < (o : Int)) = false := by simp; omega
  go_enter Try.func40, Try.ntmps40
  go_upto_block 0 with (go_at_call 17; refine (rcheck_ok z s L _ hz HV.out (HR.out.below ((Below.refl _ w).alloc (Nat.le_refl _) _))).mono ?_; rintro e w1 ⟨rfl, hb1⟩)
  have hbx : boxed w1 w.heap.size z s := (hb1.block w.heap.size (by simp)).trans (heap_alloc_new w _)
  have hbel : Below w.heap.size w w1 := box_one' hb1
  have HB := Lib.hid hbx; clear hbx hb1
  go_wp2_with fail
  go_loopg [5, 6] o (fun n s5 s6 wr => ∃ k : Nat, s5 = .int .i64 (unusM L k) ∧ s6 = .int .i64 k ∧ k ≤ o ∧ Hid (n = o - k) ∧ wr = w1)
  case atStart => exact ⟨0, rfl, rfl, by omega, rfl, rfl⟩
  case round =>
    obtain ⟨k, rfl, rfl, hk, hn, rfl⟩ := hrel
    by_cases hlt : k < o
    · have hk4 : k ≤ 4 := by omega
      have hki5 : (k : Int) < 5 := by omega
      obtain ⟨a, c, hs, _, _⟩ := (HR.out k hk4).split
      have hfl := box_field HB.out k hk4
      rw [hs] at hfl
      clear hs
      have hlen := HV.out.len hz hk4
      have hu := unusM_bound (L := L) (fun k hk => HV.out.len hz hk) k (by omega)
      have hu0 := hu.1
      have hu1 : unusM L k ≤ 20000 := by have := hu.2; omega
      clear hu
      have hko : (k : Int) < (o : Int) := by omega
      go_wp2_with fail
      go_roundg (o - (k + 1))
      case rel => exact ⟨k + 1, by rw [unus_wrap (fun k hk => HV.out.len hz hk) hk4], by go_num, by omega, rfl, rfl⟩
      case measure => have := hn.out; omega
    · have hko : Hid (k = o) := (show k = o by omega)
      go_wp2_with fail
      go_ret
      exact ⟨ret_int (by rw [hko.out]), hbel⟩

set_option maxRecDepth 100000 in
set_option maxHeartbeats 2000000 in
theorem count_err (z : Zh) (s : Nat → Value) (L : FL) (w : World) (hz : z.fits) (hrd : rdZ w s L) (hfit : fitsL L) (he : chkM z L ≠ 0) :
    Calls Try.prog 35 #[zv z s] w fun e w' => e = .returned (.int .i64 0) ∧ Below w.heap.size w w' := by
  have HR0 := Lib.hid hrd; clear hrd
  have HF := Lib.hid hfit; clear hfit
  have HE := Lib.hid he; clear he
  have hU : ∀ w, rdZ w s L → Calls Try.prog 39 #[zv z s, .int .i64 4] w fun e w' => e = .returned (.int .i64 0) ∧ Below w.heap.size w w' := fun w h => unusable_err z s L 4 w hz h HF.out HE.out
  have HU := Lib.hid hU; clear hU
  go_enter Try.func35, Try.ntmps35
  go_wp2_with fail
  obtain ⟨w1, hw1⟩ : ∃ w1, w1 = w.alloc (.cells #[.int .i64 z.nd, .int .i64 z.kd, .int .i64 z.st, .int .i64 z.ct, .int .i64 z.mn, s 0, s 1, s 2, s 3, s 4] 25) := ⟨_, rfl⟩
  have hbx : boxed w1 w.heap.size z s := by rw [hw1]; exact heap_alloc_new w _
  have hbel : Below w.heap.size w w1 := by rw [hw1]; exact (Below.refl _ w).alloc (Nat.le_refl _) _
  rw [← hw1]
  have HR : Hid (rdZ w1.drew s L) := HR0.out.below hbel.drew
  have HBX : Hid (boxed w1.drew w.heap.size z s) := hbx
  clear hw1
  obtain ⟨c0, c1, c2, c3, c4, c5, c6, c7, c8, c9⟩ := boxed.head hbx
  clear hbx
  go_region_law (first | (go_simp; go_at_call 39; refine (HU.out _ ?h1).mono ?_; (case h1 => first | exact HR.out | exact HR.out.below hb2); rintro e wa ⟨rfl, hb1⟩; obtain ⟨d0, d1, d2, d3, d4, d5, d6, d7, d8, d9⟩ := boxed.head (w := wa) (B := w.heap.size) (z := z) (s := s) (by first | exact (hb1.block _ (lt_of_block HBX.out)).trans HBX.out | exact (hb1.block _ (Nat.lt_of_lt_of_le (lt_of_block HBX.out) hb2.size)).trans ((hb2.block _ (lt_of_block HBX.out)).trans HBX.out))) | (go_simp; go_at_call 55; refine (last_err z s L _ hz ?h1 HF.out HE.out).mono ?_; (case h1 => first | exact HR.out | exact HR.out.below hb1); rintro e wb ⟨rfl, hb2⟩; obtain ⟨e0, e1, e2, e3, e4, e5, e6, e7, e8, e9⟩ := boxed.head (w := wb) (B := w.heap.size) (z := z) (s := s) (by first | exact (hb2.block _ (lt_of_block HBX.out)).trans HBX.out | exact (hb2.block _ (Nat.lt_of_lt_of_le (lt_of_block HBX.out) hb1.size)).trans ((hb1.block _ (lt_of_block HBX.out)).trans HBX.out))))
  all_goals
    go_wp2_with fail
    go_ret
    refine ⟨rfl, ?_⟩
    first
      | exact hbel.drew.trans ((hb1.mono hbel.size).trans (hb2.mono (Nat.le_trans hbel.size hb1.size)))
      | exact hbel.drew.trans ((hb2.mono hbel.size).trans (hb1.mono (Nat.le_trans hbel.size hb2.size)))
end Go.Proofs.Ytcmmoemmlellbaa
