/- The reference's Take and IsFree: walked. Conditions: the numbers fit. -/
import Derived.Test.YtcmmoemmlellbaaRp
import Derived.Test.YtcmmoemmlellbaaFr
namespace Go.Proofs.Ytcmmoemmlellbaa
open Go.RowKit
attribute [local go_sem] wrap_pow

theorem rblock_zero (z : Zh) (s : Nat → Value) (f : Int) (w : World) (hz : z.ok = true) (hf : fits f) :
    Calls Try.prog 47 #[zv z s, .int .i64 f, .int .i64 0] w fun e w' => e = .returned (.bool (insB z f 0)) ∧ Below w.heap.size w w' := rblock_any z s f 0 w hz hf (by omega)

set_option maxRecDepth 100000 in
set_option maxHeartbeats 1000000 in
theorem rtake_err (z : Zh) (s : Nat → Value) (L : FL) (f : Int) (w : World) (hz : z.fits) (hrd : rdZ w s L) (hfit : fitsL L) (he : chkM z L ≠ 0) :
    Calls Try.prog 30 #[zv z s, .int .i64 f] w fun e w' => e = .returned (.tuple #[zv z0 nilS, .int .i64 (chkM z L)]) ∧ Below w.heap.size w w' := by
  have HR := Lib.hid hrd; clear hrd
  have HF := Lib.hid hfit; clear hfit
  go_enter Try.func30, Try.ntmps30
  go_upto_region 3 with (go_at_call 17; refine (rcheck_any z s L _ hz (HR.out.below (below_two w _ _)) HF.out).mono ?_; rintro e w1 ⟨rfl, hb1⟩)
  have hbox : boxed w1 (w.heap.size + 1) z0 nilS := (hb1.block (w.heap.size + 1) (by rw [size_two]; omega)).trans (heap_alloc2_new w _ _)
  have hbel := below_box hb1
  clear hb1
  go_wp2_with (refine store_zone rfl (.tmp 4) (.tmp 12) rfl (w.heap.size + 1) z0 nilS z0 nilS rfl rfl hbox slices_nil ?_; intro w2 hbx2 hk2)
  exact bodyPost_ret (results_zone2 rfl _ _ (w.heap.size + 1) z0 nilS rfl hbx2) rfl ⟨rfl, hbel.trans (hk2.to_below hbel.size fun k hk => by omega)⟩

set_option maxRecDepth 100000 in
set_option maxHeartbeats 4000000 in
theorem rtake_main (z : Zh) (s : Nat → Value) (L : FL) (f : Int) (w : World) (hz : z.ok = true) (hv : Valid z L) (hrd : rdZ w s L) (hff : fits f) :
    Calls Try.prog 30 #[zv z s, .int .i64 f] w fun e w' => Below w.heap.size w w' ∧ ((insB z f 0 = false ∧ e = .returned (.tuple #[zv z0 nilS, .int .i64 2])) ∨
      (insB z f 0 = true ∧ ¬ free L f ∧ e = .returned (.tuple #[zv z0 nilS, .int .i64 6])) ∨
      (insB z f 0 = true ∧ free L f ∧ ∃ s' M, e = .returned (.tuple #[zv z s', .int .i64 0]) ∧ ownsZ w' w.heap.size s' M ∧ Valid z M ∧ ∀ x, free M x ↔ free L x ∧ x ≠ f)) := by
  have HR := Lib.hid hrd; clear hrd
  have HV := Lib.hid hv; clear hv
  have HSC : Hid (scanZ z L 5 0 = 0) := scan_ok HV.out
  have HFF := Lib.hid hff; clear hff
  go_enter Try.func30, Try.ntmps30
  go_upto_region 4 with (go_at_call 17; refine (rcheck_ok z s L _ hz HV.out (HR.out.below (below_two w _ _))).mono ?_; rintro e w1 ⟨rfl, hb1⟩)
  have hbox : boxed w1 (w.heap.size + 1) z0 nilS := (hb1.block (w.heap.size + 1) (by rw [size_two]; omega)).trans (heap_alloc2_new w _ _)
  have hbox0 : boxed w1 w.heap.size z s := (hb1.block w.heap.size (by rw [size_two]; omega)).trans (heap_alloc2_old w _ _)
  have hsz : w.heap.size + 2 ≤ w1.heap.size := Nat.le_trans (by rw [size_two]; omega) hb1.size
  have hbel := below_box hb1
  have H0 := Lib.hid hbox0
  have H1 := Lib.hid hbox
  clear hb1 hbox hbox0
  by_cases hin : insB z f 0 = true
  · have hiz := insB_zero.1 hin
    have hzz := Zh.ok_iff.1 hz
    obtain ⟨F, rfl⟩ : ∃ F : Nat, f = F := ⟨f.toNat, by omega⟩
    have hF256 : F < 256 := by omega
    have hFi : (F : Int) < 256 := by omega
    have HIZ := Lib.hid hiz
    clear hiz hzz
    go_upto_region 7 with (first | (refine load_zone rfl (.tmp 2) rfl w.heap.size z s rfl H0.out ?_) | (go_at_call 47; refine (rblock_zero z s F _ hz HFF.out).mono ?_; rintro e w2 ⟨he, hb2⟩; rw [hin] at he; subst he; have H0b := Lib.hid ((hb2.block _ (lt_of_block H0.out)).trans H0.out); have H1b := Lib.hid ((hb2.block _ (lt_of_block H1.out)).trans H1.out); have hbel2 : Below w.heap.size w w2 := hbel.trans (hb2.mono hbel.size)) | (refine load_zone rfl (.tmp 2) rfl w.heap.size z s rfl H0b.out ?_) | (go_at_call 46; refine (set_any z s L _ hz (HR.out.below hbel2) HSC.out).mono ?_; rintro e w3 ⟨S, rfl, hcn, hS, hb3⟩))
    have hbx3 : boxed w3 w.heap.size z s := (hb3.block _ (lt_of_block H0b.out)).trans H0b.out
    have hres3 : boxed w3 (w.heap.size + 1) z0 nilS := (hb3.block _ (lt_of_block H1b.out)).trans H1b.out
    have hbel3 : Below w.heap.size w w3 := hbel2.trans (hb3.mono hbel2.size)
    have hSlo : w.heap.size + 2 ≤ S := Nat.le_trans (Nat.le_trans hsz hb2.size) hS
    have hrow := hcn.row
    have hc := hrow.cell hF256
    have hf : w3.frozen? ⟨S, F, none⟩ = false := hrow.frozen F
    obtain ⟨m1, hm1⟩ : ∃ m1, m1 = (frs L).count (F : Int) := ⟨_, rfl⟩
    rw [← hm1] at hc
    have HC : Hid (m1 ≠ 0 ↔ free L (F : Int)) := by rw [hm1]; exact free_frs
    have HS := Lib.hid (hrow.set (j := F) 0)
    have HK : Hid (Keeps (· = S) w3 (w3.setCell ⟨S, F, none⟩ (.int .i64 0))) := ⟨rfl, rfl, rfl, by simp [World.setCell], fun j _ hp => Below.heap_setCell w3 ⟨S, F, none⟩ _ j hp⟩
    have HBX4 : Hid (boxed (w3.setCell ⟨S, F, none⟩ (.int .i64 0)) w.heap.size z s) := (HK.out.block _ (lt_of_block hbx3) (by omega)).trans hbx3
    have HRES4 : Hid (boxed (w3.setCell ⟨S, F, none⟩ (.int .i64 0)) (w.heap.size + 1) z0 nilS) := (HK.out.block _ (lt_of_block hres3) (by omega)).trans hres3
    have hbel4 : Below w.heap.size w (w3.setCell ⟨S, F, none⟩ (.int .i64 0)) := hbel3.trans (HK.out.to_below hbel3.size fun k hk => by omega)
    clear hm1 hcn hrow hbx3 hb2 hb3 hbel2
    by_cases hz1 : m1 = 0
    · have HN : Hid (¬ free L (F : Int)) := fun h => HC.out.2 h hz1
      subst hz1
      go_wp2_with (refine store_zone rfl (.tmp 4) (.tmp 26) rfl (w.heap.size + 1) z0 nilS z0 nilS rfl rfl hres3 slices_nil ?_; intro w4 hbx4 hk4)
      exact bodyPost_ret (results_zone2 rfl _ _ (w.heap.size + 1) z0 nilS rfl hbx4) rfl ⟨hbel3.trans (hk4.to_below hbel3.size fun k hk => by omega), .inr (.inl ⟨hin, HN.out, rfl⟩)⟩
    · have HFR : Hid (free L (F : Int)) := HC.out.1 hz1
      have hz1' : ¬ (m1 : Int) = 0 := by omega
      have hz1b : ((m1 : Int) == 0) = false := beq_eq_false_iff_ne.2 hz1'
      clear hz1
      go_wp2_with (first | (refine load_zone rfl (.tmp 2) rfl w.heap.size z s rfl HBX4.out ?_) | (go_at_call 49; refine (with_any z s S _ _ hz HS.out).mono ?_; rintro e w5 ⟨s', M, rfl, hrd', hv', hfr', hb5⟩; have hsl := hrd'.slices; have hres5 := (hb5.block _ (lt_of_block HRES4.out)).trans HRES4.out; have HFR2 := Lib.hid hfr'; have HV2 := Lib.hid hv'; have HRD := Lib.hid hrd'; clear hfr' hv' hrd') | (refine store_zone rfl (.tmp 4) (.tmp 32) rfl (w.heap.size + 1) z0 nilS z s' rfl rfl hres5 hsl ?_; intro w6 hbx6 hk6))
      refine bodyPost_ret (results_zone2 rfl _ _ (w.heap.size + 1) z s' rfl hbx6) rfl ⟨(hbel4.trans (hb5.mono hbel4.size)).trans (hk6.to_below (Nat.le_trans hbel4.size hb5.size) fun k hk => by omega), .inr (.inr ⟨hin, HFR.out, s', M, rfl, ?_, HV2.out, fun x => ?_⟩)⟩
      · exact (HRD.out.keeps hk6 (fun b hb => by have := hbel4.size; have := lt_of_block HRES4.out; omega)).mono hbel4.size
      · rw [HFR2.out x, ← free_frs]
        have hrg : (frs L).count x ≠ 0 → z.st ≤ x ∧ x < z.st + z.ct := fun h => free_range HV.out (free_frs.1 h)
        by_cases h2 : x = (F : Int)
        · rw [if_pos h2]; exact ⟨fun h => (h.2.2 rfl).elim, fun h => (h.2 h2).elim⟩
        · rw [if_neg h2]
          exact ⟨fun h => ⟨fun e => h.2.2 (by rw [e]; rfl), h2⟩, fun h => ⟨(hrg h.1).1, (hrg h.1).2, fun e => h.1 (by omega)⟩⟩
  · have hin' : insB z f 0 = false := by simpa using hin
    have hres := H1.out
    go_wp2_with (first | (refine load_zone rfl (.tmp 2) rfl w.heap.size z s rfl H0.out ?_) | (go_at_call 47; refine (rblock_zero z s f _ hz HFF.out).mono ?_; rintro e w2 ⟨he, hb2⟩; rw [hin'] at he; subst he; have hres2 := (hb2.block _ (lt_of_block hres)).trans hres) | (refine store_zone rfl (.tmp 4) (.tmp 18) rfl (w.heap.size + 1) z0 nilS z0 nilS rfl rfl hres2 slices_nil ?_; intro w3 hbx3 hk3))
    have hbel2 := hbel.trans (hb2.mono hbel.size)
    exact bodyPost_ret (results_zone2 rfl _ _ (w.heap.size + 1) z0 nilS rfl hbx3) rfl ⟨hbel2.trans (hk3.to_below hbel2.size fun k hk => by omega), .inl ⟨hin', rfl⟩⟩

set_option maxRecDepth 100000 in
set_option maxHeartbeats 1000000 in
theorem risFree_err (z : Zh) (s : Nat → Value) (L : FL) (f : Int) (w : World) (hz : z.fits) (hrd : rdZ w s L) (hfit : fitsL L) (he : chkM z L ≠ 0) :
    Calls Try.prog 31 #[zv z s, .int .i64 f] w fun e w' => e = .returned (.bool false) ∧ Below w.heap.size w w' := by
  have HR := Lib.hid hrd; clear hrd
  have HF := Lib.hid hfit; clear hfit
  have hne : (chkM z L == 0) = false := by simpa using he
  go_enter Try.func31, Try.ntmps31
  go_wp2_with (go_at_call 17; refine (rcheck_any z s L _ hz (HR.out.below ((Below.refl _ w).alloc (Nat.le_refl _) _)) HF.out).mono ?_; rintro e w1 ⟨rfl, hb1⟩)
  go_ret
  exact ⟨rfl, box_one' hb1⟩

set_option maxRecDepth 100000 in
set_option maxHeartbeats 2000000 in
theorem risFree_ok (z : Zh) (s : Nat → Value) (L : FL) (f : Int) (w : World) (hz : z.ok = true) (hv : Valid z L) (hrd : rdZ w s L) (hf : fits f) :
    Calls Try.prog 31 #[zv z s, .int .i64 f] w fun e w' => e = .returned (.bool (freeB L f)) ∧ Below w.heap.size w w' := by
  have HR := Lib.hid (hrd.below ((Below.refl _ w).alloc (Nat.le_refl _) (.cells #[.int .i64 z.nd, .int .i64 z.kd, .int .i64 z.st, .int .i64 z.ct, .int .i64 z.mn, s 0, s 1, s 2, s 3, s 4] 25))); clear hrd
  have HV := Lib.hid hv; clear hv
  have HSC : Hid (scanZ z L 5 0 = 0) := scan_ok HV.out
  by_cases hin : insB z f 0 = true
  · have hiz := insB_zero.1 hin
    have hzz := Zh.ok_iff.1 hz
    obtain ⟨F, rfl⟩ : ∃ F : Nat, f = F := ⟨f.toNat, by omega⟩
    have hF256 : F < 256 := by omega
    have hFi : (F : Int) < 256 := by omega
    clear hiz hzz
    have HFI := Lib.hid hf
    clear hf
    obtain ⟨m1, hm1⟩ : ∃ m1, m1 = (frs L).count (F : Int) := ⟨_, rfl⟩
    have HM1 := Lib.hid hm1
    clear hm1
    have HC : Hid (m1 ≠ 0 ↔ freeB L (F : Int) = true) := by rw [HM1.out, freeB_iff HV.out]; exact free_frs
    have hb : freeB L (F : Int) = decide (0 < m1) := by
      by_cases h : 0 < m1
      · rw [decide_eq_true h]; exact HC.out.1 (by omega)
      · rw [decide_eq_false h, Bool.eq_false_iff]; exact fun h2 => (HC.out.2 h2) (by omega)
    have HBB := Lib.hid hb
    clear hb
    go_enter Try.func31, Try.ntmps31
    go_wp2_with (first | (go_at_call 17; refine (rcheck_ok z s L _ hz HV.out HR.out).mono ?_; rintro e w1 ⟨rfl, hb1⟩; (have hbx1 := (hb1.block w.heap.size (by simp)).trans (heap_alloc_new w _)); obtain ⟨c0, c1, c2, c3, c4, c5, c6, c7, c8, c9⟩ := boxed.head hbx1; have HB1 := Lib.hid hbx1; clear hbx1) | (go_at_call 47; refine (rblock_zero z s F _ hz HFI.out).mono ?_; rintro e w2 ⟨he, hb2⟩; rw [hin] at he; subst he; obtain ⟨d0, d1, d2, d3, d4, d5, d6, d7, d8, d9⟩ := boxed.head (w := w2) (B := w.heap.size) (z := z) (s := s) ((hb2.block _ (lt_of_block HB1.out)).trans HB1.out)) | (go_at_call 46; refine (set_any z s L _ hz ((HR.out.below hb1).below hb2) HSC.out).mono ?_; rintro e w3 ⟨S, rfl, hcn, hS, hb3⟩; have hc3 := hcn.row.cell hF256; rw [← HM1.out] at hc3; clear hcn))
    go_ret
    exact ⟨ret_bool (by rw [HBB.out]), ((box_one' hb1).trans (hb2.mono (box_one' hb1).size)).trans (hb3.mono (Nat.le_trans (box_one' hb1).size hb2.size))⟩
  · have hin' : insB z f 0 = false := by simpa using hin
    have hfr : freeB L f = false := by
      rw [Bool.eq_false_iff]
      intro h
      exact hin (insB_zero.2 (free_range HV.out ((freeB_iff HV.out).1 h)))
    have HFR := Lib.hid hfr
    have HFI := Lib.hid hf
    clear hfr hf hin
    go_enter Try.func31, Try.ntmps31
    go_wp2_with (first | (go_at_call 17; refine (rcheck_ok z s L _ hz HV.out HR.out).mono ?_; rintro e w1 ⟨rfl, hb1⟩; (have hbx1 := (hb1.block w.heap.size (by simp)).trans (heap_alloc_new w _)); obtain ⟨c0, c1, c2, c3, c4, c5, c6, c7, c8, c9⟩ := boxed.head hbx1; have HB1 := Lib.hid hbx1; clear hbx1) | (go_at_call 47; refine (rblock_zero z s f _ hz HFI.out).mono ?_; rintro e w2 ⟨he, hb2⟩; rw [hin'] at he; subst he))
    go_ret
    exact ⟨ret_bool HFR.out.symm, (box_one' hb1).trans (hb2.mono (box_one' hb1).size)⟩
end Go.Proofs.Ytcmmoemmlellbaa
