/- The law BuddyChecks: walked. Conditions: the numbers fit. -/
import Derived.Test.YtcmmoemmlellbaaOp
import Derived.Test.YtcmmoemmlellbaaAw
import Derived.Test.YtcmmoemmlellbaaRd
namespace Go.Proofs.Ytcmmoemmlellbaa
open Go.RowKit

set_option maxRecDepth 100000 in
set_option maxHeartbeats 1000000 in
theorem checks_walk (z : Zh) (s : Nat → Value) (L : FL) (w : World) (hz : z.fits) (hrd : rdZ w s L) (hfit : fitsL L) :
    Calls Try.prog 3 #[zv z s] w fun e w' => e = .returned (.bool true) ∧ Below w.heap.size w w' := by
  have HR := Lib.hid (hrd.below ((Below.refl _ w).alloc (Nat.le_refl _) (.cells #[.int .i64 z.nd, .int .i64 z.kd, .int .i64 z.st, .int .i64 z.ct, .int .i64 z.mn, s 0, s 1, s 2, s 3, s 4] 25))); clear hrd
  have HF := Lib.hid hfit; clear hfit
  go_enter Try.func3, Try.ntmps3
  by_cases hF : fewL L = true
  · go_upto_region 3 with (first | (go_at_call 14; refine (awake_any _).mono ?_; rintro e w1 ⟨rfl, hb1⟩; have hv1 : Hid (Var w1 w.heap.size z s L) := Var.below ⟨heap_alloc_new w _, HR.out⟩ hb1; (obtain ⟨c0, c1, c2, c3, c4, c5, c6, c7, c8, c9⟩ := boxed.head hv1.out.box)) | (go_at_call 15; refine (few_any z s L _ hv1.out.rd).mono ?_; rintro e w2 ⟨he, hb2⟩; rw [hF] at he; subst he; have hv2 : Hid (Var w2 w.heap.size z s L) := hv1.out.below hb2; (obtain ⟨d0, d1, d2, d3, d4, d5, d6, d7, d8, d9⟩ := boxed.head hv2.out.box)))
    have hbel := (box_one hb1).trans (hb2.mono (box_one hb1).size)
    clear hb1 hb2 hv1 c0 c1 c2 c3 c4 c5 c6 c7 c8 c9
    have hvd : Hid (Var w2.drew w.heap.size z s L) := hv2.out.below (Below.refl _ w2).drew
    go_region_law (first | (go_simp; go_at_call 16; refine (check_any z s L _ hz ?h1 HF.out).mono ?_; (case h1 => first | exact hvd.out.rd | exact hv4.out.rd); rintro e w3 ⟨rfl, hb3⟩; have hv3 : Hid (Var w3 w.heap.size z s L) := (by first | exact hvd.out.below hb3 | exact hv4.out.below hb3); (obtain ⟨c0, c1, c2, c3, c4, c5, c6, c7, c8, c9⟩ := boxed.head hv3.out.box)) | (go_simp; go_at_call 17; refine (rcheck_any z s L _ hz ?h1 HF.out).mono ?_; (case h1 => first | exact hvd.out.rd | exact hv3.out.rd); rintro e w4 ⟨rfl, hb4⟩; have hv4 : Hid (Var w4 w.heap.size z s L) := (by first | exact hvd.out.below hb4 | exact hv3.out.below hb4); (obtain ⟨e0, e1, e2, e3, e4, e5, e6, e7, e8, e9⟩ := boxed.head hv4.out.box)))
    all_goals
      go_wp2_with fail
      go_ret
      refine ⟨ret_bool (by simp), ?_⟩
      first
        | exact hbel.drew.trans ((hb3.mono hbel.size).trans (hb4.mono (Nat.le_trans hbel.size hb3.size)))
        | exact hbel.drew.trans ((hb4.mono hbel.size).trans (hb3.mono (Nat.le_trans hbel.size hb4.size)))
  · have hF' : fewL L = false := by simpa using hF
    go_wp2_with (first | (go_at_call 14; refine (awake_any _).mono ?_; rintro e w1 ⟨rfl, hb1⟩; have hv1 : Hid (Var w1 w.heap.size z s L) := Var.below ⟨heap_alloc_new w _, HR.out⟩ hb1; (obtain ⟨c0, c1, c2, c3, c4, c5, c6, c7, c8, c9⟩ := boxed.head hv1.out.box)) | (go_at_call 15; refine (few_any z s L _ hv1.out.rd).mono ?_; rintro e w2 ⟨he, hb2⟩; rw [hF'] at he; subst he) | (go_at_call 14; refine (awake_any _).mono ?_; rintro e w3 ⟨rfl, hb3⟩))
    go_ret
    exact ⟨rfl, ((box_one hb1).trans (hb2.mono (box_one hb1).size)).trans (hb3.mono (Nat.le_trans (box_one hb1).size hb2.size))⟩
end Go.Proofs.Ytcmmoemmlellbaa
