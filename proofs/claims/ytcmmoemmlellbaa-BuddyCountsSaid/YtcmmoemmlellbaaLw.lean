/- The law BuddyCounts: walked, over what the functions and the reference's answer. Conditions: the numbers fit. -/
import Derived.Test.YtcmmoemmlellbaaRg
import Derived.Test.YtcmmoemmlellbaaLa
import Derived.Test.YtcmmoemmlellbaaPh
import Derived.Test.YtcmmoemmlellbaaSm
namespace Go.Proofs.Ytcmmoemmlellbaa
open Go.RowKit

set_option maxRecDepth 100000 in
set_option maxHeartbeats 8000000 in
theorem counts_gen (z : Zh) (s : Nat → Value) (L : FL) (xs : List Int) (o c g u : Int) (w : World) (hrd : rdZ w s L)
    (hF1 : fewL L = true → ∀ w, rdZ w s L → Calls Try.prog 33 #[zv z s] w fun e w' => ∃ v, e = .returned v ∧ Go.Proofs.Ytcmmoemmlellbaa.rd w' v xs ∧ Below w.heap.size w w')
    (hF2 : fewL L = true → ∀ w, rdZ w s L → Calls Try.prog 34 #[zv z s] w fun e w' => ∃ v, e = .returned v ∧ Go.Proofs.Ytcmmoemmlellbaa.rd w' v xs ∧ Below w.heap.size w w')
    (hC1 : fewL L = true → ∀ w, rdZ w s L → Calls Try.prog 35 #[zv z s] w fun e w' => e = .returned (.int .i64 c) ∧ Below w.heap.size w w')
    (hC2 : fewL L = true → ∀ w, rdZ w s L → Calls Try.prog 36 #[zv z s] w fun e w' => e = .returned (.int .i64 c) ∧ Below w.heap.size w w')
    (hL1 : fewL L = true → ∀ w, rdZ w s L → Calls Try.prog 37 #[zv z s] w fun e w' => e = .returned (.int .i64 g) ∧ Below w.heap.size w w')
    (hL2 : fewL L = true → ∀ w, rdZ w s L → Calls Try.prog 38 #[zv z s] w fun e w' => e = .returned (.int .i64 g) ∧ Below w.heap.size w w')
    (hU1 : fewL L = true → ∀ w, rdZ w s L → Calls Try.prog 39 #[zv z s, .int .i64 o] w fun e w' => e = .returned (.int .i64 u) ∧ Below w.heap.size w w')
    (hU2 : fewL L = true → ∀ w, rdZ w s L → Calls Try.prog 40 #[zv z s, .int .i64 o] w fun e w' => e = .returned (.int .i64 u) ∧ Below w.heap.size w w') :
    Calls Try.prog 12 #[zv z s, .int .i64 o] w fun e w' => e = .returned (.bool true) ∧ Below w.heap.size w w' := by
  have HR := Lib.hid (hrd.below ((Below.refl _ w).alloc (Nat.le_refl _) (.cells #[.int .i64 z.nd, .int .i64 z.kd, .int .i64 z.st, .int .i64 z.ct, .int .i64 z.mn, s 0, s 1, s 2, s 3, s 4] 25))); clear hrd
  go_enter Try.func12, Try.ntmps12
  by_cases hF : fewL L = true
  · have HF1 := Lib.hid (hF1 hF)
    have HF2 := Lib.hid (hF2 hF)
    have HC1 := Lib.hid (hC1 hF)
    have HC2 := Lib.hid (hC2 hF)
    have HL1 := Lib.hid (hL1 hF)
    have HL2 := Lib.hid (hL2 hF)
    have HU1 := Lib.hid (hU1 hF)
    have HU2 := Lib.hid (hU2 hF)
    clear hF1 hF2 hC1 hC2 hL1 hL2 hU1 hU2
    go_upto_region 3 with (first | (go_at_call 14; refine (awake_any _).mono ?_; rintro e w1 ⟨rfl, hb1⟩; have hv1 : Hid (Var w1 w.heap.size z s L) := Var.below ⟨heap_alloc_new w _, HR.out⟩ hb1; (obtain ⟨c0, c1, c2, c3, c4, c5, c6, c7, c8, c9⟩ := boxed.head hv1.out.box)) | (go_at_call 15; refine (few_any z s L _ hv1.out.rd).mono ?_; rintro e w2 ⟨he, hb2⟩; rw [hF] at he; subst he; have HV2 : Hid (Var w2 w.heap.size z s L) := hv1.out.below hb2))
    have hbel2 := (box_one hb1).trans (hb2.mono (box_one hb1).size)
    clear hb1 hb2 hv1 c0 c1 c2 c3 c4 c5 c6 c7 c8 c9
    refine wp_region_held_drew (S := fun w' => Below w2.heap.size w2 w') (by kernel_rfl) ((Below.refl _ w2).drew) fun hS => ?_
    refine wpAnyH_takeD 0 (some 13) (zv z s) rfl rfl (by kernel_rfl) (by kernel_rfl) (by kernel_rfl) (fun _ _ _ h => h) (Or.inl ⟨by rfl, fun w' hw' => ?_⟩) hS ?_
    · obtain ⟨c0, c1, c2, c3, c4, c5, c6, c7, c8, c9⟩ := boxed.head ((hw'.block _ (lt_of_block HV2.out.box)).trans HV2.out.box); go_simp
    try simp only [Act.put, List.setIfInBounds_toArray, List.set_cons_zero, List.set_cons_succ]
    refine wpAnyH_takeD 2 (some 15) (zv z s) rfl rfl (by kernel_rfl) (by kernel_rfl) (by kernel_rfl) (fun _ _ _ h => h) (Or.inl ⟨by rfl, fun w' hw' => ?_⟩) hS ?_
    · obtain ⟨c0, c1, c2, c3, c4, c5, c6, c7, c8, c9⟩ := boxed.head ((hw'.block _ (lt_of_block HV2.out.box)).trans HV2.out.box); go_simp
    try simp only [Act.put, List.setIfInBounds_toArray, List.set_cons_zero, List.set_cons_succ]
    refine wpAnyH_ready (rs := [1]) (by kernel_rfl) (by simp) (AllReadyH.cons rfl (fun K hK => ?_) AllReadyH.nil)
    go_simp
    go_at_call 33
    refine (HF1.out _ (HV2.out.rd.below hS)).mono ?_
    rintro e w3 ⟨vf, rfl, hrf, hb3⟩
    obtain ⟨af, cf, rfl, _⟩ := hrf.split
    try go_simp
    have hS3 : Below w2.heap.size w2 w3 := hS.trans (hb3.mono hS.size)
    refine hK.out _ _ hS3 fun hS3 => ?_
    try simp only [Act.put, List.setIfInBounds_toArray, List.set_cons_zero, List.set_cons_succ]
    refine wpAnyH_ready (rs := [3]) (by kernel_rfl) (by simp) (AllReadyH.cons rfl (fun K hK => ?_) AllReadyH.nil)
    go_simp
    go_at_call 34
    refine (HF2.out _ (HV2.out.rd.below hS3)).mono ?_
    rintro e w4 ⟨vg, rfl, hrg, hb4⟩
    obtain ⟨ag, cg, rfl, _⟩ := hrg.split
    try go_simp
    have hS4 : Below w2.heap.size w2 w4 := hS3.trans (hb4.mono hS3.size)
    refine hK.out _ _ hS4 fun hS4 => ?_
    try simp only [Act.put, List.setIfInBounds_toArray, List.set_cons_zero, List.set_cons_succ]
    refine wpAnyH_ready (rs := [4]) (by kernel_rfl) (by simp) (AllReadyH.cons rfl (fun K hK => ?_) AllReadyH.nil)
    go_simp
    go_at_call 32
    refine (sameInts_any _ _ xs xs _ (hrf.below hb4) hrg).mono ?_
    rintro e w5 ⟨rfl, q5, rfl⟩
    simp only [decide_true]
    try go_simp
    have hS5 : Below w2.heap.size w2 (w4.drewN q5) := Below.drewN' hS4 _
    refine hK.out _ _ hS5 fun hS5 => ?_
    try simp only [Act.put, List.setIfInBounds_toArray, List.set_cons_zero, List.set_cons_succ]
    refine wpAnyH_takeD 5 (some 18) (.bool true) rfl rfl (by kernel_rfl) (by kernel_rfl) (by kernel_rfl) (fun _ _ _ h => h) (Or.inl ⟨by rfl, fun w' hw' => ?_⟩) hS5 ?_
    · go_simp
    try simp only [Act.put, List.setIfInBounds_toArray, List.set_cons_zero, List.set_cons_succ]
    refine wpAnyH_takeD 6 (some 19) (zv z s) rfl rfl (by kernel_rfl) (by kernel_rfl) (by kernel_rfl) (fun _ _ _ h => h) (Or.inl ⟨by rfl, fun w' hw' => ?_⟩) hS5 ?_
    · obtain ⟨c0, c1, c2, c3, c4, c5, c6, c7, c8, c9⟩ := boxed.head ((hw'.block _ (lt_of_block HV2.out.box)).trans HV2.out.box); go_simp
    try simp only [Act.put, List.setIfInBounds_toArray, List.set_cons_zero, List.set_cons_succ]
    refine wpAnyH_takeD 8 (some 21) (zv z s) rfl rfl (by kernel_rfl) (by kernel_rfl) (by kernel_rfl) (fun _ _ _ h => h) (Or.inl ⟨by rfl, fun w' hw' => ?_⟩) hS5 ?_
    · obtain ⟨c0, c1, c2, c3, c4, c5, c6, c7, c8, c9⟩ := boxed.head ((hw'.block _ (lt_of_block HV2.out.box)).trans HV2.out.box); go_simp
    try simp only [Act.put, List.setIfInBounds_toArray, List.set_cons_zero, List.set_cons_succ]
    refine wpAnyH_ready (rs := [7]) (by kernel_rfl) (by simp) (AllReadyH.cons rfl (fun K hK => ?_) AllReadyH.nil)
    go_simp
    go_at_call 35
    refine (HC1.out _ (HV2.out.rd.below hS5)).mono ?_
    rintro e w6 ⟨rfl, hb6⟩
    try go_simp
    have hS6 : Below w2.heap.size w2 w6 := hS5.trans (hb6.mono hS5.size)
    refine hK.out _ _ hS6 fun hS6 => ?_
    try simp only [Act.put, List.setIfInBounds_toArray, List.set_cons_zero, List.set_cons_succ]
    refine wpAnyH_ready (rs := [9]) (by kernel_rfl) (by simp) (AllReadyH.cons rfl (fun K hK => ?_) AllReadyH.nil)
    go_simp
    go_at_call 36
    refine (HC2.out _ (HV2.out.rd.below hS6)).mono ?_
    rintro e w7 ⟨rfl, hb7⟩
    try go_simp
    have hS7 : Below w2.heap.size w2 w7 := hS6.trans (hb7.mono hS6.size)
    refine hK.out _ _ hS7 fun hS7 => ?_
    try simp only [Act.put, List.setIfInBounds_toArray, List.set_cons_zero, List.set_cons_succ]
    refine wpAnyH_takeD 10 (some 23) (.bool true) rfl rfl (by kernel_rfl) (by kernel_rfl) (by kernel_rfl) (fun _ _ _ h => h) (Or.inl ⟨by rfl, fun w' hw' => ?_⟩) hS7 ?_
    · go_simp
    try simp only [Act.put, List.setIfInBounds_toArray, List.set_cons_zero, List.set_cons_succ]
    refine wpAnyH_takeD 11 (some 24) (.bool true) rfl rfl (by kernel_rfl) (by kernel_rfl) (by kernel_rfl) (fun _ _ _ h => h) (Or.inl ⟨by rfl, fun w' hw' => ?_⟩) hS7 ?_
    · go_simp
    try simp only [Act.put, List.setIfInBounds_toArray, List.set_cons_zero, List.set_cons_succ]
    refine wpAnyH_takeD 12 (some 25) (.bool true) rfl rfl (by kernel_rfl) (by kernel_rfl) (by kernel_rfl) (fun _ _ _ h => h) (Or.inl ⟨by rfl, fun w' hw' => ?_⟩) hS7 ?_
    · go_simp
    try simp only [Act.put, List.setIfInBounds_toArray, List.set_cons_zero, List.set_cons_succ]
    refine wpAnyH_takeD 13 (some 26) (zv z s) rfl rfl (by kernel_rfl) (by kernel_rfl) (by kernel_rfl) (fun _ _ _ h => h) (Or.inl ⟨by rfl, fun w' hw' => ?_⟩) hS7 ?_
    · obtain ⟨c0, c1, c2, c3, c4, c5, c6, c7, c8, c9⟩ := boxed.head ((hw'.block _ (lt_of_block HV2.out.box)).trans HV2.out.box); go_simp
    try simp only [Act.put, List.setIfInBounds_toArray, List.set_cons_zero, List.set_cons_succ]
    refine wpAnyH_takeD 15 (some 28) (zv z s) rfl rfl (by kernel_rfl) (by kernel_rfl) (by kernel_rfl) (fun _ _ _ h => h) (Or.inl ⟨by rfl, fun w' hw' => ?_⟩) hS7 ?_
    · obtain ⟨c0, c1, c2, c3, c4, c5, c6, c7, c8, c9⟩ := boxed.head ((hw'.block _ (lt_of_block HV2.out.box)).trans HV2.out.box); go_simp
    try simp only [Act.put, List.setIfInBounds_toArray, List.set_cons_zero, List.set_cons_succ]
    refine wpAnyH_ready (rs := [14]) (by kernel_rfl) (by simp) (AllReadyH.cons rfl (fun K hK => ?_) AllReadyH.nil)
    go_simp
    go_at_call 37
    refine (HL1.out _ (HV2.out.rd.below hS7)).mono ?_
    rintro e w8 ⟨rfl, hb8⟩
    try go_simp
    have hS8 : Below w2.heap.size w2 w8 := hS7.trans (hb8.mono hS7.size)
    refine hK.out _ _ hS8 fun hS8 => ?_
    try simp only [Act.put, List.setIfInBounds_toArray, List.set_cons_zero, List.set_cons_succ]
    refine wpAnyH_ready (rs := [16]) (by kernel_rfl) (by simp) (AllReadyH.cons rfl (fun K hK => ?_) AllReadyH.nil)
    go_simp
    go_at_call 38
    refine (HL2.out _ (HV2.out.rd.below hS8)).mono ?_
    rintro e w9 ⟨rfl, hb9⟩
    try go_simp
    have hS9 : Below w2.heap.size w2 w9 := hS8.trans (hb9.mono hS8.size)
    refine hK.out _ _ hS9 fun hS9 => ?_
    try simp only [Act.put, List.setIfInBounds_toArray, List.set_cons_zero, List.set_cons_succ]
    refine wpAnyH_takeD 17 (some 30) (.bool true) rfl rfl (by kernel_rfl) (by kernel_rfl) (by kernel_rfl) (fun _ _ _ h => h) (Or.inl ⟨by rfl, fun w' hw' => ?_⟩) hS9 ?_
    · go_simp
    try simp only [Act.put, List.setIfInBounds_toArray, List.set_cons_zero, List.set_cons_succ]
    refine wpAnyH_takeD 18 (some 31) (.bool true) rfl rfl (by kernel_rfl) (by kernel_rfl) (by kernel_rfl) (fun _ _ _ h => h) (Or.inl ⟨by rfl, fun w' hw' => ?_⟩) hS9 ?_
    · go_simp
    try simp only [Act.put, List.setIfInBounds_toArray, List.set_cons_zero, List.set_cons_succ]
    refine wpAnyH_takeD 19 (some 32) (.bool true) rfl rfl (by kernel_rfl) (by kernel_rfl) (by kernel_rfl) (fun _ _ _ h => h) (Or.inl ⟨by rfl, fun w' hw' => ?_⟩) hS9 ?_
    · go_simp
    try simp only [Act.put, List.setIfInBounds_toArray, List.set_cons_zero, List.set_cons_succ]
    refine wpAnyH_takeD 20 (some 33) (zv z s) rfl rfl (by kernel_rfl) (by kernel_rfl) (by kernel_rfl) (fun _ _ _ h => h) (Or.inl ⟨by rfl, fun w' hw' => ?_⟩) hS9 ?_
    · obtain ⟨c0, c1, c2, c3, c4, c5, c6, c7, c8, c9⟩ := boxed.head ((hw'.block _ (lt_of_block HV2.out.box)).trans HV2.out.box); go_simp
    try simp only [Act.put, List.setIfInBounds_toArray, List.set_cons_zero, List.set_cons_succ]
    refine wpAnyH_takeD 21 (some 34) (.int .i64 o) rfl rfl (by kernel_rfl) (by kernel_rfl) (by kernel_rfl) (fun _ _ _ h => h) (Or.inl ⟨by rfl, fun w' hw' => ?_⟩) hS9 ?_
    · go_simp
    try simp only [Act.put, List.setIfInBounds_toArray, List.set_cons_zero, List.set_cons_succ]
    refine wpAnyH_takeD 23 (some 36) (zv z s) rfl rfl (by kernel_rfl) (by kernel_rfl) (by kernel_rfl) (fun _ _ _ h => h) (Or.inl ⟨by rfl, fun w' hw' => ?_⟩) hS9 ?_
    · obtain ⟨c0, c1, c2, c3, c4, c5, c6, c7, c8, c9⟩ := boxed.head ((hw'.block _ (lt_of_block HV2.out.box)).trans HV2.out.box); go_simp
    try simp only [Act.put, List.setIfInBounds_toArray, List.set_cons_zero, List.set_cons_succ]
    refine wpAnyH_takeD 24 (some 37) (.int .i64 o) rfl rfl (by kernel_rfl) (by kernel_rfl) (by kernel_rfl) (fun _ _ _ h => h) (Or.inl ⟨by rfl, fun w' hw' => ?_⟩) hS9 ?_
    · go_simp
    try simp only [Act.put, List.setIfInBounds_toArray, List.set_cons_zero, List.set_cons_succ]
    refine wpAnyH_ready (rs := [22]) (by kernel_rfl) (by simp) (AllReadyH.cons rfl (fun K hK => ?_) AllReadyH.nil)
    go_simp
    go_at_call 39
    refine (HU1.out _ (HV2.out.rd.below hS9)).mono ?_
    rintro e w10 ⟨rfl, hb10⟩
    try go_simp
    have hS10 : Below w2.heap.size w2 w10 := hS9.trans (hb10.mono hS9.size)
    refine hK.out _ _ hS10 fun hS10 => ?_
    try simp only [Act.put, List.setIfInBounds_toArray, List.set_cons_zero, List.set_cons_succ]
    refine wpAnyH_ready (rs := [25]) (by kernel_rfl) (by simp) (AllReadyH.cons rfl (fun K hK => ?_) AllReadyH.nil)
    go_simp
    go_at_call 40
    refine (HU2.out _ (HV2.out.rd.below hS10)).mono ?_
    rintro e w11 ⟨rfl, hb11⟩
    try go_simp
    have hS11 : Below w2.heap.size w2 w11 := hS10.trans (hb11.mono hS10.size)
    refine hK.out _ _ hS11 fun hS11 => ?_
    try simp only [Act.put, List.setIfInBounds_toArray, List.set_cons_zero, List.set_cons_succ]
    refine wpAnyH_takeD 26 (some 39) (.bool true) rfl rfl (by kernel_rfl) (by kernel_rfl) (by kernel_rfl) (fun _ _ _ h => h) (Or.inl ⟨by rfl, fun w' hw' => ?_⟩) hS11 ?_
    · go_simp
    try simp only [Act.put, List.setIfInBounds_toArray, List.set_cons_zero, List.set_cons_succ]
    refine wpAnyH_takeD 27 (some 40) (.bool true) rfl rfl (by kernel_rfl) (by kernel_rfl) (by kernel_rfl) (fun _ _ _ h => h) (Or.inl ⟨by rfl, fun w' hw' => ?_⟩) hS11 ?_
    · go_simp
    try simp only [Act.put, List.setIfInBounds_toArray, List.set_cons_zero, List.set_cons_succ]
    refine wpAnyH_takeD 28 (some 4) (.bool true) rfl rfl (by kernel_rfl) (by kernel_rfl) (by kernel_rfl) (fun _ _ _ h => h) (Or.inl ⟨by rfl, fun w' hw' => ?_⟩) hS11 ?_
    · go_simp
    try simp only [Act.put, List.setIfInBounds_toArray, List.set_cons_zero, List.set_cons_succ]
    refine wpAnyH_done (by kernel_rfl) ?_ _
    go_wp2_with fail
    go_ret
    exact ⟨rfl, hbel2.trans (hS11.mono hbel2.size)⟩
  · have hF' : fewL L = false := by simpa using hF
    go_wp2_with (first | (go_at_call 14; refine (awake_any _).mono ?_; rintro e w1 ⟨rfl, hb1⟩; have hv1 : Hid (Var w1 w.heap.size z s L) := Var.below ⟨heap_alloc_new w _, HR.out⟩ hb1; (obtain ⟨c0, c1, c2, c3, c4, c5, c6, c7, c8, c9⟩ := boxed.head hv1.out.box)) | (go_at_call 15; refine (few_any z s L _ hv1.out.rd).mono ?_; rintro e w2 ⟨he, hb2⟩; rw [hF'] at he; subst he) | (go_at_call 14; refine (awake_any _).mono ?_; rintro e w3 ⟨rfl, hb3⟩))
    go_ret
    exact ⟨rfl, ((box_one hb1).trans (hb2.mono (box_one hb1).size)).trans (hb3.mono (Nat.le_trans (box_one hb1).size hb2.size))⟩

theorem unus_count (L : FL) : unusM L 5 = ((frs L).length : Nat) := by
  have e : (frs L).length = (L 0).length * 2 ^ 0 + (L 1).length * 2 ^ 1 + (L 2).length * 2 ^ 2 + (L 3).length * 2 ^ 3 + (L 4).length * 2 ^ 4 := by
    unfold frs
    rw [frsTo_succ, frsTo_succ, frsTo_succ, frsTo_succ, frsTo_succ]
    simp only [List.length_append, lstF_len]
    simp [frsTo]
  rw [e]
  simp [unusM]

theorem counts_walk (z : Zh) (s : Nat → Value) (L : FL) (o : Int) (w : World) (hz : z.fits) (hrd : rdZ w s L) (hfit : fitsL L) (_ho : fits o) :
    Calls Try.prog 12 #[zv z s, .int .i64 o] w fun e w' => e = .returned (.bool true) ∧ Below w.heap.size w w' := by
  have nilrd : ∀ w : World, Go.Proofs.Ytcmmoemmlellbaa.rd w (.slice none 0 0) [] := fun w => .inl ⟨rfl, _, _, rfl⟩
  by_cases hc : chkM z L = 0
  · obtain ⟨hok, hv⟩ := chkM_zero.1 hc
    have hcnt : unusM L 5 = ((flist L).length : Nat) := by rw [frs_flist_len hok hv]; exact unus_count L
    have hC1 : fewL L = true → ∀ w, rdZ w s L → Calls Try.prog 35 #[zv z s] w fun e w' => e = .returned (.int .i64 ((flist L).length : Nat)) ∧ Below w.heap.size w w' := fun _ w hrd => (count_ok z s L w hok hv hrd).mono fun e w' h => ⟨h.1.trans (ret_int hcnt), h.2⟩
    have hC2 : fewL L = true → ∀ w, rdZ w s L → Calls Try.prog 36 #[zv z s] w fun e w' => e = .returned (.int .i64 ((flist L).length : Nat)) ∧ Below w.heap.size w w' := fun _ w hrd => rcount_gen z s L (flist L) w hrd fun w hrd => rframes_ok z s L w hok hv hrd
    by_cases ho : o < 0 ∨ 4 < o
    · exact counts_gen z s L (flist L) o _ _ 0 w hrd (fun _ w hrd => frames_ok z s L w hok hv hrd) (fun _ w hrd => rframes_ok z s L w hok hv hrd) hC1 hC2
        (fun _ w hrd => largest_ok z s L w hok hv hrd) (fun _ w hrd => rlargest_ok z s L w hok hv hrd) (fun _ w hrd => unusable_ord z s L o w hok hv hrd ho) (fun _ w hrd => runusable_ord z s L o w hok hv hrd ho)
    · obtain ⟨n, rfl⟩ : ∃ n : Nat, o = n := ⟨o.toNat, by omega⟩
      exact counts_gen z s L (flist L) n _ _ _ w hrd (fun _ w hrd => frames_ok z s L w hok hv hrd) (fun _ w hrd => rframes_ok z s L w hok hv hrd) hC1 hC2
        (fun _ w hrd => largest_ok z s L w hok hv hrd) (fun _ w hrd => rlargest_ok z s L w hok hv hrd) (fun _ w hrd => unusable_ok z s L n w hok hv hrd (by omega)) (fun _ w hrd => runusable_ok z s L n w hok hv hrd (by omega))
  · exact counts_gen z s L [] o 0 (-1) 0 w hrd (fun _ w hrd => (frames_err z s L w hz hrd hfit hc).mono fun _ w' h => ⟨_, h.1, nilrd w', h.2⟩) (fun _ w hrd => (rframes_err z s L w hz hrd hfit hc).mono fun _ w' h => ⟨_, h.1, nilrd w', h.2⟩)
      (fun _ w hrd => count_err z s L w hz hrd hfit hc) (fun _ w hrd => rcount_gen z s L [] w hrd fun w hrd => (rframes_err z s L w hz hrd hfit hc).mono fun _ w' h => ⟨_, h.1, nilrd w', h.2⟩)
      (fun _ w hrd => largest_err z s L w hz hrd hfit hc) (fun _ w hrd => rlargest_err z s L w hz hrd hfit hc) (fun _ w hrd => unusable_err z s L o w hz hrd hfit hc) (fun _ w hrd => runusable_err z s L o w hz hrd hfit hc)
end Go.Proofs.Ytcmmoemmlellbaa
