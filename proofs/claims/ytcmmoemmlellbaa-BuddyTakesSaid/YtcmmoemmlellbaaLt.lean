/- The law BuddyTakes: walked, over what Take and the reference's Take answer. Conditions: the numbers fit. -/
import Derived.Test.YtcmmoemmlellbaaTk
import Derived.Test.YtcmmoemmlellbaaTr
import Derived.Test.YtcmmoemmlellbaaBd
import Derived.Test.YtcmmoemmlellbaaLc
import Derived.BigQuiet
import Derived.Deep.QuietTactic
import Derived.Deep.CutRange
namespace Go.Proofs.Ytcmmoemmlellbaa
open Go.RowKit

set_option maxRecDepth 100000 in
set_option maxHeartbeats 2000000 in
theorem takes_gen (z zz : Zh) (s : Nat → Value) (L M : FL) (f er : Int) (fb : Bool) (P : FL → Prop) (w : World) (hrd : rdZ w s L) (hsame : ∀ N, P N → sameL M N = true)
    (hA : fewL L = true → ∀ w, rdZ w s L → Calls Try.prog 29 #[zv z s, .int .i64 f] w fun e w' => ∃ s', e = .returned (.tuple #[zv zz s', .int .i64 er]) ∧ rdZ w' s' M ∧ slices s' ∧ Below w.heap.size w w')
    (hB : fewL L = true → ∀ w, rdZ w s L → Calls Try.prog 30 #[zv z s, .int .i64 f] w fun e w' => ∃ s' N, e = .returned (.tuple #[zv zz s', .int .i64 er]) ∧ rdZ w' s' N ∧ slices s' ∧ P N ∧ Below w.heap.size w w')
    (hC : fewL L = true → ∀ w, rdZ w s L → Calls Try.prog 26 #[zv z s, .int .i64 f] w fun e w' => e = .returned (.bool fb) ∧ Below w.heap.size w w')
    (hD : fewL L = true → ∀ w, rdZ w s L → Calls Try.prog 31 #[zv z s, .int .i64 f] w fun e w' => e = .returned (.bool fb) ∧ Below w.heap.size w w') :
    Calls Try.prog 11 #[zv z s, .int .i64 f] w fun e w' => e = .returned (.bool true) ∧ Below w.heap.size w w' := by
  have HR := Lib.hid (hrd.below ((Below.refl _ w).alloc (Nat.le_refl _) (.cells #[.int .i64 z.nd, .int .i64 z.kd, .int .i64 z.st, .int .i64 z.ct, .int .i64 z.mn, s 0, s 1, s 2, s 3, s 4] 25))); clear hrd
  have HA := Lib.hid hA
  have HB := Lib.hid hB
  have HCC := Lib.hid hC
  have HDD := Lib.hid hD
  have HS := Lib.hid hsame
  clear hA hB hC hD hsame
  go_enter Try.func11, Try.ntmps11
  by_cases hF : fewL L = true
  · have HA := Lib.hid (HA.out hF)
    have HB := Lib.hid (HB.out hF)
    have HCC := Lib.hid (HCC.out hF)
    have HDD := Lib.hid (HDD.out hF)
    go_upto_region 3 with (first | (go_at_call 14; refine (awake_any _).mono ?_; rintro e w1 ⟨rfl, hb1⟩; have hv1 : Hid (Var w1 w.heap.size z s L) := Var.below ⟨heap_alloc_new w _, HR.out⟩ hb1; (obtain ⟨c0, c1, c2, c3, c4, c5, c6, c7, c8, c9⟩ := boxed.head hv1.out.box)) | (go_at_call 15; refine (few_any z s L _ hv1.out.rd).mono ?_; rintro e w2 ⟨he, hb2⟩; rw [hF] at he; subst he; have hv2 : Hid (Var w2 w.heap.size z s L) := hv1.out.below hb2))
    have hbel2 := (box_one hb1).trans (hb2.mono (box_one hb1).size)
    clear hb1 hb2 hv1 c0 c1 c2 c3 c4 c5 c6 c7 c8 c9
    go_upto_region 4 with (first | (refine load_zone rfl (.tmp 2) rfl w.heap.size z s rfl hv2.out.box ?_) | (go_at_call 29; refine (HA.out _ hv2.out.rd).mono ?_; rintro e w3 ⟨sA, rfl, hrA, hslA, hb3⟩; have HRA := Lib.hid hrA; clear hrA) | (refine store_zone rfl (.tmp 5) (.tmp 21) rfl w3.heap.size z0 nilS zz sA rfl rfl (heap_alloc_new w3 _) hslA ?_; intro w4 hbx4 hk4))
    obtain ⟨hv4, hb4⟩ := Var.made HRA.out hbx4 hk4
    have hbel4 : Below w2.heap.size w2 w4 := hb3.trans (hb4.mono hb3.size)
    have HV4 := Lib.hid hv4
    have HV2 := Lib.hid (hv2.out.below hbel4)
    clear hbx4 hk4 hv4 hv2
    go_upto_region 5 with (first | (refine load_zone rfl (.tmp 2) rfl w.heap.size z s rfl HV2.out.box ?_) | (go_at_call 30; refine (HB.out _ HV2.out.rd).mono ?_; rintro e w5 ⟨sB, N, rfl, hrB, hslB, hPN, hb5⟩; have HRB := Lib.hid hrB; clear hrB) | (refine store_zone rfl (.tmp 7) (.tmp 27) rfl w5.heap.size z0 nilS zz sB rfl rfl (heap_alloc_new w5 _) hslB ?_; intro w6 hbx6 hk6))
    obtain ⟨hv6, hb6⟩ := Var.made HRB.out hbx6 hk6
    have hbel6 : Below w4.heap.size w4 w6 := hb5.trans (hb6.mono hb5.size)
    have HV6 := Lib.hid hv6
    have HV7 := Lib.hid (HV4.out.below hbel6)
    have HSM := Lib.hid (HS.out N hPN)
    have hbelA : Below w.heap.size w w6 := (hbel2.trans (hbel4.mono hbel2.size)).trans (hbel6.mono (Nat.le_trans hbel2.size hbel4.size))
    clear hbx6 hk6 hv6 hPN
    obtain ⟨d0, d1, d2, d3, d4, d5, d6, d7, d8, d9⟩ := boxed.head HV6.out.box
    obtain ⟨e0, e1, e2, e3, e4, e5, e6, e7, e8, e9⟩ := boxed.head HV7.out.box
    have hE : (er == er) = true := by simp
    have HV8 := Lib.hid (HV2.out.below hbel6)
    obtain ⟨g0, g1, g2, g3, g4, g5, g6, g7, g8, g9⟩ := boxed.head HV8.out.box
    have hvzd : Hid (Var w6.drew w.heap.size z s L) := HV8.out.below (Below.refl _ w6).drew
    have hvad : Hid (Var w6.drew _ zz sA M) := HV7.out.below (Below.refl _ w6).drew
    have hvbd : Hid (Var w6.drew _ zz sB N) := HV6.out.below (Below.refl _ w6).drew
    have hE : (er == er) = true := by simp
    go_region_law (first | (go_simp; go_at_call 20; refine (same_any zz sA sB M N _ hvad.out.rd hvbd.out.rd).mono ?_; rintro e w7 ⟨he, hb7⟩; rw [HSM.out] at he; subst he; have hz7 : Hid (Var w7 w.heap.size z s L) := hvzd.out.below hb7; (obtain ⟨k0, k1, k2, k3, k4, k5, k6, k7, k8, k9⟩ := boxed.head hz7.out.box)) | (go_simp; go_at_call 26; refine (HCC.out _ ?h1).mono ?_; (case h1 => first | exact hz7.out.rd | exact hz9.out.rd); rintro e w8 ⟨rfl, hb8⟩; have hz8 : Hid (Var w8 w.heap.size z s L) := (by first | exact hz7.out.below hb8 | exact hz9.out.below hb8); (obtain ⟨l0, l1, l2, l3, l4, l5, l6, l7, l8, l9⟩ := boxed.head hz8.out.box)) | (go_simp; go_at_call 31; refine (HDD.out _ ?h1).mono ?_; (case h1 => first | exact hz7.out.rd | exact hz8.out.rd); rintro e w9 ⟨rfl, hb9⟩; have hz9 : Hid (Var w9 w.heap.size z s L) := (by first | exact hz7.out.below hb9 | exact hz8.out.below hb9); (obtain ⟨m0, m1, m2, m3, m4, m5, m6, m7, m8, m9⟩ := boxed.head hz9.out.box)))
    all_goals
      go_wp2_with fail
      go_ret
      refine ⟨ret_bool (by simp), ?_⟩
      have hA7 : Below w.heap.size w w7 := hbelA.drew.trans (hb7.mono hbelA.size)
      first
        | exact (hA7.trans (hb8.mono hA7.size)).trans (hb9.mono (Nat.le_trans hA7.size hb8.size))
        | exact (hA7.trans (hb9.mono hA7.size)).trans (hb8.mono (Nat.le_trans hA7.size hb9.size))
  · have hF' : fewL L = false := by simpa using hF
    go_wp2_with (first | (go_at_call 14; refine (awake_any _).mono ?_; rintro e w1 ⟨rfl, hb1⟩; have hv1 : Hid (Var w1 w.heap.size z s L) := Var.below ⟨heap_alloc_new w _, HR.out⟩ hb1; (obtain ⟨c0, c1, c2, c3, c4, c5, c6, c7, c8, c9⟩ := boxed.head hv1.out.box)) | (go_at_call 15; refine (few_any z s L _ hv1.out.rd).mono ?_; rintro e w2 ⟨he, hb2⟩; rw [hF'] at he; subst he) | (go_at_call 14; refine (awake_any _).mono ?_; rintro e w3 ⟨rfl, hb3⟩))
    go_ret
    exact ⟨rfl, ((box_one hb1).trans (hb2.mono (box_one hb1).size)).trans (hb3.mono (Nat.le_trans (box_one hb1).size hb2.size))⟩


/-- lists with the free frames but one -/
theorem less_one {z : Zh} {L : FL} (v : Valid z L) (f : Int) : ∃ M, Valid z M ∧ ∀ x, free M x ↔ free L x ∧ x ≠ f := by
  let l := ((List.range z.ct.toNat).map fun t : Nat => z.st + t).filter fun x => freeB L x && decide (x ≠ f)
  have hm : ∀ x, x ∈ l ↔ (z.st ≤ x ∧ x < z.st + z.ct) ∧ free L x ∧ x ≠ f := fun x => by
    simp only [l, List.mem_filter, List.mem_map, List.mem_range, Bool.and_eq_true, decide_eq_true_eq, freeB_iff v]
    constructor
    · rintro ⟨⟨t, ht, rfl⟩, h⟩; exact ⟨⟨by omega, by omega⟩, h⟩
    · rintro ⟨h1, h⟩; exact ⟨⟨(x - z.st).toNat, by omega, by omega⟩, h⟩
  have hnd : l.Nodup := by
    refine List.Nodup.sublist List.filter_sublist ?_
    refine List.Pairwise.map _ ?_ List.nodup_range
    intro a b h e
    exact h (by omega)
  obtain ⟨h1, h2⟩ := buildM_valid z l (fun b hb => insB_zero.2 ((hm b).1 hb).1) hnd
  exact ⟨_, h1, fun x => by rw [h2, hm]; exact ⟨fun h => h.2, fun h => ⟨free_range v h.1, h⟩⟩⟩

theorem rdZ_same {w : World} {s : Nat → Value} {L M : FL} (h : rdZ w s L) (e : ∀ k, k ≤ 4 → L k = M k) : rdZ w s M := fun k hk => by rw [← e k hk]; exact h k hk

theorem takes_walk (z : Zh) (s : Nat → Value) (L : FL) (f : Int) (w : World) (hz : z.fits) (hrd : rdZ w s L) (hfit : fitsL L) (hf : fits f) :
    Calls Try.prog 11 #[zv z s, .int .i64 f] w fun e w' => e = .returned (.bool true) ∧ Below w.heap.size w w' := by
  by_cases hc : chkM z L = 0
  · obtain ⟨hok, hv⟩ := chkM_zero.1 hc
    have hC : fewL L = true → ∀ w, rdZ w s L → Calls Try.prog 26 #[zv z s, .int .i64 f] w fun e w' => e = .returned (.bool (freeB L f)) ∧ Below w.heap.size w w' := fun _ w hrd => isFree_ok z s L f w hok hv hrd hf
    have hD : fewL L = true → ∀ w, rdZ w s L → Calls Try.prog 31 #[zv z s, .int .i64 f] w fun e w' => e = .returned (.bool (freeB L f)) ∧ Below w.heap.size w w' := fun _ w hrd => risFree_ok z s L f w hok hv hrd hf
    by_cases hin : insB z f 0 = true
    · by_cases hfr : free L f
      · obtain ⟨k, hk, b, hb, hx⟩ := hfr
        have hfr : free L f := ⟨k, hk, b, hb, hx⟩
        obtain ⟨M0, hm1, hm2⟩ := less_one hv f
        refine takes_gen z z s L M0 f 0 _ (fun N => Valid z N ∧ ∀ x, free N x ↔ free L x ∧ x ≠ f) w hrd (fun N hN => same_valid hm1 hN.1 fun x => by rw [hm2, hN.2]) (fun _ w hrd => (take_main z s L f w hok hv hrd hf).mono fun e w' h => ?_) (fun _ w hrd => (rtake_main z s L f w hok hv hrd hf).mono fun e w' h => ?_) hC hD
        · rcases h.2 with h1 | h1 | ⟨_, _, s', M, h2, h3, h4, h5, h6⟩
          · rw [hin] at h1; cases h1.1
          · exact (h1.2.1 hfr).elim
          · exact ⟨s', h2, rdZ_same h3 (h5.unique hm1 fun x => by rw [h6, hm2]), h4, h.1⟩
        · rcases h.2 with h1 | h1 | ⟨_, _, s', M, h2, h3, h4, h5⟩
          · rw [hin] at h1; cases h1.1
          · exact (h1.2.1 hfr).elim
          · exact ⟨s', M, h2, h3.rdZ, h3.slices, ⟨h4, h5⟩, h.1⟩
      · refine takes_gen z z0 s L (fun _ => []) f 6 _ (fun M => M = fun _ => []) w hrd (fun M hM => by subst hM; exact sameL_iff.2 fun _ _ => rfl) (fun _ w hrd => (take_main z s L f w hok hv hrd hf).mono fun e w' h => ?_) (fun _ w hrd => (rtake_main z s L f w hok hv hrd hf).mono fun e w' h => ?_) hC hD
        · rcases h.2 with h1 | h1 | h1
          · rw [hin] at h1; cases h1.1
          · exact ⟨nilS, h1.2.2, rdNil, slices_nil, h.1⟩
          · exact (hfr h1.2.1).elim
        · rcases h.2 with h1 | h1 | h1
          · rw [hin] at h1; cases h1.1
          · exact ⟨nilS, _, h1.2.2, rdNil, slices_nil, rfl, h.1⟩
          · exact (hfr h1.2.1).elim
    · have hin' : insB z f 0 = false := by simpa using hin
      refine takes_gen z z0 s L (fun _ => []) f 2 _ (fun M => M = fun _ => []) w hrd (fun M hM => by subst hM; exact sameL_iff.2 fun _ _ => rfl) (fun _ w hrd => (take_main z s L f w hok hv hrd hf).mono fun e w' h => ?_) (fun _ w hrd => (rtake_main z s L f w hok hv hrd hf).mono fun e w' h => ?_) hC hD
      · rcases h.2 with h1 | h1 | h1
        · exact ⟨nilS, h1.2, rdNil, slices_nil, h.1⟩
        · exact (hin h1.1).elim
        · exact (hin h1.1).elim
      · rcases h.2 with h1 | h1 | h1
        · exact ⟨nilS, _, h1.2, rdNil, slices_nil, rfl, h.1⟩
        · exact (hin h1.1).elim
        · exact (hin h1.1).elim
  · refine takes_gen z z0 s L (fun _ => []) f (chkM z L) false (fun M => M = fun _ => []) w hrd (fun M hM => by subst hM; exact sameL_iff.2 fun _ _ => rfl) (fun _ w hrd => (take_err z s L f w hz hrd hfit hc).mono fun e w' h => ⟨nilS, h.1, rdNil, slices_nil, h.2⟩) (fun _ w hrd => (rtake_err z s L f w hz hrd hfit hc).mono fun e w' h => ⟨nilS, _, h.1, rdNil, slices_nil, rfl, h.2⟩) (fun _ w hrd => isFree_err z s L f w hz hrd hfit hc) (fun _ w hrd => risFree_err z s L f w hz hrd hfit hc)
end Go.Proofs.Ytcmmoemmlellbaa
