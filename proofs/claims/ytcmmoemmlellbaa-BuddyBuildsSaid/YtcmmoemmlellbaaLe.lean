/- The law BuddyBuilds: walked, over what Build and the reference's Build answer. Conditions: the numbers fit. -/
import Derived.Test.YtcmmoemmlellbaaBe
import Derived.Test.YtcmmoemmlellbaaLc
namespace Go.Proofs.Ytcmmoemmlellbaa
open Go.RowKit

set_option maxRecDepth 100000 in
set_option maxHeartbeats 2000000 in
theorem builds_gen (z zz : Zh) (s : Nat → Value) (L M : FL) (a : Option Addr) (c : Nat) (l : List Int) (er : Int) (P : FL → Prop) (w : World) (hrd : rdZ w s L) (hrl : rd w (.slice a l.length c) l) (hsame : ∀ N, P N → sameL M N = true)
    (hA : ∀ w, rd w (.slice a l.length c) l → Calls Try.prog 27 #[zv z s, .slice a l.length c] w fun e w' => ∃ s', e = .returned (.tuple #[zv zz s', .int .i64 er]) ∧ rdZ w' s' M ∧ slices s' ∧ Below w.heap.size w w')
    (hB : ∀ w, rd w (.slice a l.length c) l → Calls Try.prog 28 #[zv z s, .slice a l.length c] w fun e w' => ∃ s' N, e = .returned (.tuple #[zv zz s', .int .i64 er]) ∧ rdZ w' s' N ∧ slices s' ∧ P N ∧ Below w.heap.size w w') :
    Calls Try.prog 10 #[zv z s, .slice a l.length c] w fun e w' => e = .returned (.bool true) ∧ Below w.heap.size w w' := by
  have HR := Lib.hid (hrd.below ((Below.refl _ w).alloc (Nat.le_refl _) (.cells #[.int .i64 z.nd, .int .i64 z.kd, .int .i64 z.st, .int .i64 z.ct, .int .i64 z.mn, s 0, s 1, s 2, s 3, s 4] 25))); clear hrd
  have HRL := Lib.hid (hrl.below ((Below.refl _ w).alloc (Nat.le_refl _) (.cells #[.int .i64 z.nd, .int .i64 z.kd, .int .i64 z.st, .int .i64 z.ct, .int .i64 z.mn, s 0, s 1, s 2, s 3, s 4] 25)))
  have HA := Lib.hid hA
  have HB := Lib.hid hB
  have HS := Lib.hid hsame
  clear hA hB hsame hrl
  go_enter Try.func10, Try.ntmps10
  by_cases hF : fewL L = true
  · by_cases hlen : l.length ≤ 300
    · have hl1 : ¬ (300 : Int) < (l.length : Int) := by omega
      have hl2 : decide ((300 : Int) < (l.length : Int)) = false := decide_eq_false hl1
      go_upto_region 3 with (first | (go_at_call 14; refine (awake_any _).mono ?_; rintro e w1 ⟨rfl, hb1⟩; have hv1 : Hid (Var w1 w.heap.size z s L) := Var.below ⟨heap_alloc_new w _, HR.out⟩ hb1; (obtain ⟨c0, c1, c2, c3, c4, c5, c6, c7, c8, c9⟩ := boxed.head hv1.out.box)) | (go_at_call 15; refine (few_any z s L _ hv1.out.rd).mono ?_; rintro e w2 ⟨he, hb2⟩; rw [hF] at he; subst he; have hv2 : Hid (Var w2 w.heap.size z s L) := hv1.out.below hb2))
      have hbel2 := (box_one hb1).trans (hb2.mono (box_one hb1).size)
      have HRL2 := Lib.hid ((HRL.out.below hb1).below hb2)
      clear hb1 hb2 hv1 c0 c1 c2 c3 c4 c5 c6 c7 c8 c9
      go_upto_region 4 with (first | (refine load_zone rfl (.tmp 2) rfl w.heap.size z s rfl hv2.out.box ?_) | (go_at_call 27; refine (HA.out _ HRL2.out).mono ?_; rintro e w3 ⟨sA, rfl, hrA, hslA, hb3⟩; have HRA := Lib.hid hrA; clear hrA) | (refine store_zone rfl (.tmp 5) (.tmp 26) rfl w3.heap.size z0 nilS zz sA rfl rfl (heap_alloc_new w3 _) hslA ?_; intro w4 hbx4 hk4))
      obtain ⟨hv4, hb4⟩ := Var.made HRA.out hbx4 hk4
      have hbel4 : Below w2.heap.size w2 w4 := hb3.trans (hb4.mono hb3.size)
      have HV4 := Lib.hid hv4
      have HV2 := Lib.hid (hv2.out.below hbel4)
      clear hbx4 hk4 hv4 hv2
      go_upto_region 5 with (first | (refine load_zone rfl (.tmp 2) rfl w.heap.size z s rfl HV2.out.box ?_) | (go_at_call 28; refine (HB.out _ ((HRL2.out).below hbel4)).mono ?_; rintro e w5 ⟨sB, N, rfl, hrB, hslB, hPN, hb5⟩; have HRB := Lib.hid hrB; clear hrB) | (refine store_zone rfl (.tmp 7) (.tmp 32) rfl w5.heap.size z0 nilS zz sB rfl rfl (heap_alloc_new w5 _) hslB ?_; intro w6 hbx6 hk6))
      obtain ⟨hv6, hb6⟩ := Var.made HRB.out hbx6 hk6
      have hbel6 : Below w4.heap.size w4 w6 := hb5.trans (hb6.mono hb5.size)
      have HV6 := Lib.hid hv6
      have HV7 := Lib.hid (HV4.out.below hbel6)
      have HSM := Lib.hid (HS.out N hPN)
      have hbelA : Below w.heap.size w w6 := (hbel2.trans (hbel4.mono hbel2.size)).trans (hbel6.mono (Nat.le_trans hbel2.size hbel4.size))
      clear hbx6 hk6 hv6 hPN
      obtain ⟨d0, d1, d2, d3, d4, d5, d6, d7, d8, d9⟩ := boxed.head HV6.out.box
      obtain ⟨e0, e1, e2, e3, e4, e5, e6, e7, e8, e9⟩ := boxed.head HV7.out.box
      have hE : (er == er) = true := by simp
      go_wp2_with (go_at_call 20; refine (same_any zz sA sB M N _ HV7.out.rd HV6.out.rd).mono ?_; rintro e w7 ⟨rfl, hb7⟩)
      go_ret
      exact ⟨ret_bool HSM.out, hbelA.trans (hb7.mono hbelA.size)⟩
    · have hl1 : (300 : Int) < (l.length : Int) := by omega
      have hl2 : decide ((300 : Int) < (l.length : Int)) = true := decide_eq_true hl1
      go_wp2_with (first | (go_at_call 14; refine (awake_any _).mono ?_; rintro e w1 ⟨rfl, hb1⟩; have hv1 : Hid (Var w1 w.heap.size z s L) := Var.below ⟨heap_alloc_new w _, HR.out⟩ hb1; (obtain ⟨c0, c1, c2, c3, c4, c5, c6, c7, c8, c9⟩ := boxed.head hv1.out.box)) | (go_at_call 15; refine (few_any z s L _ hv1.out.rd).mono ?_; rintro e w2 ⟨he, hb2⟩; rw [hF] at he; subst he) | (go_at_call 14; refine (awake_any _).mono ?_; rintro e w3 ⟨rfl, hb3⟩))
      go_ret
      exact ⟨rfl, ((box_one hb1).trans (hb2.mono (box_one hb1).size)).trans (hb3.mono (Nat.le_trans (box_one hb1).size hb2.size))⟩
  · have hF' : fewL L = false := by simpa using hF
    go_wp2_with (first | (go_at_call 14; refine (awake_any _).mono ?_; rintro e w1 ⟨rfl, hb1⟩; have hv1 : Hid (Var w1 w.heap.size z s L) := Var.below ⟨heap_alloc_new w _, HR.out⟩ hb1; (obtain ⟨c0, c1, c2, c3, c4, c5, c6, c7, c8, c9⟩ := boxed.head hv1.out.box)) | (go_at_call 15; refine (few_any z s L _ hv1.out.rd).mono ?_; rintro e w2 ⟨he, hb2⟩; rw [hF'] at he; subst he) | (go_at_call 14; refine (awake_any _).mono ?_; rintro e w3 ⟨rfl, hb3⟩))
    go_ret
    exact ⟨rfl, ((box_one hb1).trans (hb2.mono (box_one hb1).size)).trans (hb3.mono (Nat.le_trans (box_one hb1).size hb2.size))⟩

theorem builds_walk (z : Zh) (s : Nat → Value) (L : FL) (v : Value) (l : List Int) (w : World) (hz : z.fits) (hrd : rdZ w s L) (_hfit : fitsL L) (hrl : rd w v l) (hfl : ∀ x, x ∈ l → fits x) :
    Calls Try.prog 10 #[zv z s, v] w fun e w' => e = .returned (.bool true) ∧ Below w.heap.size w w' := by
  obtain ⟨a, c, rfl, _⟩ := hrl.split
  by_cases hok : z.ok = true
  · by_cases he : bErr z l l.length 0 = 0
    · have hp := bErr_ok.1 he
      have hb := buildM_valid z l hp.1 (hp.2.imp (fun h e => by omega))
      refine builds_gen z z s L (buildM z l) a c l 0 (fun M => Valid z M ∧ ∀ x, free M x ↔ x ∈ l) w hrd hrl (fun M hM => same_valid hb.1 hM.1 fun f => by rw [hb.2, hM.2]) (fun w hrl => (build_main z s _ l w hok hrl hfl).mono fun e w' h => ?_) fun w hrl => (rbuild_main z s _ l w hok hrl hfl).mono fun e w' h => ?_
      · rcases h.2 with h1 | ⟨_, s', h2, h3, h4⟩
        · exact (h1.1 he).elim
        · exact ⟨s', h2, h3, h4, h.1⟩
      · rcases h.2 with h1 | ⟨_, s', M, h2, h3, h4, h5⟩
        · exact (h1.1 he).elim
        · exact ⟨s', M, h2, h3.rdZ, h3.slices, ⟨h4, h5⟩, h.1⟩
    · refine builds_gen z z0 s L (fun _ => []) a c l (bErr z l l.length 0) (fun M => M = fun _ => []) w hrd hrl (fun M hM => by subst hM; exact sameL_iff.2 fun _ _ => rfl) (fun w hrl => (build_main z s _ l w hok hrl hfl).mono fun e w' h => ?_) fun w hrl => (rbuild_main z s _ l w hok hrl hfl).mono fun e w' h => ?_
      · rcases h.2 with h1 | ⟨h1, _⟩
        · exact ⟨nilS, h1.2, rdNil, slices_nil, h.1⟩
        · exact (he h1).elim
      · rcases h.2 with h1 | ⟨h1, _⟩
        · exact ⟨nilS, _, h1.2, rdNil, slices_nil, rfl, h.1⟩
        · exact (he h1).elim
  · have hb : z.ok = false := by simpa using hok
    refine builds_gen z z0 s L (fun _ => []) a c l 2 (fun M => M = fun _ => []) w hrd hrl (fun M hM => by subst hM; exact sameL_iff.2 fun _ _ => rfl) (fun w hrl => (build_bad z s _ w hz hb).mono fun e w' h => ⟨nilS, h.1, rdNil, slices_nil, h.2⟩) fun w hrl => (rbuild_bad z s _ w hz hb).mono fun e w' h => ⟨nilS, _, h.1, rdNil, slices_nil, rfl, h.2⟩
end Go.Proofs.Ytcmmoemmlellbaa
