/- The law BuddyAllocs: walked, over what Alloc and the reference's Alloc answer. Conditions: the numbers fit. -/
import Derived.Test.YtcmmoemmlellbaaRp
import Derived.Test.YtcmmoemmlellbaaLa
import Derived.Test.YtcmmoemmlellbaaLb
namespace Go.Proofs.Ytcmmoemmlellbaa
open Go.RowKit

set_option maxRecDepth 100000 in
set_option maxHeartbeats 2000000 in
theorem allocs_gen (z zz : Zh) (s : Nat → Value) (L M : FL) (o x er : Int) (P : FL → Prop) (w : World) (hrd : rdZ w s L) (hsame : ∀ N, P N → sameL M N = true)
    (hA : fewL L = true → ∀ w, rdZ w s L → Calls Try.prog 21 #[zv z s, .int .i64 o] w fun e w' => ∃ s', e = .returned (.tuple #[zv zz s', .int .i64 x, .int .i64 er]) ∧ rdZ w' s' M ∧ slices s' ∧ Below w.heap.size w w')
    (hB : fewL L = true → ∀ w, rdZ w s L → Calls Try.prog 22 #[zv z s, .int .i64 o] w fun e w' => ∃ s' N, e = .returned (.tuple #[zv zz s', .int .i64 x, .int .i64 er]) ∧ rdZ w' s' N ∧ slices s' ∧ P N ∧ Below w.heap.size w w') :
    Calls Try.prog 5 #[zv z s, .int .i64 o] w fun e w' => e = .returned (.bool true) ∧ Below w.heap.size w w' := by
  have HR := Lib.hid (hrd.below ((Below.refl _ w).alloc (Nat.le_refl _) (.cells #[.int .i64 z.nd, .int .i64 z.kd, .int .i64 z.st, .int .i64 z.ct, .int .i64 z.mn, s 0, s 1, s 2, s 3, s 4] 25))); clear hrd
  have HA := Lib.hid hA
  have HB := Lib.hid hB
  have HS := Lib.hid hsame
  clear hA hB hsame
  go_enter Try.func5, Try.ntmps5
  by_cases hF : fewL L = true
  · have HA := Lib.hid (HA.out hF)
    have HB := Lib.hid (HB.out hF)
    go_upto_region 3 with (first | (go_at_call 14; refine (awake_any _).mono ?_; rintro e w1 ⟨rfl, hb1⟩; have hv1 : Hid (Var w1 w.heap.size z s L) := Var.below ⟨heap_alloc_new w _, HR.out⟩ hb1; (obtain ⟨c0, c1, c2, c3, c4, c5, c6, c7, c8, c9⟩ := boxed.head hv1.out.box)) | (go_at_call 15; refine (few_any z s L _ hv1.out.rd).mono ?_; rintro e w2 ⟨he, hb2⟩; rw [hF] at he; subst he; have hv2 : Hid (Var w2 w.heap.size z s L) := hv1.out.below hb2))
    have hbel2 := (box_one hb1).trans (hb2.mono (box_one hb1).size)
    clear hb1 hb2 hv1 c0 c1 c2 c3 c4 c5 c6 c7 c8 c9
    go_upto_region 4 with (first | (refine load_zone rfl (.tmp 2) rfl w.heap.size z s rfl hv2.out.box ?_) | (go_at_call 21; refine (HA.out _ hv2.out.rd).mono ?_; rintro e w3 ⟨sA, rfl, hrA, hslA, hb3⟩; have HRA := Lib.hid hrA; clear hrA) | (refine store_zone rfl (.tmp 5) (.tmp 23) rfl w3.heap.size z0 nilS zz sA rfl rfl (heap_alloc_new w3 _) hslA ?_; intro w4 hbx4 hk4))
    obtain ⟨hv4, hb4⟩ := Var.made HRA.out hbx4 hk4
    have hbel4 : Below w2.heap.size w2 w4 := hb3.trans (hb4.mono hb3.size)
    have HV4 := Lib.hid hv4
    have HV2 := Lib.hid (hv2.out.below hbel4)
    clear hbx4 hk4 hv4 hv2
    go_upto_region 5 with (first | (refine load_zone rfl (.tmp 2) rfl w.heap.size z s rfl HV2.out.box ?_) | (go_at_call 22; refine (HB.out _ HV2.out.rd).mono ?_; rintro e w5 ⟨sB, N, rfl, hrB, hslB, hPN, hb5⟩; have HRB := Lib.hid hrB; clear hrB) | (refine store_zone rfl (.tmp 8) (.tmp 30) rfl w5.heap.size z0 nilS zz sB rfl rfl (heap_alloc_new w5 _) hslB ?_; intro w6 hbx6 hk6))
    obtain ⟨hv6, hb6⟩ := Var.made HRB.out hbx6 hk6
    have hbel6 : Below w4.heap.size w4 w6 := hb5.trans (hb6.mono hb5.size)
    have HV6 := Lib.hid hv6
    have HV7 := Lib.hid (HV4.out.below hbel6)
    have HSM := Lib.hid (HS.out N hPN)
    have hbelA : Below w.heap.size w w6 := (hbel2.trans (hbel4.mono hbel2.size)).trans (hbel6.mono (Nat.le_trans hbel2.size hbel4.size))
    clear hbx6 hk6 hv6 hPN
    obtain ⟨d0, d1, d2, d3, d4, d5, d6, d7, d8, d9⟩ := boxed.head HV6.out.box
    obtain ⟨e0, e1, e2, e3, e4, e5, e6, e7, e8, e9⟩ := boxed.head HV7.out.box
    have hE : (er == er) = true := by simp
    have hX : (x == x) = true := by simp
    go_wp2_with (go_at_call 20; refine (same_any zz sA sB M N _ HV7.out.rd HV6.out.rd).mono ?_; rintro e w7 ⟨rfl, hb7⟩)
    go_ret
    exact ⟨ret_bool HSM.out, hbelA.trans (hb7.mono hbelA.size)⟩
  · have hF' : fewL L = false := by simpa using hF
    go_wp2_with (first | (go_at_call 14; refine (awake_any _).mono ?_; rintro e w1 ⟨rfl, hb1⟩; have hv1 : Hid (Var w1 w.heap.size z s L) := Var.below ⟨heap_alloc_new w _, HR.out⟩ hb1; (obtain ⟨c0, c1, c2, c3, c4, c5, c6, c7, c8, c9⟩ := boxed.head hv1.out.box)) | (go_at_call 15; refine (few_any z s L _ hv1.out.rd).mono ?_; rintro e w2 ⟨he, hb2⟩; rw [hF'] at he; subst he) | (go_at_call 14; refine (awake_any _).mono ?_; rintro e w3 ⟨rfl, hb3⟩))
    go_ret
    exact ⟨rfl, ((box_one hb1).trans (hb2.mono (box_one hb1).size)).trans (hb3.mono (Nat.le_trans (box_one hb1).size hb2.size))⟩

theorem rdNil {w : World} : rdZ w nilS (fun _ => []) := fun _ _ => .inl ⟨rfl, _, _, rfl⟩

theorem allocs_walk (z : Zh) (s : Nat → Value) (L : FL) (o : Int) (w : World) (hz : z.fits) (hrd : rdZ w s L) (hfit : fitsL L) (_ho : fits o) :
    Calls Try.prog 5 #[zv z s, .int .i64 o] w fun e w' => e = .returned (.bool true) ∧ Below w.heap.size w w' := by
  by_cases hc : chkM z L = 0
  · obtain ⟨hok, hv⟩ := chkM_zero.1 hc
    by_cases ho : o < 0 ∨ 4 < o
    · refine allocs_gen z z0 s L (fun _ => []) o 0 2 (fun M => M = fun _ => []) w hrd (fun M hM => by subst hM; exact sameL_iff.2 fun _ _ => rfl) (fun _ w hrd => (alloc_ord z s L o w hok hv hrd ho).mono fun e w' h => ⟨nilS, h.1, rdNil, slices_nil, h.2⟩) fun _ w hrd => (ralloc_ord z s L o w hok hv hrd ho).mono fun e w' h => ⟨nilS, _, h.1, rdNil, slices_nil, rfl, h.2⟩
    · obtain ⟨n, rfl⟩ : ∃ n : Nat, o = n := ⟨o.toNat, by omega⟩
      have hn : n ≤ 4 := by omega
      cases hf : findK L (5 - n) n with
      | none =>
        refine allocs_gen z z0 s L (fun _ => []) n 0 16 (fun M => M = fun _ => []) w hrd (fun M hM => by subst hM; exact sameL_iff.2 fun _ _ => rfl) (fun _ w hrd => (alloc_main z s L n w hok hv hrd hn).mono fun e w' h => ?_) fun _ w hrd => (ralloc_main z s L n w hok hv hrd hn).mono fun e w' h => ?_
        · rcases h.2 with h1 | ⟨k, s', h1, _⟩
          · exact ⟨nilS, h1.2, rdNil, slices_nil, h.1⟩
          · rw [hf] at h1; cases h1
        · rcases h.2 with h1 | ⟨k, s', M, h1, _⟩
          · exact ⟨nilS, _, h1.2, rdNil, slices_nil, rfl, h.1⟩
          · rw [hf] at h1; cases h1
      | some k =>
        have hav := alloc_valid hv hf
        refine allocs_gen z z s L (allocL L n k) n ((L k).headD 0) 0 (fun M => Valid z M ∧ ∀ x, free M x ↔ free L x ∧ ¬ inBlk x ((L k).headD 0) n) w hrd (fun M hM => same_valid hav.1 hM.1 fun f => by rw [hav.2.2.2.2.2.2, hM.2]) (fun _ w hrd => (alloc_main z s L n w hok hv hrd hn).mono fun e w' h => ?_) fun _ w hrd => (ralloc_main z s L n w hok hv hrd hn).mono fun e w' h => ?_
        · rcases h.2 with h1 | ⟨k', s', h1, h2, h3, h4⟩
          · rw [hf] at h1; cases h1.1
          · rw [hf] at h1; cases h1
            exact ⟨s', h2, h3, h4, h.1⟩
        · rcases h.2 with h1 | ⟨k', s', M, h1, h2, h3, h4, h5⟩
          · rw [hf] at h1; cases h1.1
          · rw [hf] at h1; cases h1
            exact ⟨s', M, h2, h3.rdZ, h3.slices, ⟨h4, h5⟩, h.1⟩
  · refine allocs_gen z z0 s L (fun _ => []) o 0 (chkM z L) (fun M => M = fun _ => []) w hrd (fun M hM => by subst hM; exact sameL_iff.2 fun _ _ => rfl) (fun _ w hrd => (alloc_err z s L o w hz hrd hfit hc).mono fun e w' h => ⟨nilS, h.1, rdNil, slices_nil, h.2⟩) fun _ w hrd => (ralloc_err z s L o w hz hrd hfit hc).mono fun e w' h => ⟨nilS, _, h.1, rdNil, slices_nil, rfl, h.2⟩
end Go.Proofs.Ytcmmoemmlellbaa
