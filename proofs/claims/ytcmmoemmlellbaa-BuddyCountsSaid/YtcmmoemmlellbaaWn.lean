/- The reference's New: walked. Conditions: the numbers fit. -/
import Derived.Test.YtcmmoemmlellbaaWi
namespace Go.Proofs.Ytcmmoemmlellbaa
open Go.RowKit
attribute [local go_sem] wrap_pow

set_option maxRecDepth 100000 in
set_option maxHeartbeats 1000000 in
theorem rnew_bad (z : Zh) (w : World) (hz : z.fits) (hb : z.ok = false) :
    Calls Try.prog 19 #[.int .i64 z.nd, .int .i64 z.kd, .int .i64 z.st, .int .i64 z.ct, .int .i64 z.mn] w fun e w' => e = .returned (.tuple #[zv z0 nilS, .int .i64 2]) ∧ Below w.heap.size w w' := by
  go_enter Try.func19, Try.ntmps19
  go_upto_region 3 with (go_at_call 44; refine (inRange_any z nilS _ hz).mono ?_; rintro e w1 ⟨he, hb1⟩; rw [hb] at he; subst he)
  have hbox : boxed w1 w.heap.size z0 nilS := (hb1.block w.heap.size (by rw [size_two]; omega)).trans (heap_alloc2_old w _ _)
  have hbel := (below_two w _ _).trans (hb1.mono (by rw [size_two]; omega))
  clear hb1
  go_wp2_with (refine store_zone rfl (.tmp 10) (.tmp 24) rfl w.heap.size z0 nilS z0 nilS rfl rfl hbox slices_nil ?_; intro w2 hbx2 hk2)
  exact bodyPost_ret (results_zone2 rfl _ _ w.heap.size z0 nilS rfl hbx2) rfl ⟨rfl, hbel.trans (hk2.to_below hbel.size fun k hk => by omega)⟩

set_option maxRecDepth 100000 in
set_option maxHeartbeats 2000000 in
theorem rnew_ok (z : Zh) (w : World) (hz : z.fits) (hok : z.ok = true) :
    Calls Try.prog 19 #[.int .i64 z.nd, .int .i64 z.kd, .int .i64 z.st, .int .i64 z.ct, .int .i64 z.mn] w fun e w' => ∃ s M, e = .returned (.tuple #[zv z s, .int .i64 0]) ∧ ownsZ w' w.heap.size s M ∧ Valid z M ∧ (∀ x, free M x ↔ z.st ≤ x ∧ x < z.st + z.ct) ∧ Below w.heap.size w w' := by
  have hmk := fun w => make256 w
  go_enter Try.func19, Try.ntmps19
  go_upto_block 0 with (go_at_call 44; refine (inRange_any z nilS _ hz).mono ?_; rintro e w1 ⟨he, hb1⟩; rw [hok] at he; subst he)
  have hbox : boxed w1 w.heap.size z0 nilS := (hb1.block w.heap.size (by rw [size_two]; omega)).trans (heap_alloc2_old w _ _)
  have hbox2 : boxed w1 (w.heap.size + 1) z nilS := (hb1.block (w.heap.size + 1) (by rw [size_two]; omega)).trans (heap_alloc2_new w _ _)
  have hsz : w.heap.size + 2 ≤ w1.heap.size := Nat.le_trans (by rw [size_two]; omega) hb1.size
  have hbel := (below_two w _ _).trans (hb1.mono (by rw [size_two]; omega))
  have hb2 : Below w1.heap.size w1 (w1.alloc (.cells (Array.replicate 256 (.int .i64 0)) 3)) := (Below.refl _ w1).alloc (Nat.le_refl _) _
  have hrow := rowI_new w1
  have hbel2 := hbel.trans (hb2.mono hbel.size)
  have hbx0 := (hb2.block w.heap.size (by omega)).trans hbox
  have hbx1 := (hb2.block (w.heap.size + 1) (by omega)).trans hbox2
  clear hb1 hbox hbox2
  obtain ⟨S, hS⟩ : ∃ S, S = w1.heap.size := ⟨_, rfl⟩
  obtain ⟨w2, hw2⟩ : ∃ w2, w2 = w1.alloc (.cells (Array.replicate 256 (.int .i64 0)) 3) := ⟨_, rfl⟩
  rw [← hw2] at hrow hbel2 hbx0 hbx1 ⊢
  rw [← hS] at hrow hsz ⊢
  have H0 := Lib.hid hbx0
  have H1 := Lib.hid hbx1
  have H2 := Lib.hid hrow
  clear hw2 hS hb2 hbel hbx0 hbx1 hrow hmk
  have hzz := Zh.ok_iff.1 hok
  have hz1 : 0 ≤ z.st := by omega
  have hz2 : z.st ≤ 255 := by omega
  have hz3 : 1 ≤ z.ct := by omega
  have hz4 : z.st + z.ct ≤ 256 := by omega
  clear hzz hz
  go_wp2_with fail
  go_loopg [14] z.ct.toNat (fun n s14 wr => ∃ q : Nat, s14 = .int .i64 q ∧ z.st ≤ q ∧ (q : Int) ≤ z.st + z.ct ∧ Hid ((n : Int) = z.st + z.ct - q) ∧ Hid (rowI wr S (fun x => if z.st ≤ x ∧ x < q then 1 else 0)) ∧ Hid (boxed wr w.heap.size z0 nilS) ∧ Hid (boxed wr (w.heap.size + 1) z nilS) ∧ Below w.heap.size w wr)
  case atStart => exact ⟨z.st.toNat, by go_num, by omega, by omega, by show ((z.ct.toNat : Nat) : Int) = _; omega, by
    have e : (fun x : Int => if z.st ≤ x ∧ x < ((z.st.toNat : Nat) : Int) then (1 : Int) else 0) = fun _ => 0 := by funext x; rw [if_neg (by omega)]
    rw [e]; exact H2.out, H0.out, H1.out, hbel2⟩
  case round =>
    obtain ⟨q, rfl, hq0, hq, hn, hrow, hbx0, hbx1, hbl⟩ := hrel
    by_cases hlt : (q : Int) < z.st + z.ct
    · have hq256 : q < 256 := by omega
      have hqi : (q : Int) < 256 := by omega
      have hc := hrow.out.cell hq256
      have hf : wr.frozen? ⟨S, q, none⟩ = false := hrow.out.frozen q
      have hset := hrow.out.set (j := q) 1
      have HS := Lib.hid hset
      clear hset
      generalize (if z.st ≤ (q : Int) ∧ (q : Int) < q then (1 : Int) else 0) = vq at hc
      have hk : Keeps (· = S) wr (wr.setCell ⟨S, q, none⟩ (.int .i64 1)) := ⟨rfl, rfl, rfl, by simp [World.setCell], fun j _ hp => Below.heap_setCell wr ⟨S, q, none⟩ _ j hp⟩
      have HK := Lib.hid hk; clear hk
      go_wp2_with fail
      go_roundg ((z.st + z.ct - (q + 1)).toNat)
      case rel => exact ⟨q + 1, by go_num, by omega, by omega, by show (((z.st + z.ct - (q + 1)).toNat : Nat) : Int) = _; omega, by
        have e : (fun x : Int => if z.st ≤ x ∧ x < ((q + 1 : Nat) : Int) then (1 : Int) else 0) = fun x => if x = (q : Int) then 1 else if z.st ≤ x ∧ x < (q : Int) then 1 else 0 := by
          funext x
          by_cases e : x = (q : Int)
          · subst e; rw [if_pos (by omega), if_pos rfl]
          · rw [if_neg e]
            by_cases h2 : z.st ≤ x ∧ x < (q : Int)
            · rw [if_pos h2, if_pos (by omega)]
            · rw [if_neg h2, if_neg (by omega)]
        rw [e]; exact HS.out, (HK.out.block _ (lt_of_block hbx0.out) (by omega)).trans hbx0.out, (HK.out.block _ (lt_of_block hbx1.out) (by omega)).trans hbx1.out, hbl.trans (HK.out.to_below hbl.size fun k hk => by omega)⟩
      case measure => have := hn.out; omega
    · have hbx1' := hbx1.out
      have hbx0' := hbx0.out
      go_wp2_with (first | (refine load_zone rfl (.tmp 12) rfl (w.heap.size + 1) z nilS rfl hbx1' ?_) | (go_at_call 49; refine (with_any z nilS S _ _ hok hrow.out).mono ?_; rintro e w3 ⟨s', M, rfl, hrd, hv, hfr, hb3⟩; have hsl := hrd.slices; have hbx3 := (hb3.block _ (lt_of_block hbx0')).trans hbx0'; have HFR := Lib.hid hfr; have HV := Lib.hid hv; have HRD := Lib.hid hrd; clear hfr hv hrd) | (refine store_zone rfl (.tmp 10) (.tmp 39) rfl w.heap.size z0 nilS z s' rfl rfl hbx3 hsl ?_; intro w4 hbx4 hk4))
      refine bodyPost_ret (results_zone2 rfl _ _ w.heap.size z s' rfl hbx4) rfl ⟨s', M, rfl, ?_, HV.out, fun x => ?_, (hbl.trans (hb3.mono hbl.size)).trans (hk4.to_below (Nat.le_trans hbl.size hb3.size) fun k hk => by omega)⟩
      · exact (HRD.out.keeps hk4 (fun b hb => by have := hbl.size; have := lt_of_block hbx0'; omega)).mono hbl.size
      · rw [HFR.out x]
        refine ⟨fun h => ⟨h.1, h.2.1⟩, fun h => ⟨h.1, h.2, ?_⟩⟩
        rw [if_pos (by omega)]; omega
end Go.Proofs.Ytcmmoemmlellbaa
