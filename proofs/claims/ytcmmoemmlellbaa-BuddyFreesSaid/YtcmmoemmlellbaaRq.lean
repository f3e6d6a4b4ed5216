/- The reference's Free: walked. Conditions: the numbers fit. -/
import Derived.Test.YtcmmoemmlellbaaRp
namespace Go.Proofs.Ytcmmoemmlellbaa
open Go.RowKit
attribute [local go_sem] wrap_pow

set_option maxRecDepth 100000 in
set_option maxHeartbeats 1000000 in
theorem rfree_err (z : Zh) (s : Nat → Value) (L : FL) (f o : Int) (w : World) (hz : z.fits) (hrd : rdZ w s L) (hfit : fitsL L) (he : chkM z L ≠ 0) :
    Calls Try.prog 24 #[zv z s, .int .i64 f, .int .i64 o] w fun e w' => e = .returned (.tuple #[zv z0 nilS, .int .i64 (chkM z L)]) ∧ Below w.heap.size w w' := by
  have HR := Lib.hid hrd; clear hrd
  have HF := Lib.hid hfit; clear hfit
  go_enter Try.func24, Try.ntmps24
  go_upto_region 3 with (go_at_call 17; refine (rcheck_any z s L _ hz (HR.out.below (below_two w _ _)) HF.out).mono ?_; rintro e w1 ⟨rfl, hb1⟩)
  have hbox : boxed w1 (w.heap.size + 1) z0 nilS := (hb1.block (w.heap.size + 1) (by rw [size_two]; omega)).trans (heap_alloc2_new w _ _)
  have hbel := below_box hb1
  clear hb1
  go_wp2_with (refine store_zone rfl (.tmp 6) (.tmp 15) rfl (w.heap.size + 1) z0 nilS z0 nilS rfl rfl hbox slices_nil ?_; intro w2 hbx2 hk2)
  exact bodyPost_ret (results_zone2 rfl _ _ (w.heap.size + 1) z0 nilS rfl hbx2) rfl ⟨rfl, hbel.trans (hk2.to_below hbel.size fun k hk => by omega)⟩

set_option maxRecDepth 100000 in
set_option maxHeartbeats 1000000 in
theorem rfree_out (z : Zh) (s : Nat → Value) (L : FL) (f o : Int) (w : World) (hz : z.ok = true) (hv : Valid z L) (hrd : rdZ w s L)
    (hB : ∀ w, Calls Try.prog 47 #[zv z s, .int .i64 f, .int .i64 o] w fun e w' => e = .returned (.bool false) ∧ Below w.heap.size w w') :
    Calls Try.prog 24 #[zv z s, .int .i64 f, .int .i64 o] w fun e w' => e = .returned (.tuple #[zv z0 nilS, .int .i64 2]) ∧ Below w.heap.size w w' := by
  have HR := Lib.hid hrd; clear hrd
  have HV := Lib.hid hv; clear hv
  have HB := Lib.hid hB; clear hB
  go_enter Try.func24, Try.ntmps24
  go_upto_region 5 with (first | (go_at_call 17; refine (rcheck_ok z s L _ hz HV.out (HR.out.below (below_two w _ _))).mono ?_; rintro e w1 ⟨rfl, hb1⟩; have hbx1 := (hb1.block w.heap.size (by rw [size_two]; omega)).trans (heap_alloc2_old w _ _); have HBX1 := Lib.hid hbx1; clear hbx1) | (refine load_zone rfl (.tmp 3) rfl w.heap.size z s rfl HBX1.out ?_) | (go_at_call 47; refine (HB.out _).mono ?_; rintro e w2 ⟨rfl, hb2⟩))
  have hbox : boxed w2 (w.heap.size + 1) z0 nilS := (hb2.block _ (by have := hb1.size; rw [size_two] at this; omega)).trans ((hb1.block (w.heap.size + 1) (by rw [size_two]; omega)).trans (heap_alloc2_new w _ _))
  have hbel := (below_box hb1).trans (hb2.mono (below_box hb1).size)
  clear hb1 hb2
  go_wp2_with (refine store_zone rfl (.tmp 6) (.tmp 22) rfl (w.heap.size + 1) z0 nilS z0 nilS rfl rfl hbox slices_nil ?_; intro w3 hbx2 hk2)
  exact bodyPost_ret (results_zone2 rfl _ _ (w.heap.size + 1) z0 nilS rfl hbx2) rfl ⟨rfl, hbel.trans (hk2.to_below hbel.size fun k hk => by omega)⟩

set_option maxRecDepth 100000 in
set_option maxHeartbeats 4000000 in
theorem rfree_in (z : Zh) (s : Nat → Value) (L : FL) (F o : Nat) (w : World) (hz : z.ok = true) (hv : Valid z L) (hrd : rdZ w s L) (ho : o ≤ 4) (hin : insB z (F : Int) o = true) :
    Calls Try.prog 24 #[zv z s, .int .i64 F, .int .i64 o] w fun e w' => Below w.heap.size w w' ∧
      (((∃ x, inBlk x (F : Int) o ∧ free L x) ∧ e = .returned (.tuple #[zv z0 nilS, .int .i64 7])) ∨
      ((∀ x, inBlk x (F : Int) o → ¬ free L x) ∧ ∃ s' M, e = .returned (.tuple #[zv z s', .int .i64 0]) ∧ ownsZ w' w.heap.size s' M ∧ Valid z M ∧ ∀ x, free M x ↔ free L x ∨ inBlk x (F : Int) o)) := by
  have HR := Lib.hid hrd; clear hrd
  have HV := Lib.hid hv; clear hv
  have HSC : Hid (scanZ z L 5 0 = 0) := scan_ok HV.out
  have hzz := Zh.ok_iff.1 hz
  have hii := insB_iff.1 hin
  rw [← pw_eq] at hii
  have hF1 : (F : Int) + pw o ≤ 256 := by omega
  have HI : Hid (z.st ≤ (F : Int) ∧ (F : Int) + pw o ≤ z.st + z.ct) := ⟨hii.1, hii.2.2⟩
  have hp1 := (pw_bounds ho).1
  have hp16 := (pw_bounds ho).2
  have hff : fits (F : Int) := by unfold fits; omega
  clear hzz hii
  go_enter Try.func24, Try.ntmps24
  go_upto_region 7 with (first | (go_at_call 17; refine (rcheck_ok z s L _ hz HV.out (HR.out.below (below_two w _ _))).mono ?_; rintro e w1 ⟨rfl, hb1⟩; have hbx1 := (hb1.block w.heap.size (by rw [size_two]; omega)).trans (heap_alloc2_old w _ _); have HBX1 := Lib.hid hbx1; clear hbx1) | (refine load_zone rfl (.tmp 3) rfl w.heap.size z s rfl HBX1.out ?_) | (go_at_call 47; refine (rblock_any z s F o _ hz hff ho).mono ?_; rintro e w2 ⟨he, hb2⟩; rw [hin] at he; subst he; have HBX2 := Lib.hid ((hb2.block _ (lt_of_block HBX1.out)).trans HBX1.out); have HB12 := Lib.hid ((below_box hb1).trans (hb2.mono (below_box hb1).size))) | (refine load_zone rfl (.tmp 3) rfl w.heap.size z s rfl HBX2.out ?_) | (go_at_call 46; refine (set_any z s L _ hz (HR.out.below HB12.out) HSC.out).mono ?_; rintro e w3 ⟨S, rfl, hcn, hS, hb3⟩))
  have hbx3 : boxed w3 w.heap.size z s := (hb3.block _ (lt_of_block HBX2.out)).trans HBX2.out
  have hres2 : boxed w2 (w.heap.size + 1) z0 nilS := (hb2.block _ (by have := hb1.size; rw [size_two] at this; omega)).trans ((hb1.block (w.heap.size + 1) (by rw [size_two]; omega)).trans (heap_alloc2_new w _ _))
  have hres3 : boxed w3 (w.heap.size + 1) z0 nilS := (hb3.block _ (lt_of_block hres2)).trans hres2
  have hbel3 : Below w.heap.size w w3 := HB12.out.trans (hb3.mono HB12.out.size)
  have hsz2 : w.heap.size + 2 ≤ w2.heap.size := by have := lt_of_block hres2; omega
  have hSlo : w.heap.size + 2 ≤ S := Nat.le_trans hsz2 hS
  have HB0 := Lib.hid hbx3
  have HB1 := Lib.hid hres3
  have HROW := Lib.hid hcn.row
  obtain ⟨m, hm⟩ : ∃ m : Nat, pw o = m := ⟨2 ^ o, by rw [pw_eq]; simp⟩
  have HM := Lib.hid hm
  clear hbx3 hres3 hres2 hcn hS hb3 hm hb1 hb2 hsz2
  go_wp2_with fail
  go_loopg [10] m (fun n s10 wr => ∃ q : Nat, s10 = .int .i64 q ∧ F ≤ q ∧ (q : Int) ≤ (F : Int) + pw o ∧ Hid (n = F + m - q) ∧ Hid (∀ x, (F : Int) ≤ x → x < q → ¬ free L x) ∧ Hid (rowI wr S (fun x => if (F : Int) ≤ x ∧ x < q then 1 else ((frs L).count x : Nat))) ∧ Hid (boxed wr w.heap.size z s) ∧ Hid (boxed wr (w.heap.size + 1) z0 nilS) ∧ Below w.heap.size w wr)
  case atStart => exact ⟨F, rfl, by omega, by omega, by show m = F + m - F; omega, fun x h1 h2 => by omega, by
    have e : (fun x : Int => if (F : Int) ≤ x ∧ x < (F : Int) then (1 : Int) else ((frs L).count x : Nat)) = fun x => (((frs L).count x : Nat) : Int) := by funext x; rw [if_neg (by omega)]
    rw [e]; exact HROW.out, HB0.out, HB1.out, hbel3⟩
  case round =>
    obtain ⟨q, rfl, hq0, hq, hnn, hfr, hrow, hbx, hres, hbl⟩ := hrel
    by_cases hlt : (q : Int) < (F : Int) + pw o
    · have hq256 : q < 256 := by omega
      have hqi : (q : Int) < 256 := by omega
      have hc := hrow.out.cell hq256
      have hf : wr.frozen? ⟨S, q, none⟩ = false := hrow.out.frozen q
      have HS := Lib.hid (hrow.out.set (j := q) 1)
      have e0 : (if (F : Int) ≤ (q : Int) ∧ (q : Int) < q then (1 : Int) else ((frs L).count (q : Int) : Nat)) = ((frs L).count (q : Int) : Nat) := if_neg (by omega)
      rw [e0] at hc
      obtain ⟨m1, hm1⟩ : ∃ m1, m1 = (frs L).count (q : Int) := ⟨_, rfl⟩
      rw [← hm1] at hc
      have HC : Hid (m1 ≠ 0 ↔ free L (q : Int)) := by rw [hm1]; exact free_frs
      have HK : Hid (Keeps (· = S) wr (wr.setCell ⟨S, q, none⟩ (.int .i64 1))) := ⟨rfl, rfl, rfl, by simp [World.setCell], fun j _ hp => Below.heap_setCell wr ⟨S, q, none⟩ _ j hp⟩
      clear e0 hm1
      by_cases hpos : 0 < m1
      · have hres' := hres.out
        go_wp2_with (refine store_zone rfl (.tmp 6) (.tmp 40) rfl (w.heap.size + 1) z0 nilS z0 nilS rfl rfl hres' slices_nil ?_; intro w4 hbx4 hk4)
        exact bodyPost_ret (results_zone2 rfl _ _ (w.heap.size + 1) z0 nilS rfl hbx4) rfl ⟨hbl.trans (hk4.to_below hbl.size fun k hk => by omega), .inl ⟨⟨(q : Int), ⟨by omega, by rw [← pw_eq]; omega⟩, HC.out.1 (by omega)⟩, rfl⟩⟩
      · obtain rfl : m1 = 0 := by omega
        go_wp2_with fail
        go_roundg (F + m - (q + 1))
        case rel => exact ⟨q + 1, by go_num, by omega, by omega, rfl, fun x h1 h2 => by
          by_cases e : x = q
          · subst e; exact fun h => HC.out.2 h rfl
          · exact hfr.out x h1 (by omega), by
          have e : (fun x : Int => if (F : Int) ≤ x ∧ x < ((q + 1 : Nat) : Int) then (1 : Int) else ((frs L).count x : Nat)) = fun x => if x = (q : Int) then 1 else if (F : Int) ≤ x ∧ x < (q : Int) then 1 else (((frs L).count x : Nat) : Int) := by
            funext x
            by_cases e : x = (q : Int)
            · subst e; rw [if_pos (by omega), if_pos rfl]
            · rw [if_neg e]
              by_cases h2 : (F : Int) ≤ x ∧ x < (q : Int)
              · rw [if_pos h2, if_pos (by omega)]
              · rw [if_neg h2, if_neg (by omega)]
          rw [e]; exact HS.out, (HK.out.block _ (lt_of_block hbx.out) (by omega)).trans hbx.out, (HK.out.block _ (lt_of_block hres.out) (by omega)).trans hres.out, hbl.trans (HK.out.to_below hbl.size fun k hk => by omega)⟩
        case measure =>
          have h1 := hnn.out
          have h2 := HM.out
          omega
    · have hq' : (q : Int) = (F : Int) + pw o := by omega
      have hbx' := hbx.out
      have hres' := hres.out
      go_wp2_with (first | (refine load_zone rfl (.tmp 3) rfl w.heap.size z s rfl hbx' ?_) | (go_at_call 49; refine (with_any z s S _ _ hz hrow.out).mono ?_; rintro e w4 ⟨s', M, rfl, hrd', hv', hfr', hb4⟩; have hsl := hrd'.slices; have hres4 := (hb4.block _ (lt_of_block hres')).trans hres'; have HFR := Lib.hid hfr'; have HV2 := Lib.hid hv'; have HRD := Lib.hid hrd'; clear hfr' hv' hrd') | (refine store_zone rfl (.tmp 6) (.tmp 46) rfl (w.heap.size + 1) z0 nilS z s' rfl rfl hres4 hsl ?_; intro w5 hbx5 hk5))
      have hinb : ∀ x, inBlk x (F : Int) o ↔ (F : Int) ≤ x ∧ x < (q : Int) := fun x => by unfold inBlk; rw [← pw_eq, hq']
      refine bodyPost_ret (results_zone2 rfl _ _ (w.heap.size + 1) z s' rfl hbx5) rfl ⟨(hbl.trans (hb4.mono hbl.size)).trans (hk5.to_below (Nat.le_trans hbl.size hb4.size) fun k hk => by omega), .inr ⟨fun x hx => hfr.out x ((hinb x).1 hx).1 ((hinb x).1 hx).2, s', M, rfl, ?_, HV2.out, fun x => ?_⟩⟩
      · exact (HRD.out.keeps hk5 (fun b hb => by have := hbl.size; have := lt_of_block hres'; omega)).mono hbl.size
      · rw [HFR.out x, ← free_frs, hinb]
        have hrg : (frs L).count x ≠ 0 → z.st ≤ x ∧ x < z.st + z.ct := fun h => free_range HV.out (free_frs.1 h)
        have hI := HI.out
        by_cases h2 : (F : Int) ≤ x ∧ x < (q : Int)
        · rw [if_pos h2]; exact ⟨fun _ => .inr h2, fun _ => ⟨by omega, by omega, by omega⟩⟩
        · rw [if_neg h2]
          refine ⟨fun h => .inl fun e => h.2.2 (by rw [e]; rfl), fun h => ?_⟩
          rcases h with h | h
          · exact ⟨(hrg h).1, (hrg h).2, fun e => h (by omega)⟩
          · exact (h2 h).elim
end Go.Proofs.Ytcmmoemmlellbaa
