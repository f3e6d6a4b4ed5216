/- The reference's Alloc on a valid state: walked. Conditions: the order is at most 4. -/
import Derived.Test.YtcmmoemmlellbaaRo
import Derived.Test.YtcmmoemmlellbaaWi
namespace Go.Proofs.Ytcmmoemmlellbaa
open Go.RowKit
attribute [local go_sem] wrap_pow

theorem scan_ok {z : Zh} {L : FL} (v : Valid z L) : scanZ z L 5 0 = 0 := (scanZ_zero 5 0).2 fun j _ h2 => ⟨fun b hb => v.ins j (by omega) b hb, v.sorted j (by omega)⟩

theorem free_range {z : Zh} {L : FL} (v : Valid z L) {x : Int} (h : free L x) : z.st ≤ x ∧ x < z.st + z.ct := by
  obtain ⟨k, hk, b, hb, hx⟩ := h
  have h1 := insB_iff.1 (v.ins k hk b hb)
  unfold inBlk at hx
  omega

set_option maxRecDepth 100000 in
set_option maxHeartbeats 4000000 in
theorem ralloc_main (z : Zh) (s : Nat → Value) (L : FL) (o : Nat) (w : World) (hz : z.ok = true) (hv : Valid z L) (hrd : rdZ w s L) (ho : o ≤ 4) :
    Calls Try.prog 22 #[zv z s, .int .i64 o] w fun e w' => Below w.heap.size w w' ∧ ((findK L (5 - o) o = none ∧ e = .returned (.tuple #[zv z0 nilS, .int .i64 0, .int .i64 16])) ∨
      ∃ k s' M, findK L (5 - o) o = some k ∧ e = .returned (.tuple #[zv z s', .int .i64 ((L k).headD 0), .int .i64 0]) ∧ ownsZ w' w.heap.size s' M ∧ Valid z M ∧ ∀ x, free M x ↔ free L x ∧ ¬ inBlk x ((L k).headD 0) o) := by
  have HR := Lib.hid hrd; clear hrd
  have HV := Lib.hid hv; clear hv
  have HSC : Hid (scanZ z L 5 0 = 0) := scan_ok HV.out
  go_enter Try.func22, Try.ntmps22
  go_upto_block 0 with (go_at_call 17; refine (rcheck_ok z s L _ hz HV.out (HR.out.below (below_two w _ _))).mono ?_; rintro e w1 ⟨rfl, hb1⟩)
  have hbox : boxed w1 (w.heap.size + 1) z0 nilS := (hb1.block (w.heap.size + 1) (by rw [size_two]; omega)).trans (heap_alloc2_new w _ _)
  have hbox0 : boxed w1 w.heap.size z s := (hb1.block w.heap.size (by rw [size_two]; omega)).trans (heap_alloc2_old w _ _)
  have hsz : w.heap.size + 2 ≤ w1.heap.size := Nat.le_trans (by rw [size_two]; omega) hb1.size
  have hbel := below_box hb1
  have H0 := Lib.hid hbox0
  have H1 := Lib.hid hbox
  clear hb1 hbox hbox0
  go_wp2_with fail
  go_loopg [8] (5 - o) (fun n s8 wr => Hid (wr = w1) ∧ ∃ k : Nat, s8 = .int .i64 k ∧ k ≤ 5 ∧ Hid (n = 5 - k) ∧ Hid (findK L (5 - k) k = findK L (5 - o) o))
  case atStart => exact ⟨rfl, o, rfl, by omega, rfl, rfl⟩
  case round =>
    obtain ⟨hw, k, rfl, hk, hn, hf⟩ := hrel
    have hw' := hw.out
    subst hw'
    by_cases hk4 : k ≤ 4
    · obtain ⟨a, c, hs, hlen, hcell⟩ := (HR.out k hk4).split
      have hfl := box_field H0.out k hk4
      rw [hs] at hfl
      have HCL := Lib.hid hcell
      clear hcell hs
      have hk4' : (k : Int) < 5 := by omega
      by_cases hnil : L k = []
      · rw [hnil] at hfl
        have hfl' : wr.cell? ⟨w.heap.size, 5 + k, none⟩ = some (.slice a 0 c) := hfl
        clear hfl
        have HN := Lib.hid hnil; clear hnil
        go_wp2_with fail
        go_roundg (5 - (k + 1))
        case rel => exact ⟨rfl, k + 1, by go_num, by omega, rfl, by
          have h1 := hf.out; rw [show 5 - k = (5 - (k + 1)) + 1 by omega, findK, if_pos HN.out] at h1; exact h1⟩
        case measure => have := hn.out; omega
      · have hpos : 0 < (L k).length := by rcases hL : L k with _ | ⟨x, l⟩; exact (hnil hL).elim; simp
        have hne : (((L k).length : Int) == 0) = false := by simp; omega
        have hfind : findK L (5 - o) o = some k := by
          have h1 := hf.out
          rw [show 5 - k = (5 - (k + 1)) + 1 by omega, findK, if_neg hnil] at h1
          exact h1.symm
        have hav := alloc_valid HV.out hfind
        have hii := insB_iff.1 hav.2.2.2.2.1
        rw [← pw_eq] at hii
        have hzz := Zh.ok_iff.1 hz
        obtain ⟨F, hF⟩ : ∃ F : Nat, (F : Int) = (L k).headD 0 := ⟨((L k).headD 0).toNat, by omega⟩
        rw [← hF] at hii
        obtain ⟨b, q0, rfl, hcl⟩ := HCL.out 0 hpos
        have hc0 : w.cell? ⟨b, q0, none⟩ = some (.int .i64 (F : Int)) := by
          rw [hF]
          have h1 := hcl 0 hpos
          rw [Nat.add_zero] at h1
          rw [h1]
          rcases hL : L k with _ | ⟨x, l⟩
          · exact (hnil hL).elim
          · rfl
        have hc1 := (hbel.cell (block_lt_of_cell hc0)).trans hc0
        have hF256 : (F : Int) + pw o ≤ 256 := by omega
        have hp1 := (pw_bounds ho).1
        have hp16 := (pw_bounds ho).2
        have HK := Lib.hid hfind
        have HFK := Lib.hid hF
        have hpos' : (0 : Int) < ((L k).length : Int) := by omega
        clear hfind hav hii hzz hF hcl hc0 hnil
        go_upto_region 12 with (first | (refine load_zone rfl (.tmp 2) rfl w.heap.size z s rfl H0.out ?_) | (go_at_call 46; refine (set_any z s L _ hz (HR.out.below hbel) HSC.out).mono ?_; rintro e w3 ⟨S, rfl, hcn, hS, hb3⟩))
        have hbx3 : boxed w3 w.heap.size z s := (hb3.block _ (lt_of_block H0.out)).trans H0.out
        have hres3 : boxed w3 (w.heap.size + 1) z0 nilS := (hb3.block _ (lt_of_block H1.out)).trans H1.out
        have hbel3 : Below w.heap.size w w3 := hbel.trans (hb3.mono hbel.size)
        have hSlo : w.heap.size + 2 ≤ S := Nat.le_trans hsz hS
        have HB0 := Lib.hid hbx3
        have HB1 := Lib.hid hres3
        have HROW := Lib.hid hcn.row
        obtain ⟨m, hm⟩ : ∃ m : Nat, pw o = m := ⟨2 ^ o, by rw [pw_eq]; simp⟩
        have HM := Lib.hid hm
        clear hbx3 hres3 hcn hS hb3 hm hc1 hfl hpos hne hpos'
        go_wp2_with fail
        go_loopg [11] m (fun n s11 wr' => ∃ q : Nat, s11 = .int .i64 q ∧ F ≤ q ∧ (q : Int) ≤ (F : Int) + pw o ∧ Hid (n = F + m - q) ∧ Hid (rowI wr' S (fun x => if (F : Int) ≤ x ∧ x < q then 0 else ((frs L).count x : Nat))) ∧ Hid (boxed wr' w.heap.size z s) ∧ Hid (boxed wr' (w.heap.size + 1) z0 nilS) ∧ Below w.heap.size w wr')
        case atStart => exact ⟨F, rfl, by omega, by omega, by show m = F + m - F; omega, by
          have e : (fun x : Int => if (F : Int) ≤ x ∧ x < (F : Int) then (0 : Int) else ((frs L).count x : Nat)) = fun x => (((frs L).count x : Nat) : Int) := by funext x; rw [if_neg (by omega)]
          rw [e]; exact HROW.out, HB0.out, HB1.out, hbel3⟩
        case round =>
          obtain ⟨q, rfl, hq0, hq, hnn, hrow, hbx, hres, hbl⟩ := hrel
          by_cases hlt : (q : Int) < (F : Int) + pw o
          · have hq256 : q < 256 := by omega
            have hqi : (q : Int) < 256 := by omega
            have hc := hrow.out.cell hq256
            have hf : wr.frozen? ⟨S, q, none⟩ = false := hrow.out.frozen q
            have HS := Lib.hid (hrow.out.set (j := q) 0)
            generalize (if (F : Int) ≤ (q : Int) ∧ (q : Int) < q then (0 : Int) else ((frs L).count (q : Int) : Nat)) = vq at hc
            have HK : Hid (Keeps (· = S) wr (wr.setCell ⟨S, q, none⟩ (.int .i64 0))) := ⟨rfl, rfl, rfl, by simp [World.setCell], fun j _ hp => Below.heap_setCell wr ⟨S, q, none⟩ _ j hp⟩
            go_wp2_with fail
            go_roundg (F + m - (q + 1))
            case rel => exact ⟨q + 1, by go_num, by omega, by omega, rfl, by
              have e : (fun x : Int => if (F : Int) ≤ x ∧ x < ((q + 1 : Nat) : Int) then (0 : Int) else ((frs L).count x : Nat)) = fun x => if x = (q : Int) then 0 else if (F : Int) ≤ x ∧ x < (q : Int) then 0 else (((frs L).count x : Nat) : Int) := by
                funext x
                by_cases e : x = (q : Int)
                · subst e; rw [if_pos (by omega), if_pos rfl]
                · rw [if_neg e]
                  by_cases h2 : (F : Int) ≤ x ∧ x < (q : Int)
                  · rw [if_pos h2, if_pos (by omega)]
                  · rw [if_neg h2, if_neg (by omega)]
              rw [e]; exact HS.out, (HK.out.block _ (lt_of_block hbx.out) (by omega)).trans hbx.out, (HK.out.block _ (lt_of_block hres.out) (by omega)).trans hres.out, hbl.trans (HK.out.to_below hbl.size fun k hk => by omega)⟩
            case measure =>
              have h1 := hnn.out
              have h2 := HM.out
              omega
          · have hq' : (q : Int) = (F : Int) + pw o := by omega
            have hbx' := hbx.out
            have hres' := hres.out
            go_wp2_with (first | (refine load_zone rfl (.tmp 2) rfl w.heap.size z s rfl hbx' ?_) | (go_at_call 49; refine (with_any z s S _ _ hz hrow.out).mono ?_; rintro e w4 ⟨s', M, rfl, hrd', hv', hfr, hb4⟩; have hsl := hrd'.slices; have hres4 := (hb4.block _ (lt_of_block hres')).trans hres'; have HFR := Lib.hid hfr; have HV2 := Lib.hid hv'; have HRD := Lib.hid hrd'; clear hfr hv' hrd') | (refine store_zone rfl (.tmp 4) (.tmp 59) rfl (w.heap.size + 1) z0 nilS z s' rfl rfl hres4 hsl ?_; intro w5 hbx5 hk5))
            refine bodyPost_ret (results_zone3 rfl _ _ (w.heap.size + 1) z s' rfl hbx5) rfl ⟨(hbl.trans (hb4.mono hbl.size)).trans (hk5.to_below (Nat.le_trans hbl.size hb4.size) fun k hk => by omega), .inr ⟨k, s', M, HK.out, by rw [← HFK.out]; rfl, ?_, HV2.out, fun x => ?_⟩⟩
            · exact (HRD.out.keeps hk5 (fun b hb => by have := hbl.size; have := lt_of_block hres'; omega)).mono hbl.size
            · rw [HFR.out x, ← free_frs, ← HFK.out]
              have hrg : (frs L).count x ≠ 0 → z.st ≤ x ∧ x < z.st + z.ct := fun h => free_range HV.out (free_frs.1 h)
              have hin : inBlk x (F : Int) o ↔ (F : Int) ≤ x ∧ x < (q : Int) := by unfold inBlk; rw [← pw_eq, hq']
              rw [hin]
              by_cases h2 : (F : Int) ≤ x ∧ x < (q : Int)
              · rw [if_pos h2]; exact ⟨fun h => (h.2.2 rfl).elim, fun h => (h.2 h2).elim⟩
              · rw [if_neg h2]
                refine ⟨fun h => ⟨fun e => h.2.2 (by rw [e]; rfl), h2⟩, fun h => ⟨(hrg h.1).1, (hrg h.1).2, fun e => h.1 (by omega)⟩⟩
    · have HN : Hid (findK L (5 - o) o = none) := by have h1 := hf.out; rw [show 5 - k = 0 by omega, findK] at h1; exact h1.symm
      have hbox := H1.out
      go_wp2_with (refine store_zone rfl (.tmp 4) (.tmp 61) rfl (w.heap.size + 1) z0 nilS z0 nilS rfl rfl hbox slices_nil ?_; intro w2 hbx2 hk2)
      exact bodyPost_ret (results_zone3 rfl _ _ (w.heap.size + 1) z0 nilS rfl hbx2) rfl ⟨hbel.trans (hk2.to_below hbel.size fun k hk => by omega), .inl ⟨HN.out, rfl⟩⟩
end Go.Proofs.Ytcmmoemmlellbaa
