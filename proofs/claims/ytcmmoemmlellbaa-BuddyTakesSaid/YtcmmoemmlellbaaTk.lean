/- Take: walked. Conditions: the numbers fit. -/
import Derived.Test.YtcmmoemmlellbaaTm
import Derived.Test.YtcmmoemmlellbaaFr
namespace Go.Proofs.Ytcmmoemmlellbaa
open Go.RowKit
attribute [local go_sem] wrap_pow

set_option maxRecDepth 100000 in
set_option maxHeartbeats 1000000 in
theorem take_err (z : Zh) (s : Nat → Value) (L : FL) (f : Int) (w : World) (hz : z.fits) (hrd : rdZ w s L) (hfit : fitsL L) (he : chkM z L ≠ 0) :
    Calls Try.prog 29 #[zv z s, .int .i64 f] w fun e w' => e = .returned (.tuple #[zv z0 nilS, .int .i64 (chkM z L)]) ∧ Below w.heap.size w w' := by
  have HR := Lib.hid hrd; clear hrd
  have HF := Lib.hid hfit; clear hfit
  go_enter Try.func29, Try.ntmps29
  go_upto_region 3 with (go_at_call 16; refine (check_any z s L _ hz (HR.out.below (below_two w _ _)) HF.out).mono ?_; rintro e w1 ⟨rfl, hb1⟩)
  have hbox : boxed w1 (w.heap.size + 1) z0 nilS := (hb1.block (w.heap.size + 1) (by rw [size_two]; omega)).trans (heap_alloc2_new w _ _)
  have hbel := below_box hb1
  clear hb1
  go_wp2_with (refine store_zone rfl (.tmp 4) (.tmp 19) rfl (w.heap.size + 1) z0 nilS z0 nilS rfl rfl hbox slices_nil ?_; intro w2 hbx2 hk2)
  exact bodyPost_ret (results_zone2 rfl _ _ (w.heap.size + 1) z0 nilS rfl hbx2) rfl ⟨rfl, hbel.trans (hk2.to_below hbel.size fun k hk => by omega)⟩

set_option maxRecDepth 100000 in
set_option maxHeartbeats 4000000 in
theorem take_main (z : Zh) (s : Nat → Value) (L : FL) (f : Int) (w : World) (hz : z.ok = true) (hv : Valid z L) (hrd : rdZ w s L) (hff : fits f) :
    Calls Try.prog 29 #[zv z s, .int .i64 f] w fun e w' => Below w.heap.size w w' ∧ ((insB z f 0 = false ∧ e = .returned (.tuple #[zv z0 nilS, .int .i64 2])) ∨
      (insB z f 0 = true ∧ ¬ free L f ∧ e = .returned (.tuple #[zv z0 nilS, .int .i64 6])) ∨
      (insB z f 0 = true ∧ free L f ∧ ∃ s' M, e = .returned (.tuple #[zv z s', .int .i64 0]) ∧ rdZ w' s' M ∧ slices s' ∧ Valid z M ∧ ∀ x, free M x ↔ free L x ∧ x ≠ f)) := by
  have HR := Lib.hid hrd; clear hrd
  have HV := Lib.hid hv; clear hv
  have HFF := Lib.hid hff; clear hff
  go_enter Try.func29, Try.ntmps29
  go_upto_region 4 with (go_at_call 16; refine (check_ok z s L _ hz HV.out (HR.out.below (below_two w _ _))).mono ?_; rintro e w1 ⟨rfl, hb1⟩)
  have hbox : boxed w1 (w.heap.size + 1) z0 nilS := (hb1.block (w.heap.size + 1) (by rw [size_two]; omega)).trans (heap_alloc2_new w _ _)
  have hbox0 : boxed w1 w.heap.size z s := (hb1.block w.heap.size (by rw [size_two]; omega)).trans (heap_alloc2_old w _ _)
  have hsz : w.heap.size + 2 ≤ w1.heap.size := Nat.le_trans (by rw [size_two]; omega) hb1.size
  have hbel := below_box hb1
  have H0 := Lib.hid hbox0
  have H1 := Lib.hid hbox
  clear hb1 hbox hbox0
  by_cases hin : insB z f 0 = true
  · have hiz := insB_zero.1 hin
    have hzz := Zh.ok_iff.1 hz
    have hf0 : 0 ≤ f := by omega
    have hf1 : f < 256 := by omega
    clear hiz hzz
    go_upto_region 6 with (first | (refine load_zone rfl (.tmp 2) rfl w.heap.size z s rfl H0.out ?_) | (go_at_call 42; refine (inside_zero z s f _ hz HFF.out).mono ?_; rintro e w2 ⟨he, hb2⟩; rw [hin] at he; subst he))
    have H0b := Lib.hid ((hb2.block _ (lt_of_block H0.out)).trans H0.out)
    have H1b := Lib.hid ((hb2.block _ (lt_of_block H1.out)).trans H1.out)
    have hbel2 : Below w.heap.size w w2 := hbel.trans (hb2.mono hbel.size)
    have hsz2 : w.heap.size + 2 ≤ w2.heap.size := Nat.le_trans hsz hb2.size
    clear hb2 hbel hsz
    by_cases hfr : freeB L f = true
    · have HFREE : Hid (free L f) := (freeB_iff HV.out).1 hfr
      go_upto_region 7 with (first | (refine load_zone rfl (.tmp 2) rfl w.heap.size z s rfl H0b.out ?_) | (go_at_call 52; with_reducible refine (block_yes z s L f _ hz HV.out (HR.out.below hbel2) hf0 hf1 hfr).mono ?_; rintro e w3 ⟨k, hk, rfl, hb3⟩; have HK := Lib.hid hk; clear hk))
      obtain ⟨_, hk5, hmem⟩ := findB_some _ _ _ HK.out
      have hk4 : k ≤ 4 := by omega
      obtain ⟨b0, hb0⟩ : ∃ b0, b0 = f - f % 2 ^ k := ⟨_, rfl⟩
      rw [← hb0] at hmem ⊢
      have HMEM := Lib.hid hmem
      have HBF : Hid (inBlk f b0 k) := by
        have hp := pow_pos' k
        have h1 := Int.emod_nonneg f (show (2 : Int) ^ k ≠ 0 by omega)
        have h2 := Int.emod_lt_of_pos f hp
        exact ⟨by omega, by omega⟩
      have hbel3 : Below w.heap.size w w3 := hbel2.trans (hb3.mono hbel2.size)
      have H0c := Lib.hid ((hb3.block _ (lt_of_block H0b.out)).trans H0b.out)
      have H1c := Lib.hid ((hb3.block _ (lt_of_block H1b.out)).trans H1b.out)
      have hsz3 : w.heap.size + 2 ≤ w3.heap.size := Nat.le_trans hsz2 hb3.size
      have hkn : ¬ (k : Int) < 0 := by omega
      clear hb3 hbel2 hsz2 hmem hb0 hfr
      go_upto_region 10 with (first | (refine load_zone rfl (.tmp 2) rfl w.heap.size z s rfl H0c.out ?_) | (go_at_call 50; refine (clone_zone z s L w3 (HR.out.below hbel3) (fun k hk => by have := HV.out.len hz hk; omega)).mono ?_; rintro e w4 ⟨s4, g4, rfl, ho4, hb4⟩) | (refine store_zone rfl (.tmp 9) (.tmp 36) rfl w4.heap.size z0 nilS z s4 rfl rfl (heap_alloc_new w4 _) ho4.slices ?_; intro w5 hbx5 hk5))
      have hb5 : Below w4.heap.size w4 w5 := ((Below.refl _ w4).alloc (Nat.le_refl _) _).trans (hk5.to_below (by simp) fun k hk => by omega)
      have hZ := (ho4.lower (base' := w.heap.size + 2) hsz3).box hb5 hbx5 (Nat.le_refl _) (Nat.le_trans hsz3 hb4.size)
      have hbel5 : Below w3.heap.size w3 w5 := hb4.trans (hb5.mono hb4.size)
      have hres : boxed w5 (w.heap.size + 1) z0 nilS := (hbel5.block _ (by omega)).trans H1c.out
      have hsz5 : w.heap.size + 2 ≤ w5.heap.size := Nat.le_trans hsz3 hbel5.size
      have hbw5 : Below w.heap.size w w5 := hbel3.trans (hbel5.mono (by omega))
      obtain ⟨B, hB⟩ : ∃ B, B = w4.heap.size := ⟨_, rfl⟩
      rw [← hB] at hZ ⊢
      have HZ := Lib.hid hZ
      have HRES := Lib.hid hres
      have hfl := box_field hZ.box k hk4
      have hrd5 := (hZ.own k hk4).rd
      have HRD5 := Lib.hid hrd5
      have hlen := HV.out.len hz hk4
      have hpl := pos_le (L k) b0
      clear hZ hres hbx5 hk5 hb4 hb5 hB hrd5
      have hk5' : (k : Int) < 5 := by omega
      go_upto_region 11 with (go_at_call 43; with_reducible refine (search_any (s4 k) (L k) b0 _ HRD5.out (HV.out.sorted k hk4) (by omega)).mono ?_; rintro e w6 ⟨rfl, hb6⟩; have hfl6 := (hb6.cell (block_lt_of_cell hfl)).trans hfl)
      have HZ6 := Lib.hid (HZ.out.below hb6)
      have hsz6 : w.heap.size + 2 ≤ w6.heap.size := Nat.le_trans hsz5 hb6.size
      have hw1 : IntKind.i64.wrap ((pos (L k) b0 : Int) + 1) = (pos (L k) b0 : Int) + 1 := IntWalk.i64_in _ (by omega)
      have hw2 : wrap64 ((pos (L k) b0 : Int) + 1) = (pos (L k) b0 : Int) + 1 := by unfold wrap64; omega
      go_upto_block 0 with (go_at_call 53; with_reducible refine (delete_at (s4 k) (L k) b0 w6 (w.heap.size + 2) (g4 k) (HZ6.out.own k hk4) HMEM.out).mono ?_; rintro e w7 ⟨a7, n7, k7, rfl, ho7, hk7⟩; (have hb7 := (hk7.block B (lt_of_block HZ6.out.box) (HZ6.out.notB k hk4)).trans HZ6.out.box); have hc7 := box_field hb7 k hk4; have hf7 : w7.frozen? ⟨B, 5 + k, none⟩ = false := frozen_of_block hb7 _; clear hb7)
      have hset7 := HZ6.out.set hk4 hk7 ho7 (fun b hb => .inl hb) hsz6
      have HSET7 := Lib.hid hset7
      have hbw6 : Below w.heap.size w w6 := hbw5.trans (hb6.mono hbw5.size)
      have hres7 := (HSET7.out.2.block _ (by omega)).trans ((hb6.block _ (by omega)).trans HRES.out)
      have hbw7 := hbw6.trans (HSET7.out.2.mono (by omega))
      have hsz7 := Nat.le_trans hsz6 HSET7.out.2.size
      have hdel := HV.out.delete hk4 HMEM.out
      have HDEL := Lib.hid hdel
      have HIN0 : Hid (insB z b0 k = true) := HV.out.ins k hk4 b0 HMEM.out
      have HFR0 : Hid (∀ x, inBlk x b0 k → free L x) := fun x hx => ⟨k, hk4, b0, HMEM.out, hx⟩
      have HRES7 := Lib.hid hres7
      have HBW7 := Lib.hid hbw7
      have HSZ7 := Lib.hid hsz7
      clear hset7 hres7 hbw7 hsz7 hdel hw1 hw2 hfl hfl6 hc7 hf7 hpl hlen
      go_wp2_with fail
      go_loopg [7, 8] k (fun n s7 s8 wr => ∃ (j : Nat) (b : Int) (s' : Nat → Value) (L' : FL) (g' : Nat → Option Nat), s7 = .int .i64 j ∧ s8 = .int .i64 b ∧ j ≤ 4 ∧ Hid (n = j) ∧ Hid (ZS wr (w.heap.size + 2) B z s' L' g') ∧ Hid (Valid z L') ∧ Hid (insB z b j = true) ∧ Hid (∀ x, inBlk x b j → ¬ free L' x) ∧ Hid (inBlk f b j) ∧ Hid (∀ x, (free L' x ∨ inBlk x b j) ↔ free L x) ∧ Hid (boxed wr (w.heap.size + 1) z0 nilS) ∧ w.heap.size + 2 ≤ wr.heap.size ∧ Below w.heap.size w wr)
      case atStart => exact ⟨k, b0, _, _, _, rfl, rfl, hk4, rfl, HSET7.out.1, HDEL.out.1, HIN0.out, fun x hx h => ((HDEL.out.2 x).1 h).2 hx, HBF.out, fun x => by
        rw [HDEL.out.2 x]
        constructor
        · rintro (h | h)
          · exact h.1
          · exact HFR0.out x h
        · intro h
          by_cases h2 : inBlk x b0 k
          · exact .inr h2
          · exact .inl ⟨h, h2⟩, HRES7.out, HSZ7.out, HBW7.out⟩
      case round =>
        obtain ⟨j, b, s', L', g', rfl, rfl, hj, hn, hzs, hv', hi', hd', hfb, hfl2, hres, hszr, hbl⟩ := hrel
        cases j with
        | succ q =>
          have hq4 : q ≤ 4 := by omega
          have hq5 : (q : Int) < 5 := by omega
          have hp1 := (pw_bounds hq4).1
          have hp16 := (pw_bounds hq4).2
          have hii := insB_iff.1 hi'.out
          have hzz := Zh.ok_iff.1 hz
          have hpp := pow_pos' (q + 1)
          have hb0' : 0 ≤ b := by omega
          have hb255 : b ≤ 255 := by omega
          have hfl := box_field hzs.out.box q hq4
          have hlen := hv'.out.len hz hq4
          have hrd := (hzs.out.own q hq4).rd
          have HRDq := Lib.hid hrd
          have hfb1 := hfb.out
          have e2 := two_pow_succ q
          clear hrd hii hzz hpp
          by_cases hge : b + pw q ≤ f
          · have HNF : Hid (inBlk f (b + 2 ^ q) q) := by
              have h1 := hfb1.2
              rw [e2] at h1
              rw [pw_eq] at hge
              exact ⟨hge, by omega⟩
            clear hfb1 e2
            go_upto_region 18 with (go_at_call 43; with_reducible refine (search_any (s' q) (L' q) (b) _ HRDq.out (hv'.out.sorted q hq4) (by omega)).mono ?_; rintro e w9 ⟨rfl, hb9⟩; have hfl9 := (hb9.cell (block_lt_of_cell hfl)).trans hfl)
            have hzs9 : ZS w9 (w.heap.size + 2) B z s' L' g' := hzs.out.below hb9
            have hbel9 : Below w9.heap.size w9 (w9.alloc (.cells #[.int .i64 (b)] 3)) := (Below.refl _ w9).alloc (Nat.le_refl _) _
            have H9 := Lib.hid (hzs9.below hbel9)
            have H9b : Hid ((w9.alloc (.cells #[.int .i64 (b)] 3)).heap[w9.heap.size]? = some (.cells #[.int .i64 (b)] 3 (0, 0))) := alloc_at w9 _
            have hne9 : g' q ≠ some w9.heap.size := fun h => by have h1 := hzs9.own q hq4; rw [h] at h1; have := h1.lt; omega
            have hsz9 : w.heap.size + 2 ≤ w9.heap.size := Nat.le_trans hszr hb9.size
            have hbs9 : w.heap.size + 2 ≤ (w9.alloc (.cells #[.int .i64 (b)] 3)).heap.size := Nat.le_trans hsz9 hbel9.size
            have HB9 := Lib.hid hbs9
            have hca : (w9.alloc (.cells #[.int .i64 (b)] 3)).cell? ⟨B, 5 + q, none⟩ = some (s' q) := box_field H9.out.box q hq4
            have hst := hv'.out.lower (show q < 4 by omega) hi'.out hd'.out
            have HST := Lib.hid hst
            have HBL9 : Hid (Below wr.heap.size wr (w9.alloc (.cells #[.int .i64 (b)] 3))) := hb9.trans (hbel9.mono hb9.size)
            have HBL : Hid (Below w.heap.size w (w9.alloc (.cells #[.int .i64 (b)] 3))) := (hbl.trans (hb9.mono hbl.size)).trans (hbel9.mono (Nat.le_trans hbl.size hb9.size))
            clear hzs9 hbel9 hbs9 hst
            go_wp2_with (go_at_call 51; with_reducible refine (insert_at (s' q) (L' q) (b) (w9.alloc (.cells #[.int .i64 (b)] 3)) (w.heap.size + 2) w9.heap.size 1 (g' q) (H9.out.own q hq4) (by omega) H9b.out hne9 HB9.out).mono ?_; rintro e w10 ⟨a10, n10, k10, g10, rfl, ho10, hk10, hg10⟩; (have hb10 := (hk10.block B (lt_of_block H9.out.box) (H9.out.notB q hq4)).trans H9.out.box); have hc10 := box_field hb10 q hq4; have hf10 : w10.frozen? ⟨B, 5 + q, none⟩ = false := frozen_of_block hb10 _; clear hb10)
            have hset := H9.out.set hq4 hk10 ho10 hg10 HB9.out
            have HSET := Lib.hid hset
            clear hset
            go_roundg q
            case rel => exact ⟨q, b + pw q, _, _, _, rfl, rfl, by omega, rfl, HSET.out.1, HST.out.1, HST.out.2.1, HST.out.2.2.1, HNF.out, fun x => (HST.out.2.2.2 x).trans (hfl2.out x),
              (HSET.out.2.block _ (by have := HB9.out; omega)).trans ((HBL9.out.block _ (by omega)).trans hres.out), Nat.le_trans HB9.out HSET.out.2.size, HBL.out.trans (HSET.out.2.mono (by omega))⟩
            case measure => have := hn.out; omega
          · have HNF : Hid (inBlk f b q) := by
              rw [pw_eq] at hge
              exact ⟨hfb1.1, by omega⟩
            clear hfb1 e2
            go_upto_region 18 with (go_at_call 43; with_reducible refine (search_any (s' q) (L' q) (b + pw q) _ HRDq.out (hv'.out.sorted q hq4) (by omega)).mono ?_; rintro e w9 ⟨rfl, hb9⟩; have hfl9 := (hb9.cell (block_lt_of_cell hfl)).trans hfl)
            have hzs9 : ZS w9 (w.heap.size + 2) B z s' L' g' := hzs.out.below hb9
            have hbel9 : Below w9.heap.size w9 (w9.alloc (.cells #[.int .i64 (b + pw q)] 3)) := (Below.refl _ w9).alloc (Nat.le_refl _) _
            have H9 := Lib.hid (hzs9.below hbel9)
            have H9b : Hid ((w9.alloc (.cells #[.int .i64 (b + pw q)] 3)).heap[w9.heap.size]? = some (.cells #[.int .i64 (b + pw q)] 3 (0, 0))) := alloc_at w9 _
            have hne9 : g' q ≠ some w9.heap.size := fun h => by have h1 := hzs9.own q hq4; rw [h] at h1; have := h1.lt; omega
            have hsz9 : w.heap.size + 2 ≤ w9.heap.size := Nat.le_trans hszr hb9.size
            have hbs9 : w.heap.size + 2 ≤ (w9.alloc (.cells #[.int .i64 (b + pw q)] 3)).heap.size := Nat.le_trans hsz9 hbel9.size
            have HB9 := Lib.hid hbs9
            have hca : (w9.alloc (.cells #[.int .i64 (b + pw q)] 3)).cell? ⟨B, 5 + q, none⟩ = some (s' q) := box_field H9.out.box q hq4
            have hst := hv'.out.upper (show q < 4 by omega) hi'.out hd'.out
            have HST := Lib.hid hst
            have HBL9 : Hid (Below wr.heap.size wr (w9.alloc (.cells #[.int .i64 (b + pw q)] 3))) := hb9.trans (hbel9.mono hb9.size)
            have HBL : Hid (Below w.heap.size w (w9.alloc (.cells #[.int .i64 (b + pw q)] 3))) := (hbl.trans (hb9.mono hbl.size)).trans (hbel9.mono (Nat.le_trans hbl.size hb9.size))
            clear hzs9 hbel9 hbs9 hst
            go_wp2_with (go_at_call 51; with_reducible refine (insert_at (s' q) (L' q) (b + pw q) (w9.alloc (.cells #[.int .i64 (b + pw q)] 3)) (w.heap.size + 2) w9.heap.size 1 (g' q) (H9.out.own q hq4) (by omega) H9b.out hne9 HB9.out).mono ?_; rintro e w10 ⟨a10, n10, k10, g10, rfl, ho10, hk10, hg10⟩; (have hb10 := (hk10.block B (lt_of_block H9.out.box) (H9.out.notB q hq4)).trans H9.out.box); have hc10 := box_field hb10 q hq4; have hf10 : w10.frozen? ⟨B, 5 + q, none⟩ = false := frozen_of_block hb10 _; clear hb10)
            have hset := H9.out.set hq4 hk10 ho10 hg10 HB9.out
            have HSET := Lib.hid hset
            clear hset
            go_roundg q
            case rel => exact ⟨q, b, _, _, _, rfl, rfl, by omega, rfl, HSET.out.1, HST.out.1, HST.out.2.1, HST.out.2.2.1, HNF.out, fun x => (HST.out.2.2.2 x).trans (hfl2.out x),
              (HSET.out.2.block _ (by have := HB9.out; omega)).trans ((HBL9.out.block _ (by omega)).trans hres.out), Nat.le_trans HB9.out HSET.out.2.size, HBL.out.trans (HSET.out.2.mono (by omega))⟩
            case measure => have := hn.out; omega
        | zero =>
          have hfe : f = b := inBlk_zero.1 hfb.out
          have HFE := Lib.hid hfe
          clear hfe
          have hbx := hzs.out.box
          have hsl := hzs.out.slices
          have hbr := hres.out
          have hlo := hzs.out.lo
          go_wp2_with (first | (refine load_zone rfl (.tmp 9) rfl B z s' rfl hbx ?_) | (refine store_zone rfl (.tmp 4) (.tmp 90) rfl (w.heap.size + 1) z0 nilS z s' rfl rfl hbr hsl ?_; intro w11 hbx11 hk11))
          have hzs11 := hzs.out.keeps hk11 (fun k hk e => by omega)
          refine bodyPost_ret (results_zone2 rfl _ _ (w.heap.size + 1) z s' rfl hbx11) rfl ⟨hbl.trans (hk11.to_below hbl.size fun k hk => by omega), .inr (.inr ⟨hin, HFREE.out, s', L', rfl, hzs11.rdZ, hsl, hv'.out, fun x => ?_⟩)⟩
          rw [← hfl2.out x, inBlk_zero, ← HFE.out]
          constructor
          · intro h
            exact ⟨.inl h, fun e => hd'.out x (inBlk_zero.2 (by rw [e]; exact HFE.out)) h⟩
          · rintro ⟨h | h, h2⟩
            · exact h
            · exact (h2 h).elim
    · have hfr' : freeB L f = false := by simpa using hfr
      have HNFR : Hid (¬ free L f) := fun h => hfr ((freeB_iff HV.out).2 h)
      clear hfr
      have hres := H1b.out
      go_wp2_with (first | (refine load_zone rfl (.tmp 2) rfl w.heap.size z s rfl H0b.out ?_) | (go_at_call 52; with_reducible refine (block_no z s L f _ hz HV.out (HR.out.below hbel2) hf0 hf1 hfr').mono ?_; rintro e w3 ⟨rfl, hb3⟩; have hres3 := (hb3.block _ (lt_of_block hres)).trans hres) | (refine store_zone rfl (.tmp 4) (.tmp 34) rfl (w.heap.size + 1) z0 nilS z0 nilS rfl rfl hres3 slices_nil ?_; intro w4 hbx4 hk4))
      have hbel3 := hbel2.trans (hb3.mono hbel2.size)
      exact bodyPost_ret (results_zone2 rfl _ _ (w.heap.size + 1) z0 nilS rfl hbx4) rfl ⟨hbel3.trans (hk4.to_below hbel3.size fun k hk => by omega), .inr (.inl ⟨hin, HNFR.out, rfl⟩)⟩
  · have hin' : insB z f 0 = false := by simpa using hin
    have hres := H1.out
    go_wp2_with (first | (refine load_zone rfl (.tmp 2) rfl w.heap.size z s rfl H0.out ?_) | (go_at_call 42; refine (inside_zero z s f _ hz HFF.out).mono ?_; rintro e w2 ⟨he, hb2⟩; rw [hin'] at he; subst he; have hres2 := (hb2.block _ (lt_of_block hres)).trans hres) | (refine store_zone rfl (.tmp 4) (.tmp 25) rfl (w.heap.size + 1) z0 nilS z0 nilS rfl rfl hres2 slices_nil ?_; intro w3 hbx3 hk3))
    have hbel2 := hbel.trans (hb2.mono hbel.size)
    exact bodyPost_ret (results_zone2 rfl _ _ (w.heap.size + 1) z0 nilS rfl hbx3) rfl ⟨hbel2.trans (hk3.to_below hbel2.size fun k hk => by omega), .inl ⟨hin', rfl⟩⟩
end Go.Proofs.Ytcmmoemmlellbaa
