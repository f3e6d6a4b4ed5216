/- Free: walked. Conditions: the numbers fit. -/
import Derived.Test.YtcmmoemmlellbaaFr
namespace Go.Proofs.Ytcmmoemmlellbaa
open Go.RowKit

attribute [local go_sem] wrap_pow

set_option maxRecDepth 100000 in
set_option maxHeartbeats 1000000 in
theorem free_err (z : Zh) (s : Nat → Value) (L : FL) (f o : Int) (w : World) (hz : z.fits) (hrd : rdZ w s L) (hfit : fitsL L) (he : chkM z L ≠ 0) :
    Calls Try.prog 23 #[zv z s, .int .i64 f, .int .i64 o] w fun e w' => e = .returned (.tuple #[zv z0 nilS, .int .i64 (chkM z L)]) ∧ Below w.heap.size w w' := by
  have HR := Lib.hid hrd; clear hrd
  have HF := Lib.hid hfit; clear hfit
  go_enter Try.func23, Try.ntmps23
  go_upto_region 3 with (go_at_call 16; refine (check_any z s L _ hz (HR.out.below (below_two w _ _)) HF.out).mono ?_; rintro e w1 ⟨rfl, hb1⟩)
  have hbox : boxed w1 (w.heap.size + 1) z0 nilS := (hb1.block (w.heap.size + 1) (by rw [size_two]; omega)).trans (heap_alloc2_new w _ _)
  have hbel := below_box hb1
  clear hb1
  go_wp2_with (refine store_zone rfl (.tmp 6) (.tmp 17) rfl (w.heap.size + 1) z0 nilS z0 nilS rfl rfl hbox slices_nil ?_; intro w2 hbx2 hk2)
  exact bodyPost_ret (results_zone2 rfl _ _ (w.heap.size + 1) z0 nilS rfl hbx2) rfl ⟨rfl, hbel.trans (hk2.to_below hbel.size fun k hk => by omega)⟩

set_option maxRecDepth 100000 in
set_option maxHeartbeats 1000000 in
theorem free_ord (z : Zh) (s : Nat → Value) (L : FL) (f o : Int) (w : World) (hz : z.ok = true) (hv : Valid z L) (hrd : rdZ w s L) (ho : o < 0 ∨ 4 < o) :
    Calls Try.prog 23 #[zv z s, .int .i64 f, .int .i64 o] w fun e w' => e = .returned (.tuple #[zv z0 nilS, .int .i64 2]) ∧ Below w.heap.size w w' := by
  have HR := Lib.hid hrd; clear hrd
  have HV := Lib.hid hv; clear hv
  rcases ho with ho | ho
  all_goals
    try (have ho' : ¬ o < 0 := by omega)
    go_enter Try.func23, Try.ntmps23
    go_upto_region 5 with (go_at_call 16; refine (check_ok z s L _ hz HV.out (HR.out.below (below_two w _ _))).mono ?_; rintro e w1 ⟨rfl, hb1⟩)
    have hbox : boxed w1 (w.heap.size + 1) z0 nilS := (hb1.block (w.heap.size + 1) (by rw [size_two]; omega)).trans (heap_alloc2_new w _ _)
    have hbel := below_box hb1
    clear hb1
    go_wp2_with (refine store_zone rfl (.tmp 6) (.tmp 32) rfl (w.heap.size + 1) z0 nilS z0 nilS rfl rfl hbox slices_nil ?_; intro w2 hbx2 hk2)
    exact bodyPost_ret (results_zone2 rfl _ _ (w.heap.size + 1) z0 nilS rfl hbx2) rfl ⟨rfl, hbel.trans (hk2.to_below hbel.size fun k hk => by omega)⟩

set_option maxRecDepth 100000 in
set_option maxHeartbeats 1000000 in
theorem free_out (z : Zh) (s : Nat → Value) (L : FL) (f : Int) (o : Nat) (w : World) (hz : z.ok = true) (hv : Valid z L) (hrd : rdZ w s L) (hf : fits f) (ho : o ≤ 4) (hin : insB z f o = false) :
    Calls Try.prog 23 #[zv z s, .int .i64 f, .int .i64 o] w fun e w' => e = .returned (.tuple #[zv z0 nilS, .int .i64 2]) ∧ Below w.heap.size w w' := by
  have HR := Lib.hid hrd; clear hrd
  have HV := Lib.hid hv; clear hv
  have hd0 : decide ((o : Int) < 0) = false := by simp
  have hd1 : decide ((4 : Int) < (o : Int)) = false := by simp; omega
  go_enter Try.func23, Try.ntmps23
  go_upto_region 5 with (first | (go_at_call 16; refine (check_ok z s L _ hz HV.out (HR.out.below (below_two w _ _))).mono ?_; rintro e w1 ⟨rfl, hb1⟩; (have hbx1 := (hb1.block w.heap.size (by rw [size_two]; omega)).trans (heap_alloc2_old w _ _)); obtain ⟨c0, c1, c2, c3, c4, c5, c6, c7, c8, c9⟩ := boxed.head hbx1; clear hbx1) | (go_at_call 42; with_reducible refine (inside_any z s f o _ hz hf ho).mono ?_; rintro e w2 ⟨rfl, hb2⟩))
  have hbox : boxed w2 (w.heap.size + 1) z0 nilS := (hb2.block _ (by have := hb1.size; rw [size_two] at this; omega)).trans ((hb1.block (w.heap.size + 1) (by rw [size_two]; omega)).trans (heap_alloc2_new w _ _))
  have hbel := (below_box hb1).trans (hb2.mono (below_box hb1).size)
  clear hb1 hb2
  go_wp2_with (refine store_zone rfl (.tmp 6) (.tmp 32) rfl (w.heap.size + 1) z0 nilS z0 nilS rfl rfl hbox slices_nil ?_; intro w3 hbx2 hk2)
  exact bodyPost_ret (results_zone2 rfl _ _ (w.heap.size + 1) z0 nilS rfl hbx2) rfl ⟨rfl, hbel.trans (hk2.to_below hbel.size fun k hk => by omega)⟩

set_option maxRecDepth 100000 in
set_option maxHeartbeats 2000000 in
theorem free_far (z : Zh) (s : Nat → Value) (L : FL) (f : Int) (o : Nat) (w : World) (hz : z.ok = true) (hv : Valid z L) (hrd : rdZ w s L) (ho : o ≤ 4) (hin : insB z f o = true) :
    Calls Try.prog 23 #[zv z s, .int .i64 f, .int .i64 o] w fun e w' => Below w.heap.size w w' ∧
      (((∃ x, inBlk x f o ∧ free L x) ∧ e = .returned (.tuple #[zv z0 nilS, .int .i64 7])) ∨
      ((∀ x, inBlk x f o → ¬ free L x) ∧ ∃ s', e = .returned (.tuple #[zv z s', .int .i64 0]) ∧ farZ w' w.heap.size s' (putM z (4 - o) L f o) ∧ slices s')) := by
  have HR := Lib.hid hrd; clear hrd
  have HV := Lib.hid hv; clear hv
  have hzz := Zh.ok_iff.1 hz
  have hii := insB_iff.1 hin
  rw [← pw_eq] at hii
  have hf0 : 0 ≤ f := by omega
  have hf1 : f + pw o ≤ 256 := by omega
  have hp1 := (pw_bounds ho).1
  have hp16 := (pw_bounds ho).2
  have hff : fits f := by unfold fits; omega
  have hd0 : decide ((o : Int) < 0) = false := by simp
  have hd1 : decide ((4 : Int) < (o : Int)) = false := by simp; omega
  clear hzz hii
  go_enter Try.func23, Try.ntmps23
  go_upto_block 0 with (first | (go_at_call 16; refine (check_ok z s L _ hz HV.out (HR.out.below (below_two w _ _))).mono ?_; rintro e w1 ⟨rfl, hb1⟩; (have hbx1 := (hb1.block w.heap.size (by rw [size_two]; omega)).trans (heap_alloc2_old w _ _)); obtain ⟨c0, c1, c2, c3, c4, c5, c6, c7, c8, c9⟩ := boxed.head hbx1; have HBX1 := Lib.hid hbx1; clear hbx1) | (go_at_call 42; with_reducible refine (inside_any z s f o _ hz hff ho).mono ?_; rintro e w2 ⟨rfl, hb2⟩))
  have hbox : boxed w2 (w.heap.size + 1) z0 nilS := (hb2.block _ (by have := hb1.size; rw [size_two] at this; omega)).trans ((hb1.block (w.heap.size + 1) (by rw [size_two]; omega)).trans (heap_alloc2_new w _ _))
  have hbz : boxed w2 w.heap.size z s := (hb2.block _ (lt_of_block HBX1.out)).trans HBX1.out
  have hbel := (below_box hb1).trans (hb2.mono (below_box hb1).size)
  have hsz : w.heap.size + 2 ≤ w2.heap.size := Nat.le_trans (by have := hb1.size; rw [size_two] at this; exact this) hb2.size
  have H0 := Lib.hid hbz
  have H1 := Lib.hid hbox
  clear hb1 hb2 hbox hbz c0 c1 c2 c3 c4 c5 c6 c7 c8 c9
  go_cut [] from 34 to 50 (fun wx => Hid (∀ x, inBlk x f o → ¬ free L x) ∧ Hid (boxed wx w.heap.size z s) ∧ Hid (boxed wx (w.heap.size + 1) z0 nilS) ∧ w.heap.size + 2 ≤ wx.heap.size ∧ Below w.heap.size w wx)
  case first =>
    go_wp2_with fail
    go_loopg [9] (pw o).toNat (fun n s9 wr => ∃ q : Int, s9 = .int .i64 q ∧ f ≤ q ∧ q ≤ f + pw o ∧ Hid ((n : Int) = f + pw o - q) ∧ Hid (∀ x, f ≤ x → x < q → ¬ free L x) ∧ Hid (boxed wr w.heap.size z s) ∧ Hid (boxed wr (w.heap.size + 1) z0 nilS) ∧ w.heap.size + 2 ≤ wr.heap.size ∧ Below w.heap.size w wr)
    case atStart => exact ⟨f, rfl, by omega, by omega, (show _ = _ by omega), fun x h1 h2 => by omega, H0.out, H1.out, hsz, hbel⟩
    case round =>
      obtain ⟨q, rfl, hq0, hq1, hn, hfr, hbz, hbr, hszr, hbl⟩ := hrel
      by_cases hlt : q < f + pw o
      · obtain ⟨c0, c1, c2, c3, c4, c5, c6, c7, c8, c9⟩ := boxed.head hbz.out
        by_cases hfree : freeB L q = true
        · have hbr' := hbr.out
          have HFR := Lib.hid hfree
          clear hfree
          go_wp2_with (first | (go_at_call 52; with_reducible refine (block_yes z s L q _ hz HV.out (HR.out.below hbl) (by omega) (by omega) HFR.out).mono ?_; rintro e w3 ⟨k, hk, rfl, hb3⟩; have HK := Lib.hid hk; clear hk; have hbr3 := (hb3.block _ (lt_of_block hbr')).trans hbr') | (refine store_zone rfl (.tmp 6) (.tmp 50) rfl (w.heap.size + 1) z0 nilS z0 nilS rfl rfl hbr3 slices_nil ?_; intro w4 hbx4 hk4))
          refine bodyPost_ret (results_zone2 rfl _ _ (w.heap.size + 1) z0 nilS rfl hbx4) rfl ⟨?_, .inl ⟨⟨q, ⟨hq0, by rw [← pw_eq]; exact hlt⟩, (freeB_iff HV.out).1 HFR.out⟩, rfl⟩⟩
          have hbl3 := hbl.trans (hb3.mono hbl.size)
          exact hbl3.trans (hk4.to_below hbl3.size fun k hk => by omega)
        · have hfree' : freeB L q = false := by simpa using hfree
          clear hfree
          go_wp2_with (go_at_call 52; with_reducible refine (block_no z s L q _ hz HV.out (HR.out.below hbl) (by omega) (by omega) hfree').mono ?_; rintro e w3 ⟨rfl, hb3⟩)
          go_roundg (f + pw o - (q + 1)).toNat
          case rel => exact ⟨q + 1, rfl, by omega, by omega, (show _ = _ by omega), fun x h1 h2 => by
            by_cases e : x = q
            · subst e; intro h3; rw [(freeB_iff HV.out).2 h3] at hfree'; cases hfree'
            · exact hfr.out x h1 (by omega), (hb3.block _ (lt_of_block hbz.out)).trans hbz.out, (hb3.block _ (lt_of_block hbr.out)).trans hbr.out, Nat.le_trans hszr hb3.size, hbl.trans (hb3.mono hbl.size)⟩
          case measure => have := hn.out; omega
      · have HD : Hid (∀ x, inBlk x f o → ¬ free L x) := fun x hx => hfr.out x hx.1 (by have h1 := hx.2; rw [← pw_eq] at h1; omega)
        go_wp2_with fail
        go_meet
        case rel => exact ⟨HD.out, hbz.out, hbr.out, hszr, hbl⟩
  case rest =>
    obtain ⟨hd, hbz, hbr, hszr, hbl⟩ := hcut
    go_upto_region 13 with (first | (refine load_zone rfl (.tmp 3) rfl w.heap.size z s rfl hbz.out ?_) | (go_at_call 50; refine (clone_zone z s L wc (HR.out.below hbl) (fun k hk => by have := HV.out.len hz hk; omega)).mono ?_; rintro e w3 ⟨s3, g3, rfl, ho3, hb3⟩) | (refine store_zone rfl (.tmp 12) (.tmp 52) rfl w3.heap.size z0 nilS z s3 rfl rfl (heap_alloc_new w3 _) ho3.slices ?_; intro w4 hbx4 hk4))
    have hb4 : Below w3.heap.size w3 w4 := ((Below.refl _ w3).alloc (Nat.le_refl _) _).trans (hk4.to_below (by simp) fun k hk => by omega)
    have hZ := (ho3.lower (base' := w.heap.size + 2) hszr).box hb4 hbx4 (Nat.le_refl _) (Nat.le_trans hszr hb3.size)
    have hbel4 : Below wc.heap.size wc w4 := hb3.trans (hb4.mono hb3.size)
    have hres : boxed w4 (w.heap.size + 1) z0 nilS := (hbel4.block _ (by omega)).trans hbr.out
    have hsz4 : w.heap.size + 2 ≤ w4.heap.size := Nat.le_trans hszr hbel4.size
    have HZ := Lib.hid hZ
    have HRES := Lib.hid hres
    clear hZ hres hbx4 hk4
    go_wp2_with (first | (go_at_call 48; with_reducible refine (put_any z s3 L g3 f o w4 (w.heap.size + 2) w3.heap.size hz HZ.out hsz4 HV.out ho hin hd.out).mono ?_; rintro e w5 ⟨rfl, s5, g5, hz5, hb5⟩; have hbx5 := hz5.box; have hsl5 := hz5.slices; have hres5 := (hb5.block _ (by omega)).trans HRES.out; have HZ5 := Lib.hid hz5; clear hz5) | (refine load_zone rfl (.tmp 12) rfl w3.heap.size z s5 rfl hbx5 ?_) | (refine store_zone rfl (.tmp 6) (.tmp 56) rfl (w.heap.size + 1) z0 nilS z s5 rfl rfl hres5 hsl5 ?_; intro w6 hbx6 hk6))
    have hb5' : Below w.heap.size w w5 := ((hbl.trans (hbel4.mono hbl.size))).trans (hb5.mono (by omega))
    refine bodyPost_ret (results_zone2 rfl _ _ (w.heap.size + 1) z s5 rfl hbx6) rfl ⟨hb5'.trans (hk6.to_below hb5'.size fun k hk => by omega), .inr ⟨hd.out, s5, rfl, ?_, hsl5⟩⟩
    exact (HZ5.out.keeps hk6 (fun k hk e => by omega)).far (by omega)
theorem free_in (z : Zh) (s : Nat → Value) (L : FL) (f : Int) (o : Nat) (w : World) (hz : z.ok = true) (hv : Valid z L) (hrd : rdZ w s L) (ho : o ≤ 4) (hin : insB z f o = true) :
    Calls Try.prog 23 #[zv z s, .int .i64 f, .int .i64 o] w fun e w' => Below w.heap.size w w' ∧
      (((∃ x, inBlk x f o ∧ free L x) ∧ e = .returned (.tuple #[zv z0 nilS, .int .i64 7])) ∨
      ((∀ x, inBlk x f o → ¬ free L x) ∧ ∃ s', e = .returned (.tuple #[zv z s', .int .i64 0]) ∧ rdZ w' s' (putM z (4 - o) L f o) ∧ slices s')) :=
  (free_far z s L f o w hz hv hrd ho hin).mono fun e w' ⟨h1, h2⟩ => ⟨h1, h2.imp id fun ⟨h3, s', h4, h5, h6⟩ => ⟨h3, s', h4, h5.rdZ, h6⟩⟩
end Go.Proofs.Ytcmmoemmlellbaa
