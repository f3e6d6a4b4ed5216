/- The reference's Alloc: walked. Conditions: the numbers fit. -/
import Derived.Test.YtcmmoemmlellbaaWn
import Derived.Test.YtcmmoemmlellbaaRd
import Derived.Test.YtcmmoemmlellbaaAl
namespace Go.Proofs.Ytcmmoemmlellbaa
open Go.RowKit
attribute [local go_sem] wrap_pow

theorem free_frs {L : FL} {x : Int} : (frs L).count x ≠ 0 ↔ free L x := by
  rw [Ne, List.count_eq_zero, Decidable.not_not, mem_frs]

theorem rcheck_ok (z : Zh) (s : Nat → Value) (L : FL) (w : World) (hz : z.ok = true) (v : Valid z L) (hrd : rdZ w s L) :
    Calls Try.prog 17 #[zv z s] w fun e w' => e = .returned (.int .i64 0) ∧ Below w.heap.size w w' :=
  (rcheck_any z s L w (Zh.fits_of_ok hz) hrd (v.fits hz)).mono fun _ _ h => ⟨h.1.trans (ret_int (chkM_zero.2 ⟨hz, v⟩)), h.2⟩

set_option maxRecDepth 100000 in
set_option maxHeartbeats 1000000 in
theorem ralloc_err (z : Zh) (s : Nat → Value) (L : FL) (o : Int) (w : World) (hz : z.fits) (hrd : rdZ w s L) (hfit : fitsL L) (he : chkM z L ≠ 0) :
    Calls Try.prog 22 #[zv z s, .int .i64 o] w fun e w' => e = .returned (.tuple #[zv z0 nilS, .int .i64 0, .int .i64 (chkM z L)]) ∧ Below w.heap.size w w' := by
  have HR := Lib.hid hrd; clear hrd
  have HF := Lib.hid hfit; clear hfit
  go_enter Try.func22, Try.ntmps22
  go_upto_region 3 with (go_at_call 17; refine (rcheck_any z s L _ hz (HR.out.below (below_two w _ _)) HF.out).mono ?_; rintro e w1 ⟨rfl, hb1⟩)
  have hbox : boxed w1 (w.heap.size + 1) z0 nilS := (hb1.block (w.heap.size + 1) (by rw [size_two]; omega)).trans (heap_alloc2_new w _ _)
  have hbel := (below_two w _ _).trans (hb1.mono (by rw [size_two]; omega))
  clear hb1
  go_wp2_with (refine store_zone rfl (.tmp 4) (.tmp 16) rfl (w.heap.size + 1) z0 nilS z0 nilS rfl rfl hbox slices_nil ?_; intro w2 hbx2 hk2)
  exact bodyPost_ret (results_zone3 rfl _ _ (w.heap.size + 1) z0 nilS rfl hbx2) rfl ⟨rfl, hbel.trans (hk2.to_below hbel.size fun k hk => by omega)⟩

set_option maxRecDepth 100000 in
set_option maxHeartbeats 1000000 in
theorem ralloc_ord (z : Zh) (s : Nat → Value) (L : FL) (o : Int) (w : World) (hz : z.ok = true) (hv : Valid z L) (hrd : rdZ w s L) (ho : o < 0 ∨ 4 < o) :
    Calls Try.prog 22 #[zv z s, .int .i64 o] w fun e w' => e = .returned (.tuple #[zv z0 nilS, .int .i64 0, .int .i64 2]) ∧ Below w.heap.size w w' := by
  have HR := Lib.hid hrd; clear hrd
  have HV := Lib.hid hv; clear hv
  rcases ho with ho | ho
  all_goals
    try (have ho' : ¬ o < 0 := by omega)
    go_enter Try.func22, Try.ntmps22
    go_upto_region 5 with (go_at_call 17; refine (rcheck_ok z s L _ hz HV.out (HR.out.below (below_two w _ _))).mono ?_; rintro e w1 ⟨rfl, hb1⟩)
    have hbox : boxed w1 (w.heap.size + 1) z0 nilS := (hb1.block (w.heap.size + 1) (by rw [size_two]; omega)).trans (heap_alloc2_new w _ _)
    have hbel := below_box hb1
    clear hb1
    go_wp2_with (refine store_zone rfl (.tmp 4) (.tmp 24) rfl (w.heap.size + 1) z0 nilS z0 nilS rfl rfl hbox slices_nil ?_; intro w2 hbx2 hk2)
    exact bodyPost_ret (results_zone3 rfl _ _ (w.heap.size + 1) z0 nilS rfl hbx2) rfl ⟨rfl, hbel.trans (hk2.to_below hbel.size fun k hk => by omega)⟩
end Go.Proofs.Ytcmmoemmlellbaa
