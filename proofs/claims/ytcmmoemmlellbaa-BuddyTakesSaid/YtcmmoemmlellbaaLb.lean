/- The law BuddyBegins: walked. Conditions: the numbers fit. -/
import Derived.Test.YtcmmoemmlellbaaWn
import Derived.Test.YtcmmoemmlellbaaAw
namespace Go.Proofs.Ytcmmoemmlellbaa
open Go.RowKit

theorem same_valid {z : Zh} {L M : FL} (v : Valid z L) (u : Valid z M) (h : ∀ f, free L f ↔ free M f) : sameL L M = true := sameL_iff.2 (v.unique u h)

set_option maxRecDepth 100000 in
set_option maxHeartbeats 1000000 in
theorem begins_gen (z zz : Zh) (er : Int) (L : FL) (P : FL → Prop) (w : World) (hsame : ∀ M, P M → sameL L M = true)
    (hA : ∀ w, Calls Try.prog 18 #[.int .i64 z.nd, .int .i64 z.kd, .int .i64 z.st, .int .i64 z.ct, .int .i64 z.mn] w fun e w' => ∃ s, e = .returned (.tuple #[zv zz s, .int .i64 er]) ∧ rdZ w' s L ∧ slices s ∧ Below w.heap.size w w')
    (hB : ∀ w, Calls Try.prog 19 #[.int .i64 z.nd, .int .i64 z.kd, .int .i64 z.st, .int .i64 z.ct, .int .i64 z.mn] w fun e w' => ∃ s M, e = .returned (.tuple #[zv zz s, .int .i64 er]) ∧ rdZ w' s M ∧ slices s ∧ P M ∧ Below w.heap.size w w') :
    Calls Try.prog 4 #[.int .i64 z.nd, .int .i64 z.kd, .agg #[.int .i64 z.st, .int .i64 z.ct, .int .i64 z.mn]] w fun e w' => e = .returned (.bool true) ∧ Below w.heap.size w w' := by
  have HA := Lib.hid hA
  have HB := Lib.hid hB
  have HS := Lib.hid hsame
  clear hA hB hsame
  go_enter Try.func4, Try.ntmps4
  go_upto_region 3 with (first | (go_at_call 14; refine (awake_any _).mono ?_; rintro e w1 ⟨rfl, hb1⟩))
  have hp := (hb1.block w.heap.size (by simp)).trans (heap_alloc_new w _)
  have HP := Lib.hid hp
  have c0 : w1.cell? ⟨w.heap.size, 0, none⟩ = some (.int .i64 z.st) := by rw [cell_of_block hp]; rfl
  have c1 : w1.cell? ⟨w.heap.size, 1, none⟩ = some (.int .i64 z.ct) := by rw [cell_of_block hp]; rfl
  have c2 : w1.cell? ⟨w.heap.size, 2, none⟩ = some (.int .i64 z.mn) := by rw [cell_of_block hp]; rfl
  have hbel1 : Below w.heap.size w w1 := (box_one hb1)
  clear hp
  go_upto_region 4 with (first | (go_at_call 18; refine (HA.out _).mono ?_; rintro e w2 ⟨sA, rfl, hrA, hslA, hb2⟩; have HRA := Lib.hid hrA; clear hrA) | (refine store_zone rfl (.tmp 7) (.tmp 23) rfl w2.heap.size z0 nilS zz sA rfl rfl (heap_alloc_new w2 _) hslA ?_; intro w3 hbx3 hk3))
  obtain ⟨hv3, hb3⟩ := Var.made HRA.out hbx3 hk3
  have hbel3 : Below w1.heap.size w1 w3 := hb2.trans (hb3.mono hb2.size)
  have HP3 := Lib.hid ((hbel3.block _ (lt_of_block HP.out)).trans HP.out)
  have d0 : w3.cell? ⟨w.heap.size, 0, none⟩ = some (.int .i64 z.st) := by rw [cell_of_block HP3.out]; rfl
  have d1 : w3.cell? ⟨w.heap.size, 1, none⟩ = some (.int .i64 z.ct) := by rw [cell_of_block HP3.out]; rfl
  have d2 : w3.cell? ⟨w.heap.size, 2, none⟩ = some (.int .i64 z.mn) := by rw [cell_of_block HP3.out]; rfl
  have HV3 := Lib.hid hv3
  clear c0 c1 c2 hbx3 hk3 hv3 hb1
  go_upto_region 5 with (first | (go_at_call 19; refine (HB.out _).mono ?_; rintro e w4 ⟨sB, M, rfl, hrB, hslB, hPM, hb4⟩; have HRB := Lib.hid hrB; clear hrB) | (refine store_zone rfl (.tmp 9) (.tmp 35) rfl w4.heap.size z0 nilS zz sB rfl rfl (heap_alloc_new w4 _) hslB ?_; intro w5 hbx5 hk5))
  obtain ⟨hv5, hb5⟩ := Var.made HRB.out hbx5 hk5
  have hbel5 : Below w3.heap.size w3 w5 := hb4.trans (hb5.mono hb4.size)
  have HV5 := Lib.hid hv5
  have HV6 := Lib.hid (HV3.out.below hbel5)
  have HSM := Lib.hid (HS.out M hPM)
  have hbelA : Below w.heap.size w w5 := (hbel1.trans (hbel3.mono hbel1.size)).trans (hbel5.mono (Nat.le_trans hbel1.size hbel3.size))
  clear d0 d1 d2 hbx5 hk5 hv5 hPM
  obtain ⟨d0, d1, d2, d3, d4, d5, d6, d7, d8, d9⟩ := boxed.head HV5.out.box
  obtain ⟨e0, e1, e2, e3, e4, e5, e6, e7, e8, e9⟩ := boxed.head HV6.out.box
  have hE : (er == er) = true := by simp
  go_wp2_with (go_at_call 20; refine (same_any zz sA sB L M _ HV6.out.rd HV5.out.rd).mono ?_; rintro e w6 ⟨rfl, hb6⟩)
  go_ret
  exact ⟨ret_bool HSM.out, hbelA.trans (hb6.mono hbelA.size)⟩

theorem begins_walk (z : Zh) (w : World) (hz : z.fits) :
    Calls Try.prog 4 #[.int .i64 z.nd, .int .i64 z.kd, .agg #[.int .i64 z.st, .int .i64 z.ct, .int .i64 z.mn]] w fun e w' => e = .returned (.bool true) ∧ Below w.heap.size w w' := by
  by_cases hok : z.ok = true
  · have hct : ((z.ct.toNat : Nat) : Int) = z.ct := by have := Zh.ok_iff.1 hok; omega
    have hv := newK_valid z z.ct.toNat (by omega)
    refine begins_gen z z 0 (newK z z.ct.toNat) (fun M => Valid z M ∧ ∀ x, free M x ↔ z.st ≤ x ∧ x < z.st + z.ct) w (fun M hM => same_valid hv.1 hM.1 fun f => by rw [hv.2, hM.2, hct]) (fun w => new_ok z w hz hok) fun w => (rnew_ok z w hz hok).mono fun e w' h => ?_
    obtain ⟨s, M, h1, h2, h3, h4, h5⟩ := h
    exact ⟨s, M, h1, h2.rdZ, h2.slices, ⟨h3, h4⟩, h5⟩
  · have hb : z.ok = false := by simpa using hok
    refine begins_gen z z0 2 (fun _ => []) (fun M => M = fun _ => []) w (fun M hM => by subst hM; exact sameL_iff.2 fun _ _ => rfl) (fun w => (new_bad z w hz hb).mono fun e w' h => ⟨nilS, h.1, fun k _ => .inl ⟨rfl, _, _, rfl⟩, slices_nil, h.2⟩) fun w => (rnew_bad z w hz hb).mono fun e w' h => ⟨nilS, _, h.1, fun k _ => .inl ⟨rfl, _, _, rfl⟩, slices_nil, rfl, h.2⟩
end Go.Proofs.Ytcmmoemmlellbaa
