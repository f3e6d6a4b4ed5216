/- The law Lists: walked. Conditions: the numbers fit. -/
import Derived.Test.YtbalmmaoiebppaaVw
import Derived.Test.YtbalmmaoiebppaaVca
namespace Go.Proofs.Ytbalmmaoiebppaa
open Go.RowKit

set_option maxRecDepth 100000 in
set_option maxHeartbeats 4000000 in
theorem lists_walk (v : Value) (xs : List Int) (s bd : Int) (w : World) (h : rd w v xs) (hx : ∀ x, x ∈ xs → fits x) (hs : fits s) (hbd : fits bd) :
    Calls Try.prog 5 #[v, .int .i64 s, .int .i64 bd] w fun e w' => e = .returned (.bool true) ∧ Below w.heap.size w w' := by
  have HR := Lib.hid h
  obtain ⟨a, c, rfl, hlen, _⟩ := h.split
  have HX := Lib.hid hx
  clear h hx
  have e1 : (lsE xs.length s bd == lsE xs.length s bd) = true := by simp
  by_cases hbig : 300 < xs.length
  · have hgt : decide ((xs.length : Int) > 300) = true := by simp; omega
    go_enter Try.func5, Try.ntmps5
    go_upto_region 2 with (go_at_call 11; refine (awake_any _).mono ?_; rintro e w1 ⟨rfl, hb1⟩)
    go_wp2_with (go_at_call 11; refine (awake_any _).mono ?_; rintro e w2 ⟨rfl, hb2⟩)
    go_ret
    exact ⟨rfl, hb1.trans (hb2.mono hb1.size)⟩
  · have hgt : decide ((xs.length : Int) > 300) = false := by simp; omega
    go_enter Try.func5, Try.ntmps5
    go_upto_region 3 with (go_at_call 11; refine (awake_any _).mono ?_; rintro e w1 ⟨rfl, hb1⟩)
    have HR1 := Lib.hid (HR.out.below hb1)
    go_wp2_with (first | (go_at_call 19; with_reducible refine (lists_any _ xs s bd _ HR1.out HX.out hs hbd).mono ?_; rintro e w2 ⟨v2, rfl, hb2, hr2⟩; have hbl2 := hb1.trans (hb2.mono hb1.size); have HR2 := Lib.hid hr2; have HX2 := Lib.hid (HR1.out.below hb2); clear hr2 hb2) | (go_at_call 20; with_reducible refine (rlists_any _ xs s bd _ HX2.out HX.out hs hbd).mono ?_; rintro e w3 ⟨v3, rfl, hb3, hr3⟩; have hbl3 := hbl2.trans (hb3.mono hbl2.size); have HR3 := Lib.hid hr3; have HR4 := Lib.hid (HR2.out.below hb3); clear hr3 hb3) | (go_at_call 18; refine (same_any v2 v3 _ _ _ HR4.out HR3.out).mono ?_; rintro e w4 ⟨rfl, hb4⟩; rw [decide_eq_true rfl]; have hbl4 := hbl3.trans (hb4.mono hbl3.size); clear hb4))
    go_ret
    exact ⟨rfl, hbl4⟩
end Go.Proofs.Ytbalmmaoiebppaa
