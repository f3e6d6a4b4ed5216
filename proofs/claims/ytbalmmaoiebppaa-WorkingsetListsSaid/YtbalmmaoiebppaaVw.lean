/- awake: the fixed example of the statements holds. Conditions: none. -/
import Derived.Test.YtbalmmaoiebppaaVt
import Derived.Test.YtbalmmaoiebppaaVe
namespace Go.Proofs.Ytbalmmaoiebppaa
open Go.RowKit

theorem rd_alloc (w : World) (xs : List Int) (C : Array Value) (hC : C = (xs.map (Value.int .i64)).toArray) (n : Nat) (hn : n = xs.length) (hl : xs.length ≤ 100000) : rd (w.alloc (.cells C 3)) (.slice (some ⟨w.heap.size, 0, none⟩) n n) xs := by
  subst hC hn
  by_cases he : xs = []
  · subst he; exact .inl ⟨rfl, _, _, rfl⟩
  · refine .inr ⟨_, 0, _, rfl, he, Nat.le_refl _, by omega, fun j hj => ?_⟩
    rw [cell_of_block (heap_alloc_new w _), Nat.zero_add, getD_eq hj]
    simp [hj]

theorem fits_of {l : List Int} (h : (l.all fun x => decide (-9223372036854775808 ≤ x ∧ x ≤ 9223372036854775807)) = true) : ∀ x ∈ l, fits x := fun x hx => by
  have := List.all_eq_true.1 h x hx
  simpa [fits] using this
theorem aw1 : chkE ([1, 2, 3, 1, 4, 1] : List Int).length 3 = 0 := by decide
theorem aw2 : rfOut 3 [1, 2, 3, 1, 4, 1] = [-2, -2, -2, -1, -2, 0] := by decide +kernel
theorem aw3 : lsE ([1, 2, 3, 1, 2, 1] : List Int).length 2 1 = 0 := by decide
theorem aw4 : lsOut 2 1 [1, 2, 3, 1, 2, 1] = [-2, -2, -2, 0, 0, -1] := by decide +kernel
theorem aw5 : estE [2, 2, 2, 2, 90, 2, 2, 2] = 0 := by decide +kernel
theorem aw6 : estV [2, 2, 2, 2, 90, 2, 2, 2] = 2 := by
  unfold estV
  rw [if_pos aw5]
  have hp : (sortL [2, 2, 2, 2, 90, 2, 2, 2]).Perm [2, 2, 2, 2, 2, 2, 2, 90] := (List.mergeSort_perm _ _).trans (by decide)
  have hs : (sortL [2, 2, 2, 2, 90, 2, 2, 2]).Pairwise fun a b => decide (a ≤ b) = true := List.pairwise_mergeSort (fun a b c h1 h2 => by simp at *; omega) (fun a b => by simp; omega) _
  have h2 : [2, 2, 2, 2, 2, 2, 2, 90].Pairwise fun a b : Int => decide (a ≤ b) = true := by decide
  have he := List.Perm.eq_of_pairwise (le := fun a b : Int => decide (a ≤ b) = true) (fun a b _ _ h1 h2 => by simp at *; omega) hs h2 hp
  rw [he]; rfl
theorem aw7 : disV 3 10 = 7 := by decide
theorem aw8 : disE 3 10 = 0 := by decide
theorem aw9 : actv 3 3 = true := by decide

set_option maxRecDepth 100000 in
set_option maxHeartbeats 4000000 in
theorem awake_any (w : World) : Calls Try.prog 11 #[] w fun e w' => e = .returned (.bool true) ∧ Below w.heap.size w w' := by
  go_enter Try.func11, Try.ntmps11
  go_upto_region 2 with (go_at_call 16; refine (refaults_any _ [1, 2, 3, 1, 4, 1] 3 _ (rd_alloc w _ _ rfl 6 rfl (by decide)) (fits_of (by decide)) ⟨by decide, by decide⟩).mono ?_; rintro e w1 ⟨v1, rfl, hb1, hr1⟩; rw [aw1]; rw [aw2] at hr1; have HR1 := Lib.hid hr1; have hbl1 : Below w.heap.size w w1 := ((Below.refl _ w).alloc (Nat.le_refl _) _).trans (hb1.mono (by simp)); clear hr1 hb1)
  go_upto_region 4 with (go_at_call 18; refine (same_any v1 _ [-2, -2, -2, -1, -2, 0] [-2, -2, -2, -1, -2, 0] _ (HR1.out.below ((Below.refl _ w1).alloc (Nat.le_refl _) _)) (rd_alloc w1 _ _ rfl 6 rfl (by decide))).mono ?_; rintro e w2 ⟨rfl, hb2⟩; rw [decide_eq_true rfl]; have hbl2 : Below w.heap.size w w2 := hbl1.trans (((Below.refl _ w1).alloc (Nat.le_refl _) _).trans (hb2.mono (by simp)) |>.mono hbl1.size); clear hb2)
  go_upto_region 5 with (go_at_call 19; refine (lists_any _ [1, 2, 3, 1, 2, 1] 2 1 _ (rd_alloc w2 _ _ rfl 6 rfl (by decide)) (fits_of (by decide)) ⟨by decide, by decide⟩ ⟨by decide, by decide⟩).mono ?_; rintro e w3 ⟨v3, rfl, hb3, hr3⟩; rw [aw3]; rw [aw4] at hr3; have HR3 := Lib.hid hr3; have hbl3 : Below w.heap.size w w3 := hbl2.trans (((Below.refl _ w2).alloc (Nat.le_refl _) _).trans (hb3.mono (by simp)) |>.mono hbl2.size); clear hr3 hb3)
  go_upto_region 7 with (go_at_call 18; refine (same_any v3 _ [-2, -2, -2, 0, 0, -1] [-2, -2, -2, 0, 0, -1] _ (HR3.out.below ((Below.refl _ w3).alloc (Nat.le_refl _) _)) (rd_alloc w3 _ _ rfl 6 rfl (by decide))).mono ?_; rintro e w4 ⟨rfl, hb4⟩; rw [decide_eq_true rfl]; have hbl4 : Below w.heap.size w w4 := hbl3.trans (((Below.refl _ w3).alloc (Nat.le_refl _) _).trans (hb4.mono (by simp)) |>.mono hbl3.size); clear hb4)
  go_upto_region 8 with (go_at_call 21; refine (estimate_any _ [2, 2, 2, 2, 90, 2, 2, 2] _ (rd_alloc w4 _ _ rfl 8 rfl (by decide)) (fits_of (by decide))).mono ?_; rintro e w5 ⟨rfl, hb5⟩; rw [aw5, aw6]; have hbl5 : Below w.heap.size w w5 := hbl4.trans (((Below.refl _ w4).alloc (Nat.le_refl _) _).trans (hb5.mono (by simp)) |>.mono hbl4.size); clear hb5)
  go_wp2_with (first | (go_at_call 12; refine (distance_any 3 10 _ ⟨by decide, by decide⟩ ⟨by decide, by decide⟩).mono ?_; rintro e wv ⟨rfl, hwv⟩; rw [hwv, aw7, aw8]; clear hwv wv) | (go_at_call 14; refine (activate_any 3 3 _ ⟨by decide, by decide⟩ ⟨by decide, by decide⟩).mono ?_; rintro e wv ⟨rfl, hwv⟩; rw [hwv, aw9]; clear hwv wv))
  go_ret
  exact ⟨rfl, hbl5⟩
end Go.Proofs.Ytbalmmaoiebppaa
