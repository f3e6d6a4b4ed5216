/- awake: the fixed example of the statements holds. Conditions: none. -/
import Derived.Test.YtcmmoemmlellbaaFe
import Derived.Test.YtcmmoemmlellbaaCt
import Derived.Test.YtcmmoemmlellbaaSm
namespace Go.Proofs.Ytcmmoemmlellbaa
open Go.RowKit

def zA : Zh := ⟨0, 0, 0, 20, 0⟩
def LA : FL := newK zA 20
def LB : FL := allocL LA 1 2
def LC : FL := putM zA 3 LB 16 1
theorem zA_ok : zA.ok = true := by decide
theorem zA_fits : zA.fits := Zh.fits_of_ok zA_ok
theorem LA_4 : LA 4 = [0] := by decide +kernel
theorem LA_2 : LA 2 = [16] := by decide +kernel
theorem LA_find : findK LA (5 - 1) 1 = some 2 := by decide +kernel
theorem LA_head : (LA 2).headD 0 = 16 := by rw [LA_2]; rfl
theorem LB_1 : LB 1 = [18] := by decide +kernel
theorem LB_count : unusM LB 5 = 18 := by decide +kernel
theorem LB_17 : freeB LB 17 = false := by decide +kernel
theorem LB_18 : freeB LB 18 = true := by decide +kernel
theorem LB_unus : unusM LB 2 = 2 := by decide +kernel
theorem LC_same : sameL LC LA = true := by decide +kernel
theorem LC_larg : largM LC 5 = 4 := by decide +kernel
theorem LA_valid : Valid zA LA := (newK_valid zA 20 (by decide)).1
theorem LB_valid : Valid zA LB := (alloc_valid LA_valid LA_find).1
theorem LB_16 : ∀ x, inBlk x 16 1 → ¬ free LB x := fun x hx h => by
  have h1 := ((alloc_valid LA_valid LA_find).2.2.2.2.2.2 x).1 h
  rw [LA_head] at h1
  exact h1.2 hx
theorem ins_16 : insB zA 16 1 = true := by decide
theorem LC_valid : Valid zA LC := (Valid.put 3 1 rfl LB_valid ins_16 LB_16).1

theorem aw_new (w : World) : Calls Try.prog 18 #[.int .i64 0, .int .i64 0, .int .i64 0, .int .i64 20, .int .i64 0] w fun e w' => ∃ s, e = .returned (.tuple #[zv zA s, .int .i64 0]) ∧ rdZ w' s LA ∧ slices s ∧ Below w.heap.size w w' :=
  new_ok zA w zA_fits zA_ok
theorem aw_alloc (s : Nat → Value) (w : World) (h : rdZ w s LA) : Calls Try.prog 21 #[zv zA s, .int .i64 1] w fun e w' => ∃ s', e = .returned (.tuple #[zv zA s', .int .i64 16, .int .i64 0]) ∧ rdZ w' s' LB ∧ slices s' ∧ Below w.heap.size w w' :=
  (alloc_main zA s LA 1 w zA_ok LA_valid h (by omega)).mono fun e w' h => by
    obtain ⟨hb, h | ⟨k, s', hk, he, hr, hs⟩⟩ := h
    · rw [LA_find] at h; cases h.1
    · rw [LA_find] at hk; cases hk
      rw [LA_head] at he
      exact ⟨s', he, hr, hs, hb⟩
theorem aw_free (s : Nat → Value) (w : World) (h : rdZ w s LB) : Calls Try.prog 23 #[zv zA s, .int .i64 16, .int .i64 1] w fun e w' => ∃ s', e = .returned (.tuple #[zv zA s', .int .i64 0]) ∧ rdZ w' s' LC ∧ slices s' ∧ Below w.heap.size w w' :=
  (free_in zA s LB 16 1 w zA_ok LB_valid h (by omega) ins_16).mono fun e w' h => by
    obtain ⟨hb, ⟨⟨x, hx, hf⟩, _⟩ | ⟨_, s', he, hr, hs⟩⟩ := h
    · exact (LB_16 x hx hf).elim
    · exact ⟨s', he, hr, hs, hb⟩
theorem aw_count (s : Nat → Value) (w : World) (h : rdZ w s LB) : Calls Try.prog 35 #[zv zA s] w fun e w' => e = .returned (.int .i64 18) ∧ Below w.heap.size w w' := by
  have := count_ok zA s LB w zA_ok LB_valid h; rwa [LB_count] at this
theorem aw_17 (s : Nat → Value) (w : World) (h : rdZ w s LB) : Calls Try.prog 26 #[zv zA s, .int .i64 17] w fun e w' => e = .returned (.bool false) ∧ Below w.heap.size w w' := by
  have := isFree_ok zA s LB 17 w zA_ok LB_valid h (by unfold fits; omega); rwa [LB_17] at this
theorem aw_18 (s : Nat → Value) (w : World) (h : rdZ w s LB) : Calls Try.prog 26 #[zv zA s, .int .i64 18] w fun e w' => e = .returned (.bool true) ∧ Below w.heap.size w w' := by
  have := isFree_ok zA s LB 18 w zA_ok LB_valid h (by unfold fits; omega); rwa [LB_18] at this
theorem aw_same (s t : Nat → Value) (w : World) (h : rdZ w s LC) (h' : rdZ w t LA) : Calls Try.prog 20 #[zv zA s, zv zA t] w fun e w' => e = .returned (.bool true) ∧ Below w.heap.size w w' := by
  have := same_any zA s t LC LA w h h'; rwa [LC_same] at this
theorem aw_larg (s : Nat → Value) (w : World) (h : rdZ w s LC) : Calls Try.prog 37 #[zv zA s] w fun e w' => e = .returned (.int .i64 4) ∧ Below w.heap.size w w' := by
  have := largest_ok zA s LC w zA_ok LC_valid h; rwa [LC_larg] at this
theorem aw_unus (s : Nat → Value) (w : World) (h : rdZ w s LB) : Calls Try.prog 39 #[zv zA s, .int .i64 2] w fun e w' => e = .returned (.int .i64 2) ∧ Below w.heap.size w w' := by
  have := unusable_ok zA s LB 2 w zA_ok LB_valid h (by omega); rwa [LB_unus] at this

/-- a zone that lies in a variable of the call's own, read as lists -/
structure Var (w : World) (B : Nat) (z : Zh) (s : Nat → Value) (L : FL) : Prop where
  box : boxed w B z s
  rd : rdZ w s L
theorem Var.below {w w' : World} {B : Nat} {z : Zh} {s : Nat → Value} {L : FL} (h : Var w B z s L) (hb : Below w.heap.size w w') : Var w' B z s L := ⟨(hb.block B (lt_of_block h.box)).trans h.box, h.rd.below hb⟩
theorem Var.made {w w' : World} {A : Obj} {z : Zh} {s : Nat → Value} {L : FL} (hr : rdZ w s L) (hx : boxed w' w.heap.size z s) (hk : Keeps (· = w.heap.size) (w.alloc A) w') : Var w' w.heap.size z s L ∧ Below w.heap.size w w' := by
  have hb : Below w.heap.size w w' := ((Below.refl _ w).alloc (Nat.le_refl _) _).trans (hk.to_below (by simp) fun k hk => by omega)
  exact ⟨⟨hx, hr.below hb⟩, hb⟩
theorem rd_one {w : World} {v : Value} {x : Int} (h : Go.Proofs.Ytcmmoemmlellbaa.rd w v [x]) : ∃ b o c, v = .slice (some ⟨b, o, none⟩) 1 c ∧ w.cell? ⟨b, o, none⟩ = some (.int .i64 x) := by
  rcases h with ⟨h, _⟩ | ⟨b, o, c, rfl, _, _, _, hc⟩
  · cases h
  · exact ⟨b, o, c, rfl, by have := hc 0 (by simp); simpa using this⟩

/-- five values as a function -/
def mk5 (v0 v1 v2 v3 v4 : Value) : Nat → Value
  | 0 => v0 | 1 => v1 | 2 => v2 | 3 => v3 | _ => v4
theorem rdZ.mk5 {w : World} {s : Nat → Value} {L : FL} (h : rdZ w s L) {v0 v1 v2 v3 v4 : Value} (h0 : s 0 = v0) (h1 : s 1 = v1) (h2 : s 2 = v2) (h3 : s 3 = v3) (h4 : s 4 = v4) : rdZ w (mk5 v0 v1 v2 v3 v4) L :=
  five (by show rd w v0 _; rw [← h0]; exact h 0 (by omega)) (by show rd w v1 _; rw [← h1]; exact h 1 (by omega)) (by show rd w v2 _; rw [← h2]; exact h 2 (by omega)) (by show rd w v3 _; rw [← h3]; exact h 3 (by omega)) (by show rd w v4 _; rw [← h4]; exact h 4 (by omega))

set_option maxRecDepth 100000 in
set_option maxHeartbeats 2000000 in
theorem awake_any (w : World) : Calls Try.prog 14 #[] w fun e w' => e = .returned (.bool true) ∧ Below w.heap.size w w' := by
  go_enter Try.func14, Try.ntmps14
  go_upto_region 2 with (first | (go_at_call 18; with_reducible refine (aw_new _).mono ?_; rintro e w1 ⟨sA, rfl, hrA, hslA, hb1⟩; have HRA := Lib.hid hrA; clear hrA) | (refine store_zone rfl (.tmp 1) (.tmp 8) rfl w1.heap.size z0 nilS zA sA rfl rfl (heap_alloc_new w1 _) hslA ?_; intro w2 hbx2 hk2))
  obtain ⟨hv2, hb2⟩ := Var.made HRA.out hbx2 hk2
  clear hbx2 hk2
  obtain ⟨b4, o4, c4, e4, _⟩ := rd_one (x := 0) (by have := hv2.rd 4 (by omega); rwa [LA_4] at this)
  obtain ⟨b2, o2, c2, e2, hc2⟩ := rd_one (x := 16) (by have := hv2.rd 2 (by omega); rwa [LA_2] at this)
  obtain ⟨d0, d1, d2, d3, d4, d5, d6, d7, d8, d9⟩ := boxed.head hv2.box
  rw [e2] at d7
  rw [e4] at d9
  have HB2 : Hid (Below w.heap.size w w2) := hb1.trans (hb2.mono hb1.size)
  have HV2 : Hid (Var w2 w1.heap.size zA (mk5 (sA 0) (sA 1) (.slice (some ⟨b2, o2, none⟩) 1 c2) (sA 3) (.slice (some ⟨b4, o4, none⟩) 1 c4)) LA) :=
    ⟨by have h := hv2.box; unfold boxed at h ⊢; rw [e2, e4] at h; exact h, hv2.rd.mk5 rfl rfl e2 rfl e4⟩
  clear hb1 hb2 hv2 e4 e2
  go_upto_region 4 with (go_at_call 16; refine (check_ok zA _ LA _ zA_ok LA_valid HV2.out.rd).mono ?_; rintro e w3 ⟨rfl, hb3⟩)
  have HV3 := Lib.hid (HV2.out.below hb3)
  have HB3 : Hid (Below w.heap.size w w3) := HB2.out.trans (hb3.mono HB2.out.size)
  clear hb3 d0 d1 d2 d3 d4 d5 d6 d7 d8 d9 hc2
  go_upto_region 5 with (first | (refine load_zone rfl (.tmp 1) rfl w1.heap.size zA _ rfl HV3.out.box ?_) | (go_at_call 21; refine (aw_alloc _ _ HV3.out.rd).mono ?_; rintro e w4 ⟨sB, rfl, hrB, hslB, hb4⟩; have HRB := Lib.hid hrB; clear hrB) | (refine store_zone rfl (.tmp 3) (.tmp 42) rfl w4.heap.size z0 nilS zA sB rfl rfl (heap_alloc_new w4 _) hslB ?_; intro w5 hbx5 hk5))
  obtain ⟨hv5, hb5⟩ := Var.made HRB.out hbx5 hk5
  clear hbx5 hk5
  obtain ⟨b1, o1, c1, e1, hc1⟩ := rd_one (x := 18) (by have := hv5.rd 1 (by omega); rwa [LB_1] at this)
  obtain ⟨d0, d1, d2, d3, d4, d5, d6, d7, d8, d9⟩ := boxed.head hv5.box
  rw [e1] at d6
  have HV5 : Hid (Var w5 w4.heap.size zA (mk5 (sB 0) (.slice (some ⟨b1, o1, none⟩) 1 c1) (sB 2) (sB 3) (sB 4)) LB) :=
    ⟨by have h := hv5.box; unfold boxed at h ⊢; rw [e1] at h; exact h, hv5.rd.mk5 rfl e1 rfl rfl rfl⟩
  have hb45 : Below w3.heap.size w3 w5 := hb4.trans (hb5.mono hb4.size)
  have HA5 := Lib.hid (HV3.out.below hb45)
  have HB5 : Hid (Below w.heap.size w w5) := HB3.out.trans (hb45.mono HB3.out.size)
  clear hb4 hb5 hv5 e1 hb45
  go_upto_region 7 with (first | (go_at_call 35; refine (aw_count _ _ HV5.out.rd).mono ?_; rintro e w6 ⟨rfl, hb6⟩; have HV6 := Lib.hid (HV5.out.below hb6); obtain ⟨f0, f1, f2, f3, f4, f5, f6, f7, f8, f9⟩ := boxed.head HV6.out.box) | (go_at_call_of 26 (Value.int IntKind.i64 17); refine (aw_17 _ _ HV6.out.rd).mono ?_; rintro e w7 ⟨rfl, hb7⟩; have HV7 := Lib.hid (HV6.out.below hb7); obtain ⟨g0, g1, g2, g3, g4, g5, g6, g7, g8, g9⟩ := boxed.head HV7.out.box) | (go_at_call_of 26 (Value.int IntKind.i64 18); refine (aw_18 _ _ HV7.out.rd).mono ?_; rintro e w8 ⟨rfl, hb8⟩))
  have hb58 : Below w5.heap.size w5 w8 := (hb6.trans (hb7.mono hb6.size)).trans (hb8.mono (Nat.le_trans hb6.size hb7.size))
  have HV8 := Lib.hid (HV5.out.below hb58)
  have HA8 := Lib.hid (HA5.out.below hb58)
  have HB8 : Hid (Below w.heap.size w w8) := HB5.out.trans (hb58.mono HB5.out.size)
  clear hb6 hb7 hb8 hb58 d0 d1 d2 d3 d4 d5 d6 d7 d8 d9 f0 f1 f2 f3 f4 f5 f6 f7 f8 f9 g0 g1 g2 g3 g4 g5 g6 g7 g8 g9 hc1
  go_upto_region 8 with (first | (refine load_zone rfl (.tmp 3) rfl w4.heap.size zA _ rfl HV8.out.box ?_) | (go_at_call 23; refine (aw_free _ _ HV8.out.rd).mono ?_; rintro e w9 ⟨sC, rfl, hrC, hslC, hb9⟩; have HRC := Lib.hid hrC; clear hrC) | (refine store_zone rfl (.tmp 5) (.tmp 83) rfl w9.heap.size z0 nilS zA sC rfl rfl (heap_alloc_new w9 _) hslC ?_; intro wa hbxa hka))
  obtain ⟨hva, hba⟩ := Var.made HRC.out hbxa hka
  clear hbxa hka
  have hb8a : Below w8.heap.size w8 wa := hb9.trans (hba.mono hb9.size)
  have HVa := Lib.hid (HV8.out.below hb8a)
  have HAa := Lib.hid (HA8.out.below hb8a)
  have HCa := Lib.hid hva
  have HBa : Hid (Below w.heap.size w wa) := HB8.out.trans (hb8a.mono HB8.out.size)
  clear hb9 hba hva hb8a
  obtain ⟨d0, d1, d2, d3, d4, d5, d6, d7, d8, d9⟩ := boxed.head HCa.out.box
  obtain ⟨x0, x1, x2, x3, x4, x5, x6, x7, x8, x9⟩ := boxed.head HAa.out.box
  go_wp2_with (first | (go_at_call 20; refine (aw_same _ _ _ HCa.out.rd HAa.out.rd).mono ?_; rintro e wb ⟨rfl, hbb⟩; have HCb := Lib.hid (HCa.out.below hbb); have HVb := Lib.hid (HVa.out.below hbb); obtain ⟨f0, f1, f2, f3, f4, f5, f6, f7, f8, f9⟩ := boxed.head HCb.out.box) | (go_at_call 37; refine (aw_larg _ _ HCb.out.rd).mono ?_; rintro e wd ⟨rfl, hbd⟩; have HVd := Lib.hid (HVb.out.below hbd); obtain ⟨g0, g1, g2, g3, g4, g5, g6, g7, g8, g9⟩ := boxed.head HVd.out.box) | (go_at_call 39; refine (aw_unus _ _ HVd.out.rd).mono ?_; rintro e we ⟨rfl, hbe⟩))
  go_ret
  exact ⟨rfl, ((HBa.out.trans (hbb.mono HBa.out.size)).trans (hbd.mono (Nat.le_trans HBa.out.size hbb.size))).trans (hbe.mono (Nat.le_trans HBa.out.size (Nat.le_trans hbb.size hbd.size)))⟩
end Go.Proofs.Ytcmmoemmlellbaa
