/- New: the frames of a zone are put back one by one. Conditions: the numbers fit. -/
import Derived.Test.YtcmmoemmlellbaaPut
namespace Go.Proofs.Ytcmmoemmlellbaa
open Go.RowKit

/-- two new blocks -/
theorem below_two (w : World) (A B : Obj) : Below w.heap.size w ((w.alloc A).alloc B) := ((Below.refl _ w).alloc (Nat.le_refl _) _).alloc (by simp) _
theorem size_two (w : World) (A B : Obj) : ((w.alloc A).alloc B).heap.size = w.heap.size + 2 := by simp

set_option maxRecDepth 100000 in
set_option maxHeartbeats 1000000 in
theorem new_bad (z : Zh) (w : World) (hz : z.fits) (hb : z.ok = false) :
    Calls Try.prog 18 #[.int .i64 z.nd, .int .i64 z.kd, .int .i64 z.st, .int .i64 z.ct, .int .i64 z.mn] w fun e w' => e = .returned (.tuple #[zv z0 nilS, .int .i64 2]) ∧ Below w.heap.size w w' := by
  go_enter Try.func18, Try.ntmps18
  go_upto_region 3 with (go_at_call 41; refine (ranges_any z nilS _ hz).mono ?_; rintro e w1 ⟨rfl, hb1⟩)
  have hbox : boxed w1 w.heap.size z0 nilS := (hb1.block w.heap.size (by rw [size_two]; omega)).trans (heap_alloc2_old w _ _)
  have hbel := (below_two w _ _).trans (hb1.mono (by rw [size_two]; omega))
  clear hb1
  go_wp2_with (refine store_zone rfl (.tmp 10) (.tmp 23) rfl w.heap.size z0 nilS z0 nilS rfl rfl hbox slices_nil ?_; intro w2 hbx2 hk2)
  exact bodyPost_ret (results_zone2 rfl _ _ w.heap.size z0 nilS rfl hbx2) rfl ⟨rfl, hbel.trans (hk2.to_below hbel.size fun k hk => by omega)⟩

theorem put_zero (z : Zh) (s : Nat → Value) (L : FL) (g : Nat → Option Nat) (f : Int) (w : World) (base B : Nat) (hz : z.ok = true) (hs : ZS w base B z s L g) (hbase : base ≤ w.heap.size) (v : Valid z L)
    (hi : insB z f 0 = true) (hd : ¬ free L f) :
    Calls Try.prog 48 #[.pointer (some ⟨B, 0, none⟩), .int .i64 f, .int .i64 0] w fun e w' => e = .returned (.tuple #[]) ∧ ∃ s' g', ZS w' base B z s' (putM z 4 L f 0) g' ∧ Below base w w' :=
  put_any z s L g f 0 w base B hz hs hbase v (by omega) hi (fun x hx => by rw [inBlk_zero.1 hx]; exact hd)

theorem ZS.rdZ {w : World} {base B : Nat} {z : Zh} {s : Nat → Value} {L : FL} {g : Nat → Option Nat} (h : ZS w base B z s L g) : rdZ w s L := fun k hk => (h.own k hk).rd
/-- the five slices read as the lists and lie in blocks from base on -/
def farZ (w : World) (base : Nat) (s : Nat → Value) (L : FL) : Prop := ∀ k, k ≤ 4 → ∃ g, Go.Proofs.Ytcmmoemmlellbaa.own w base g (s k) (L k)
theorem farZ.rdZ {w : World} {base : Nat} {s : Nat → Value} {L : FL} (h : farZ w base s L) : rdZ w s L := fun k hk => by obtain ⟨g, hg⟩ := h k hk; exact hg.rd
theorem ZS.far {w : World} {base base' B : Nat} {z : Zh} {s : Nat → Value} {L : FL} {g : Nat → Option Nat} (h : ZS w base B z s L g) (hb : base' ≤ base) : farZ w base' s L := fun k hk => ⟨_, (h.own k hk).base_le hb⟩
theorem ZS.slices {w : World} {base B : Nat} {z : Zh} {s : Nat → Value} {L : FL} {g : Nat → Option Nat} (h : ZS w base B z s L g) : slices s := fun k hk => (h.own k hk).form
theorem ZS.nil {w : World} {base B : Nat} {z : Zh} (h : boxed w B z nilS) (hb : base ≤ B) : ZS w base B z nilS (fun _ => []) (fun _ => none) :=
  ⟨h, hb, fun _ _ => ⟨rfl, _, rfl⟩, by simp, by simp⟩
theorem ZS.keeps {P : Nat → Prop} {w w' : World} {base B : Nat} {z : Zh} {s : Nat → Value} {L : FL} {g : Nat → Option Nat} (h : ZS w base B z s L g) (hk : Keeps P w w') (hP : ∀ k, base ≤ k → ¬ P k) : ZS w' base B z s L g :=
  ⟨(hk.block B (lt_of_block h.box) (hP B h.lo)).trans h.box, h.lo, fun k hk' => (h.own k hk').keeps hk fun b hb => hP b (by have := h.own k hk'; rw [hb] at this; exact this.lt.1), h.apart, h.notB⟩

set_option maxRecDepth 100000 in
set_option maxHeartbeats 2000000 in
theorem new_far (z : Zh) (w : World) (hz : z.fits) (hok : z.ok = true) :
    Calls Try.prog 18 #[.int .i64 z.nd, .int .i64 z.kd, .int .i64 z.st, .int .i64 z.ct, .int .i64 z.mn] w fun e w' => ∃ s, e = .returned (.tuple #[zv z s, .int .i64 0]) ∧ farZ w' w.heap.size s (newK z z.ct.toNat) ∧ slices s ∧ Below w.heap.size w w' := by
  have HZ := Lib.hid hz; clear hz
  have hzz := Zh.ok_iff.1 hok
  have hb1 : 0 ≤ z.st := by omega
  have hb2 : z.st ≤ 255 := by omega
  have hb3 : 1 ≤ z.ct := by omega
  have hb4 : z.st + z.ct ≤ 256 := by omega
  clear hzz
  go_enter Try.func18, Try.ntmps18
  go_upto_region 4 with (go_at_call 41; refine (ranges_any z nilS _ HZ.out).mono ?_; rintro e w1 ⟨rfl, hb1⟩)
  have hbox : boxed w1 w.heap.size z0 nilS := (hb1.block w.heap.size (by rw [size_two]; omega)).trans (heap_alloc2_old w _ _)
  have hbox2 : boxed w1 (w.heap.size + 1) z nilS := (hb1.block (w.heap.size + 1) (by rw [size_two]; omega)).trans (heap_alloc2_new w _ _)
  have hsz : w.heap.size + 2 ≤ w1.heap.size := Nat.le_trans (by rw [size_two]; omega) hb1.size
  have hbel := (below_two w _ _).trans (hb1.mono (by rw [size_two]; omega))
  clear hb1
  have H0 := Lib.hid hbox; clear hbox
  have H1 := Lib.hid hbox2; clear hbox2
  go_wp2_with fail
  go_loopg [13] z.ct.toNat (fun n s13 wr => ∃ (m : Nat) (s' : Nat → Value) (g' : Nat → Option Nat), s13 = .int .i64 (z.st + m) ∧ (m : Int) ≤ z.ct ∧ Hid (n = z.ct.toNat - m) ∧ Hid (ZS wr (w.heap.size + 1) (w.heap.size + 1) z s' (newK z m) g') ∧ Hid (boxed wr w.heap.size z0 nilS) ∧ w.heap.size + 2 ≤ wr.heap.size ∧ Below w.heap.size w wr)
  case atStart => exact ⟨0, nilS, fun _ => none, by simp, by omega, rfl, ZS.nil H1.out (Nat.le_refl _), H0.out, hsz, hbel⟩
  case round =>
    obtain ⟨m, s', g', rfl, hm, hn, hzs, hbx, hsz', hbl⟩ := hrel
    have hv := newK_valid z m hm
    have HV := Lib.hid hv; clear hv
    by_cases hlt : (m : Int) < z.ct
    · go_wp2_with (go_at_call 48; refine (put_zero z s' (newK z m) g' (z.st + m) wr (w.heap.size + 1) (w.heap.size + 1) hok hzs.out (by omega) HV.out.1 (insB_zero.2 ⟨by omega, by omega⟩) (by rw [HV.out.2]; omega)).mono ?_; rintro e w2 ⟨rfl, s2, g2, hz2, hb2⟩; have HZ2 := Lib.hid hz2; clear hz2)
      go_roundg (z.ct.toNat - (m + 1))
      case rel => exact ⟨m + 1, s2, g2, by go_num, by omega, rfl, HZ2.out, (hb2.block w.heap.size (by omega)).trans hbx.out, Nat.le_trans hsz' hb2.size, hbl.trans (hb2.mono (by omega))⟩
      case measure => have := hn.out; omega
    · have hbx' := hbx.out
      have hbx2 := hzs.out.box
      have hm' : Hid (m = z.ct.toNat) := (show m = z.ct.toNat by omega)
      have hsl := hzs.out.slices
      clear hm
      go_wp2_with (first | (refine load_zone rfl (.tmp 12) rfl (w.heap.size + 1) z s' rfl hbx2 ?_) | (refine store_zone rfl (.tmp 10) (.tmp 34) rfl w.heap.size z0 nilS z s' rfl rfl hbx' hsl ?_; intro w3 hbx3 hk3))
      have hz3 := hzs.out.keeps hk3 (fun k hk hk' => by omega)
      refine bodyPost_ret (results_zone2 rfl _ _ w.heap.size z s' rfl hbx3) rfl ⟨s', rfl, ?_, hsl, hbl.trans (hk3.to_below (by omega) fun k hk => by omega)⟩
      rw [← hm'.out]
      exact hz3.far (by omega)

theorem new_ok (z : Zh) (w : World) (hz : z.fits) (hok : z.ok = true) :
    Calls Try.prog 18 #[.int .i64 z.nd, .int .i64 z.kd, .int .i64 z.st, .int .i64 z.ct, .int .i64 z.mn] w fun e w' => ∃ s, e = .returned (.tuple #[zv z s, .int .i64 0]) ∧ rdZ w' s (newK z z.ct.toNat) ∧ slices s ∧ Below w.heap.size w w' :=
  (new_far z w hz hok).mono fun e w' ⟨s, h1, h2, h3⟩ => ⟨s, h1, h2.rdZ, h3⟩
end Go.Proofs.Ytcmmoemmlellbaa
