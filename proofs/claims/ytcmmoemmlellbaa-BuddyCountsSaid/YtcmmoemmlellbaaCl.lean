/- clone: a zone's lists copied into memory of the call's own. Conditions: the lists are short. -/
import Derived.Test.YtcmmoemmlellbaaNew
import Derived.Test.YtcmmoemmlellbaaChk
namespace Go.Proofs.Ytcmmoemmlellbaa
open Go.RowKit

theorem clone_at (v : Value) (xs : List Int) (w : World) (h : rd w v xs) (hl : xs.length ≤ 100000) :
    Calls Try.prog 59 #[v] w fun e w' => ∃ a n c g, e = .returned (.slice a n c) ∧ own w' w.heap.size g (.slice a n c) xs ∧ Below w.heap.size w w' :=
  (clone_any v xs w h hl).mono fun e w' h => by
    obtain ⟨v', g, rfl, ho, hb⟩ := h
    obtain ⟨a, n, c, rfl⟩ := ho.form
    exact ⟨a, n, c, g, rfl, ho, hb⟩

/-- the copies of a zone's lists: each in memory of its own from base on, apart from one another -/
structure Own5 (w : World) (base : Nat) (s : Nat → Value) (L : FL) (g : Nat → Option Nat) : Prop where
  own : ∀ k, k ≤ 4 → own w base (g k) (s k) (L k)
  apart : ∀ j k, j ≤ 4 → k ≤ 4 → j ≠ k → ∀ b, g j = some b → g k ≠ some b

theorem Own5.box {w w' : World} {base B : Nat} {z : Zh} {s : Nat → Value} {L : FL} {g : Nat → Option Nat} (h : Own5 w base s L g) (hb : Below w.heap.size w w') (hx : boxed w' B z s) (hB : w.heap.size ≤ B) (hbase : base ≤ B) : ZS w' base B z s L g :=
  ⟨hx, hbase, fun k hk => (h.own k hk).keeps (P := fun _ => False) (Keeps.of_below hb) (fun _ _ => id), h.apart, fun k hk e => by have := h.own k hk; rw [e] at this; have := this.lt; omega⟩
theorem Own5.slices {w : World} {base : Nat} {s : Nat → Value} {L : FL} {g : Nat → Option Nat} (h : Own5 w base s L g) : slices s := fun k hk => (h.own k hk).form
theorem Own5.lower {w : World} {base base' : Nat} {s : Nat → Value} {L : FL} {g : Nat → Option Nat} (h : Own5 w base s L g) (hb : base' ≤ base) : Own5 w base' s L g := ⟨fun k hk => (h.own k hk).base_le hb, h.apart⟩

theorem below_box {w w1 : World} {A C : Obj} (h : Below ((w.alloc A).alloc C).heap.size ((w.alloc A).alloc C) w1) : Below w.heap.size w w1 := (below_two w A C).trans (h.mono (by rw [size_two]; omega))

/-- the first i lists are copied -/
structure Part (w0 w : World) (B : Nat) (z : Zh) (s s' : Nat → Value) (L : FL) (g : Nat → Option Nat) (i : Nat) : Prop where
  box : boxed w B z s'
  old : ∀ j, i ≤ j → j ≤ 4 → s' j = s j
  own : ∀ j, j < i → Go.Proofs.Ytcmmoemmlellbaa.own w w0.heap.size (g j) (s' j) (L j)
  apart : ∀ j k, j < i → k < i → j ≠ k → ∀ b, g j = some b → g k ≠ some b
  far : ∀ j b, j < i → g j = some b → B + 2 ≤ b
  res : boxed w (B + 1) z0 nilS
  size : B + 2 ≤ w.heap.size
  below : Below w0.heap.size w0 w

theorem Part.step {w0 w w2 : World} {B : Nat} {z : Zh} {s s' : Nat → Value} {L : FL} {g : Nat → Option Nat} {i : Nat} (h : Part w0 w B z s s' L g i) (hi : i ≤ 4) (hB : w0.heap.size ≤ B) {v : Value} {g2 : Option Nat}
    (ho : Go.Proofs.Ytcmmoemmlellbaa.own w2 w.heap.size g2 v (L i)) (hb : Below w.heap.size w w2) : Part w0 (w2.setCell ⟨B, 5 + i, none⟩ v) B z s (updV s' i v) L (updG g i g2) (i + 1) := by
  have hBlt := lt_of_block h.box
  have hbox2 := (hb.block B hBlt).trans h.box
  have hset : Keeps (· = B) w2 (w2.setCell ⟨B, 5 + i, none⟩ v) := ⟨rfl, rfl, rfl, by simp [World.setCell], fun j _ hp => Below.heap_setCell w2 ⟨B, 5 + i, none⟩ v j hp⟩
  have hnew : ∀ b, g2 = some b → w.heap.size ≤ b := fun b e => by rw [e] at ho; exact ho.lt.1
  refine ⟨?_, ?_, ?_, ?_, ?_, ?_, ?_, ?_⟩
  · unfold boxed; rw [heap_setCell_at hbox2, five_cells _ _ _ _ _ _ _ i hi]
  · intro j hj hj4; simp only [updV, if_neg (show j ≠ i by omega)]; exact h.old j (by omega) hj4
  · intro j hj
    by_cases e : j = i
    · subst e; simp only [updV, updG, if_true]
      exact (ho.base_le (Nat.le_trans (by have := h.below.size; exact this) (Nat.le_refl _))).keeps hset fun b hb' e => by have := hnew b hb'; omega
    · simp only [updV, updG, if_neg e]
      refine ((h.own j (by omega)).keeps (P := fun _ => False) (Keeps.of_below hb) (fun _ _ => id)).keeps hset fun b hb' e' => by have := h.far j b (by omega) hb'; omega
  · intro j k hj hk hjk b hb'
    simp only [updG] at *
    by_cases e : j = i
    · subst e; rw [if_pos rfl] at hb'; rw [if_neg (Ne.symm hjk)]
      intro h3; have h4 := h.own k (by omega); rw [h3] at h4; have := h4.lt; have := hnew b hb'; omega
    · rw [if_neg e] at hb'
      by_cases e2 : k = i
      · subst e2; rw [if_pos rfl]
        intro h3; have h4 := h.own j (by omega); rw [hb'] at h4; have := h4.lt; have := hnew b h3; omega
      · rw [if_neg e2]; exact h.apart j k (by omega) (by omega) hjk b hb'
  · intro j b hj hb'
    simp only [updG] at hb'
    by_cases e : j = i
    · rw [if_pos e] at hb'; have := hnew b hb'; have := h.size; omega
    · rw [if_neg e] at hb'; exact h.far j b (by omega) hb'
  · exact (hset.block (B + 1) (by have := hb.size; have := h.size; omega) (by omega)).trans ((hb.block (B + 1) (by have := h.size; omega)).trans h.res)
  · have := hset.size; have := hb.size; have := h.size; omega
  · exact (h.below.trans (hb.mono h.below.size)).trans (hset.to_below (by have := hb.size; have := h.below.size; omega) fun k hk e => by omega)

set_option maxRecDepth 100000 in
set_option maxHeartbeats 2000000 in
theorem clone_zone (z : Zh) (s : Nat → Value) (L : FL) (w : World) (hrd : rdZ w s L) (hl : ∀ k, k ≤ 4 → (L k).length ≤ 100000) :
    Calls Try.prog 50 #[zv z s] w fun e w' => ∃ s' g, e = .returned (zv z s') ∧ Own5 w' w.heap.size s' L g ∧ Below w.heap.size w w' := by
  have HR := Lib.hid hrd; clear hrd
  have HL := Lib.hid hl; clear hl
  go_enter Try.func50, Try.ntmps50
  go_upto_block 0 with (fail)
  have H0 : Part w ((w.alloc (.cells #[.int .i64 z.nd, .int .i64 z.kd, .int .i64 z.st, .int .i64 z.ct, .int .i64 z.mn, s 0, s 1, s 2, s 3, s 4] 25)).alloc (.cells #[.int .i64 0, .int .i64 0, .int .i64 0, .int .i64 0, .int .i64 0, .slice none 0 0, .slice none 0 0, .slice none 0 0, .slice none 0 0, .slice none 0 0] 25)) w.heap.size z s s L (fun _ => none) 0 :=
    ⟨heap_alloc2_old w _ _, fun _ _ _ => rfl, fun j hj => by omega, fun j k hj => by omega, fun j b hj => by omega, heap_alloc2_new w _ _, by rw [size_two]; omega, below_two w _ _⟩
  have HP := Lib.hid H0; clear H0
  go_wp2_with fail
  go_loopg [4] 5 (fun n s4 wr => ∃ (i : Nat) (s' : Nat → Value) (g : Nat → Option Nat), s4 = .int .i64 i ∧ i ≤ 5 ∧ Hid (n = 5 - i) ∧ Hid (Part w wr w.heap.size z s s' L g i))
  case atStart => exact ⟨0, s, fun _ => none, rfl, by omega, rfl, HP.out⟩
  case round =>
    obtain ⟨i, s', g, rfl, hi, hn, hp⟩ := hrel
    by_cases hi5 : i < 5
    · have hi4 : i ≤ 4 := by omega
      have hfl := box_field hp.out.box i hi4
      rw [hp.out.old i (Nat.le_refl _) hi4] at hfl
      have hrd : rd wr (s i) (L i) := (HR.out i hi4).below hp.out.below
      have HRD := Lib.hid hrd; clear hrd
      have hli := HL.out i hi4
      have hi5' : (i : Int) < 5 := by omega
      go_wp2_with (go_at_call 59; with_reducible refine (clone_at (s i) (L i) wr HRD.out hli).mono ?_; rintro e w2 ⟨a2, n2, c2, g2, rfl, ho2, hb2⟩; have hbx2 := (hb2.block _ (lt_of_block hp.out.box)).trans hp.out.box; have hc2 := box_field hbx2 i hi4; have hf2 : w2.frozen? ⟨w.heap.size, 5 + i, none⟩ = false := frozen_of_block hbx2 _; clear hbx2)
      have HS := Lib.hid (hp.out.step hi4 (Nat.le_refl _) ho2 hb2)
      go_roundg (5 - (i + 1))
      case rel => exact ⟨i + 1, _, _, by go_num, by omega, rfl, HS.out⟩
      case measure => have := hn.out; omega
    · have h5 : Hid (i = 5) := (show i = 5 by omega)
      have hbx := hp.out.box
      have hres := hp.out.res
      have hO : Own5 wr w.heap.size s' L g := ⟨fun k hk => hp.out.own k (by have := h5.out; omega), fun j k hj hk => hp.out.apart j k (by have := h5.out; omega) (by have := h5.out; omega)⟩
      have HO := Lib.hid hO; clear hO
      have hsl := HO.out.slices
      go_wp2_with (first | (refine load_zone rfl (.tmp 1) rfl w.heap.size z s' rfl hbx ?_) | (refine store_zone rfl (.tmp 2) (.tmp 16) rfl (w.heap.size + 1) z0 nilS z s' rfl rfl hres hsl ?_; intro w3 hbx3 hk3))
      refine bodyPost_ret (results_zone rfl _ _ (w.heap.size + 1) z s' rfl hbx3) rfl ⟨s', g, rfl, ⟨fun k hk => (HO.out.own k hk).keeps hk3 fun b hb e => ?_, HO.out.apart⟩, hp.out.below.trans (hk3.to_below hp.out.below.size fun k hk => by omega)⟩
      have := hp.out.far k b (by have := h5.out; omega) hb; omega

end Go.Proofs.Ytcmmoemmlellbaa
