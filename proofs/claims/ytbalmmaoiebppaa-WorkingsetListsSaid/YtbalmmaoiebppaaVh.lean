/- The record of evictions and the two lists of the program: walked. Conditions: the numbers fit. -/
import Derived.Test.YtbalmmaoiebppaaVq
import Derived.StillTailTactics
import Derived.Deep.RegionLaw
import Derived.Maps.OwnOps
namespace Go.Proofs.Ytbalmmaoiebppaa
open Go.RowKit

theorem setCell_keeps (w : World) (b j : Nat) (v : Value) : Keeps (· = b) w (w.setCell ⟨b, j, none⟩ v) := ⟨rfl, rfl, rfl, by simp [World.setCell], fun k _ hp => Below.heap_setCell w ⟨b, j, none⟩ v k hp⟩

set_option maxHeartbeats 1000000 in
theorem hdist_any (w : World) (base bx bm n : Nat) (gone : List Int) (p : Int) (h : hist w base bx bm n gone) (hp : fits p) (hl : gone.length ≤ 100000) :
    Calls Try.prog 25 #[.pointer (some ⟨bx, 0, none⟩), .int .i64 p] w fun e w' => e = .returned (.int .i64 (dst gone p)) ∧ w' = w := by
  have c0 : w.cell? ⟨bx, 0, none⟩ = some (.int .i64 (gone.length : Nat)) := by rw [cell_of_block h.box]; simp
  have c1 : w.cell? ⟨bx, 1, none⟩ = some (.map (some bm)) := by rw [cell_of_block h.box]; simp
  have HM := Lib.hid h.map
  cases hk : lst gone p with
  | none =>
    have HD : Hid (dst gone p = -2) := by show _ = _; unfold dst; rw [hk]
    have HK := Lib.hid hk
    clear hk h
    go_enter Try.func25, Try.ntmps25
    go_wp2_with (at_lookup; refine wpList_getI rfl _ _ rfl bm n _ rfl HM.out _ rfl hp ?_; rw [HK.out])
    go_ret
    exact ⟨ret_int HD.out.symm, rfl⟩
  | some v =>
    have HD : Hid (dst gone p = (gone.length : Nat) - v) := by show _ = _; unfold dst; rw [hk]
    have HK := Lib.hid hk
    have hr := lst_range hk
    clear hk h
    go_enter Try.func25, Try.ntmps25
    go_wp2_with (at_lookup; refine wpList_getI rfl _ _ rfl bm n _ rfl HM.out _ rfl hp ?_; rw [HK.out])
    go_ret
    exact ⟨ret_int HD.out.symm, rfl⟩

set_option maxHeartbeats 1000000 in
theorem hevict_any (w : World) (base bx bm n : Nat) (gone : List Int) (p : Int) (h : hist w base bx bm n gone) (hp : fits p) (hl : gone.length < 50000) (hn : n < 50000) :
    Calls Try.prog 26 #[.pointer (some ⟨bx, 0, none⟩), .int .i64 p] w fun e w' => e = .returned (.tuple #[]) ∧ hist w' base bx bm (n + 1) (gone ++ [p]) ∧ Keeps (fun k => k = bx ∨ k = bm) w w' := by
  have c0 : w.cell? ⟨bx, 0, none⟩ = some (.int .i64 (gone.length : Nat)) := by rw [cell_of_block h.box]; simp
  have f0 : w.frozen? ⟨bx, 0, none⟩ = false := frozen_of_block h.box _
  have HH := Lib.hid h; clear h
  go_enter Try.func26, Try.ntmps26
  go_upto_region 1 with fail
  obtain ⟨w1, hw1⟩ : ∃ w1, w1 = w.setCell ⟨bx, 0, none⟩ (.int .i64 ((gone.length : Int) + 1)) := ⟨_, rfl⟩
  have hk1 : Keeps (· = bx) w w1 := by rw [hw1]; exact setCell_keeps _ _ _ _
  have hb1 : w1.heap[bx]? = some (.cells #[.int .i64 ((gone.length : Int) + 1), .map (some bm)] 47 (0, 0)) := by
    rw [hw1, heap_setCell_at HH.out.box]; simp
  have HM : Hid (mapI w1 bm n (lst gone)) := HH.out.map.keeps hk1 fun e => HH.out.ne e.symm
  have c0' : w1.cell? ⟨bx, 0, none⟩ = some (.int .i64 ((gone.length : Int) + 1)) := by rw [cell_of_block hb1]; simp
  have c1' : w1.cell? ⟨bx, 1, none⟩ = some (.map (some bm)) := by rw [cell_of_block hb1]; simp
  have HB := Lib.hid hb1; clear hb1 c0 f0
  rw [← hw1]
  clear hw1
  go_still_tail 9, (by kernel_rfl)
  change wpList _ _ _ _ _ w1.drew
  have HM' : Hid (mapI w1.drew bm n (lst gone)) := HM.out
  have hk2 : Keeps (· = bx) w w1.drew := ⟨hk1.os, hk1.tape, hk1.output, hk1.size, hk1.block⟩
  have HB' : Hid (w1.drew.heap[bx]? = some (.cells #[.int .i64 ((gone.length : Int) + 1), .map (some bm)] 47 (0, 0))) := HB.out
  generalize w1.drew = w2 at *
  have hy : fits ((gone.length : Int) + 1) := by unfold fits; omega
  go_wp2_with (at_mapUpdate; refine wpList_setI rfl _ _ _ rfl bm n _ rfl HM'.out (by omega) _ _ rfl rfl hp hy ?_; intro w3 hm3 hk3)
  go_end0
  have hlst : (fun j => if j = p then some ((gone.length : Int) + 1) else lst gone j) = lst (gone ++ [p]) := by rw [lst_snoc]; funext j; simp
  rw [hlst] at hm3
  refine ⟨rfl, ⟨HH.out.hx, HH.out.hm, ?_, hm3⟩, (hk2.mono fun k _ hk => .inl hk).trans (hk3.mono fun k _ hk => .inr hk)⟩
  rw [hk3.block bx (lt_of_block HB'.out) fun e => HH.out.ne e, HB'.out]
  simp

/-- the cache with two lists: its box, its lists in blocks apart -/
structure lsts (w : World) (base bc : Nat) (vi va : Value) (gi ga : Option Nat) (I A : List Int) (bound : Int) : Prop where
  hc : base ≤ bc
  box : w.heap[bc]? = some (.cells #[vi, va, .int .i64 bound] 53 (0, 0))
  oi : own w base gi vi I
  oa : own w base ga va A
  apart : ∀ b, gi = some b → ga ≠ some b

theorem own.block {w : World} {base b : Nat} {v : Value} {xs : List Int} (h : own w base (some b) v xs) : ∃ C, w.heap[b]? = some (.cells C 3 (0, 0)) := by
  obtain ⟨_, o, c, C, _, _, _, hh, _⟩ := h; exact ⟨C, hh⟩
theorem own.ne_box {w : World} {base bc : Nat} {g : Option Nat} {v : Value} {xs : List Int} {C : Array Value} {t : TypeId} (h : own w base g v xs) (hb : w.heap[bc]? = some (.cells C t (0, 0))) (ht : t ≠ 3) : g ≠ some bc := by
  rintro rfl
  obtain ⟨C', h1⟩ := h.block
  rw [hb] at h1
  injection h1 with h1; injection h1 with _ h1; exact ht h1
theorem own.ne_map {w : World} {base bm : Nat} {g : Option Nat} {v : Value} {xs : List Int} {es : Array MapEntry} {c : Nat} (h : own w base g v xs) (hb : w.heap[bm]? = some (.map es c)) : g ≠ some bm := by
  rintro rfl
  obtain ⟨C', h1⟩ := h.block
  rw [hb] at h1
  injection h1 with h1; cases h1

section
variable {w w1 : World} {base bc : Nat} {vi va v : Value} {gi ga g : Option Nat} {I A xs : List Int} {bound : Int}
theorem lsts.nei (h : lsts w base bc vi va gi ga I A bound) : gi ≠ some bc := h.oi.ne_box h.box (by decide)
theorem lsts.nea (h : lsts w base bc vi va gi ga I A bound) : ga ≠ some bc := h.oa.ne_box h.box (by decide)
theorem lsts.keeps {P : Nat → Prop} (h : lsts w base bc vi va gi ga I A bound) (hk : Keeps P w w1) (h1 : ¬ P bc) (h2 : ∀ b, gi = some b → ¬ P b) (h3 : ∀ b, ga = some b → ¬ P b) : lsts w1 base bc vi va gi ga I A bound :=
  ⟨h.hc, (hk.block bc (lt_of_block h.box) h1).trans h.box, h.oi.keeps hk h2, h.oa.keeps hk h3, h.apart⟩
theorem lsts.below (h : lsts w base bc vi va gi ga I A bound) (hb : Below w.heap.size w w1) : lsts w1 base bc vi va gi ga I A bound := h.keeps (P := fun _ => False) (Keeps.of_below hb) id (fun _ _ => id) (fun _ _ => id)
theorem lsts.cells (h : lsts w base bc vi va gi ga I A bound) : w.cell? ⟨bc, 0, none⟩ = some vi ∧ w.cell? ⟨bc, 1, none⟩ = some va ∧ w.cell? ⟨bc, 2, none⟩ = some (.int .i64 bound) ∧ ∀ j, w.frozen? ⟨bc, j, none⟩ = false :=
  ⟨by rw [cell_of_block h.box]; simp, by rw [cell_of_block h.box]; simp, by rw [cell_of_block h.box]; simp, fun j => frozen_of_block h.box j⟩

theorem lsts.setA (h : lsts w base bc vi va gi ga I A bound) (hk : Keeps (fun k => ga = some k) w w1) (ho : own w1 base g v xs) (hg : ∀ b, g = some b → ga = some b ∨ w.heap.size ≤ b) :
    lsts (w1.setCell ⟨bc, 1, none⟩ v) base bc vi v gi g I xs bound ∧ Keeps (fun k => k = bc ∨ ga = some k) w (w1.setCell ⟨bc, 1, none⟩ v) := by
  have hbc := lt_of_block h.box
  have hb1 : w1.heap[bc]? = _ := (hk.block bc hbc fun e => h.nea e).trans h.box
  have hs := setCell_keeps w1 bc 1 v
  have hgb : g ≠ some bc := fun e => by rcases hg bc e with h1 | h1
                                        · exact h.nea h1
                                        · omega
  refine ⟨⟨h.hc, ?_, ((h.oi.keeps hk fun b hb => h.apart b hb).keeps hs fun b hb e => h.nei (e ▸ hb)), ho.keeps hs fun b hb e => hgb (e ▸ hb), fun b hb e => ?_⟩, (hk.mono fun k _ hk => .inr hk).trans (hs.mono fun k _ hk => .inl hk)⟩
  · rw [heap_setCell_at hb1]; simp
  · rcases hg b e with h1 | h1
    · exact h.apart b hb h1
    · have := h.oi; rw [hb] at this; have := this.lt; omega
theorem lsts.setI (h : lsts w base bc vi va gi ga I A bound) (hk : Keeps (fun k => gi = some k) w w1) (ho : own w1 base g v xs) (hg : ∀ b, g = some b → gi = some b ∨ w.heap.size ≤ b) :
    lsts (w1.setCell ⟨bc, 0, none⟩ v) base bc v va g ga xs A bound ∧ Keeps (fun k => k = bc ∨ gi = some k) w (w1.setCell ⟨bc, 0, none⟩ v) := by
  have hbc := lt_of_block h.box
  have hb1 : w1.heap[bc]? = _ := (hk.block bc hbc fun e => h.nei e).trans h.box
  have hs := setCell_keeps w1 bc 0 v
  have hgb : g ≠ some bc := fun e => by rcases hg bc e with h1 | h1
                                        · exact h.nei h1
                                        · omega
  refine ⟨⟨h.hc, ?_, ho.keeps hs fun b hb e => hgb (e ▸ hb), ((h.oa.keeps hk fun b hb e => h.apart b e hb).keeps hs fun b hb e => h.nea (e ▸ hb)), fun b hb e => ?_⟩, (hk.mono fun k _ hk => .inr hk).trans (hs.mono fun k _ hk => .inl hk)⟩
  · rw [heap_setCell_at hb1]; simp
  · rcases hg b hb with h1 | h1
    · exact h.apart b h1 e
    · have := h.oa; rw [e] at this; have := this.lt; omega
end
end Go.Proofs.Ytbalmmaoiebppaa
