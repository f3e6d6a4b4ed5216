/- The memory of the reference's with: its boxes, its row of what is left, and the lists it appends to. Conditions: none. -/
import Derived.Test.YtcmmoemmlellbaaRe
import Derived.Test.YtcmmoemmlellbaaPut
import Derived.Test.YtcmmoemmlellbaaNew
import Derived.Maps.AppendAt
namespace Go.Proofs.Ytcmmoemmlellbaa
open Go.RowKit

theorem ownsRow_keep {w w' : World} {base n : Nat} {e : TypeId} {v : Value} {xs : List Value} (h : w.ownsRow base e 1 v n xs) (hb : ∀ b, v.ownBlock = some b → w'.heap[b]? = w.heap[b]?) : w'.ownsRow base e 1 v n xs := by
  refine ⟨h.1, ?_⟩
  rcases h.2 with h0 | ⟨g, cap, cur, rfl, hg, hh, h1, h2, h3, h4⟩
  · exact .inl h0
  · exact .inr ⟨g, cap, cur, rfl, hg, (hb g rfl).trans hh, h1, h2, h3, h4⟩

theorem ownsRow_rd {w : World} {base : Nat} {v : Value} {xs : List Int} (h : w.ownsRow base 3 1 v xs.length (xs.map (Value.int .i64))) : rd w v xs ∧ ∃ a n c, v = .slice a n c := by
  rcases h.2 with ⟨rfl, h0⟩ | ⟨g, cap, cur, rfl, hg, hh, h1, h2, h3, h4⟩
  · obtain rfl : xs = [] := List.length_eq_zero_iff.1 h0
    exact ⟨.inl ⟨rfl, _, _, rfl⟩, _, _, _, rfl⟩
  · refine ⟨?_, _, _, _, rfl⟩
    by_cases he : xs = []
    · subst he; exact .inl ⟨rfl, _, _, rfl⟩
    · refine .inr ⟨g, 0, cap, rfl, he, h1, by unfold maxLen at h2; omega, fun j hj => ?_⟩
      rw [cell_of_block hh, Nat.zero_add]
      have h5 : (cur.toList.take (xs.length * 1))[j]? = (xs.map (Value.int .i64))[j]? := by rw [h4]
      rw [List.getElem?_take, if_pos (by omega), Array.getElem?_toList, List.getElem?_map] at h5
      rw [h5, List.getD_eq_getElem?_getD, List.getElem?_eq_getElem hj]; rfl

/-- the five slices read as the lists and lie in blocks from base on -/
def ownsZ (w : World) (base : Nat) (t : Nat → Value) (M : FL) : Prop := ∀ k, k ≤ 4 → w.ownsRow base 3 1 (t k) (M k).length ((M k).map (Value.int .i64))
theorem ownsZ.rdZ {w : World} {base : Nat} {t : Nat → Value} {M : FL} (h : ownsZ w base t M) : rdZ w t M := fun k hk => (ownsRow_rd (h k hk)).1
theorem ownsZ.slices {w : World} {base : Nat} {t : Nat → Value} {M : FL} (h : ownsZ w base t M) : slices t := fun k hk => (ownsRow_rd (h k hk)).2
theorem ownsZ.keeps {P : Nat → Prop} {w w' : World} {base : Nat} {t : Nat → Value} {M : FL} (h : ownsZ w base t M) (hk : Keeps P w w') (hP : ∀ b, base ≤ b → ¬ P b) : ownsZ w' base t M :=
  fun k hk' => ownsRow_keep (h k hk') fun b hb => hk.block b ((h k hk').lt b hb).2 (hP b ((h k hk').lt b hb).1)
theorem ownsZ.mono {w : World} {base base' : Nat} {t : Nat → Value} {M : FL} (h : ownsZ w base t M) (hb : base' ≤ base) : ownsZ w base' t M := fun k hk => by
  have h1 := h k hk
  refine ⟨h1.1, ?_⟩
  rcases h1.2 with h0 | ⟨g, cap, cur, h2, hg, h3⟩
  · exact .inl h0
  · exact .inr ⟨g, cap, cur, h2, Nat.le_trans hb hg, h3⟩

structure WI (w0 wx : World) (z : Zh) (s : Nat → Value) (M : FL) (t : Nat → Value) (lf : Int → Int) : Prop where
  box : boxed wx w0.heap.size z s
  res : boxed wx (w0.heap.size + 1) z0 nilS
  out : boxed wx (w0.heap.size + 2) z t
  left : rowI wx (w0.heap.size + 3) lf
  rows : ∀ k, k ≤ 4 → wx.ownsRow (w0.heap.size + 4) 3 1 (t k) (M k).length ((M k).map (Value.int .i64))
  apart : ∀ j k, j ≤ 4 → k ≤ 4 → j ≠ k → ∀ b, (t j).ownBlock = some b → (t k).ownBlock ≠ some b
  bel : Below w0.heap.size w0 wx

section
variable {w0 wx : World} {z : Zh} {s : Nat → Value} {M : FL} {t : Nat → Value} {lf : Int → Int}

theorem WI.below {wy : World} (h : WI w0 wx z s M t lf) (hb : Below wx.heap.size wx wy) : WI w0 wy z s M t lf :=
  ⟨(hb.block _ (lt_of_block h.box)).trans h.box, (hb.block _ (lt_of_block h.res)).trans h.res, (hb.block _ (lt_of_block h.out)).trans h.out, h.left.below hb,
    fun k hk => ownsRow_keep (h.rows k hk) fun b hb' => hb.block b ((h.rows k hk).lt b hb').2, h.apart, h.bel.trans (hb.mono h.bel.size)⟩

theorem WI.size (h : WI w0 wx z s M t lf) : w0.heap.size + 4 ≤ wx.heap.size := by have := h.left.lt; omega

theorem WI.rdZ (h : WI w0 wx z s M t lf) : rdZ wx t M ∧ slices t :=
  ⟨fun k hk => (ownsRow_rd (h.rows k hk)).1, fun k hk => (ownsRow_rd (h.rows k hk)).2⟩

/-- a number of the row is set -/
theorem WI.put (h : WI w0 wx z s M t lf) {j : Nat} (v : Int) : WI w0 (wx.setCell ⟨w0.heap.size + 3, j, none⟩ (.int .i64 v)) z s M t (fun x => if x = j then v else lf x) := by
  have hk : ∀ b, b ≠ w0.heap.size + 3 → (wx.setCell ⟨w0.heap.size + 3, j, none⟩ (.int .i64 v)).heap[b]? = wx.heap[b]? := fun b hb => Below.heap_setCell wx ⟨w0.heap.size + 3, j, none⟩ _ b hb
  refine ⟨(hk _ (by omega)).trans h.box, (hk _ (by omega)).trans h.res, (hk _ (by omega)).trans h.out, h.left.set v, fun k hk' => ownsRow_keep (h.rows k hk') fun b hb => hk b ?_, h.apart, ?_⟩
  · have := ((h.rows k hk').lt b hb).1; omega
  · exact h.bel.trans ⟨rfl, rfl, rfl, by simp [World.setCell], fun k hk' => hk k (by omega)⟩

/-- an element is appended to a list -/
theorem WI.append (h : WI w0 wx z s M t lf) {k : Nat} (hk : k ≤ 4) {f : Int} {wy : World} {v : Value}
    (ho : wy.ownsRow (w0.heap.size + 4) 3 1 v ((M k).length + 1) ((M k).map (Value.int .i64) ++ [Value.int .i64 f]))
    (hg : (wx.alloc (.cells #[.int .i64 f] 3)).grownBy wy (t k).ownBlock) (hat : v.ownBlock = (t k).ownBlock ∨ v.ownBlock = some (wx.alloc (.cells #[.int .i64 f] 3)).heap.size) :
    WI w0 (wy.setCell ⟨w0.heap.size + 2, 5 + k, none⟩ v) z s (upd M k (M k ++ [f])) (updV t k v) lf := by
  have hsz : (wx.alloc (.cells #[.int .i64 f] 3)).heap.size = wx.heap.size + 1 := by simp
  have h4 := h.size
  have hbl : Below wx.heap.size wx (wx.alloc (.cells #[.int .i64 f] 3)) := (Below.refl _ wx).alloc (Nat.le_refl _) _
  have hgr : ∀ b, b < wx.heap.size → some b ≠ (t k).ownBlock → wy.heap[b]? = wx.heap[b]? := fun b hb hne => (hg.block b (by omega) hne).trans (hbl.block b hb)
  have hset : ∀ b, b ≠ w0.heap.size + 2 → (wy.setCell ⟨w0.heap.size + 2, 5 + k, none⟩ v).heap[b]? = wy.heap[b]? := fun b hb => Below.heap_setCell wy ⟨w0.heap.size + 2, 5 + k, none⟩ _ b hb
  have hlow : ∀ b, b < w0.heap.size + 4 → some b ≠ (t k).ownBlock := fun b hb e => by have := ((h.rows k hk).lt b e.symm).1; omega
  have hsys : wx.heap.size ≤ wy.heap.size := by have := hg.size; omega
  refine ⟨?_, ?_, ?_, ?_, ?_, ?_, ?_⟩
  · exact (hset _ (by omega)).trans ((hgr _ (by omega) (hlow _ (by omega))).trans h.box)
  · exact (hset _ (by omega)).trans ((hgr _ (by omega) (hlow _ (by omega))).trans h.res)
  · unfold boxed; rw [heap_setCell_at ((hgr _ (by omega) (hlow _ (by omega))).trans h.out), five_cells _ _ _ _ _ _ _ k hk]
  · exact h.left.keep ((hset _ (by omega)).trans (hgr _ (by omega) (hlow _ (by omega))))
  · intro j hj
    by_cases hjk : j = k
    · subst hjk
      have h5 : wy.ownsRow (w0.heap.size + 4) 3 1 v (M j ++ [f]).length ((M j ++ [f]).map (Value.int .i64)) := by simpa using ho
      simp only [updV, upd, if_true]
      refine ownsRow_keep h5 fun b hb => hset b ?_
      have := (h5.lt b hb).1; omega
    · simp only [updV, upd, if_neg hjk]
      refine ownsRow_keep (h.rows j hj) fun b hb => ?_
      have hb1 := (h.rows j hj).lt b hb
      rw [hset b (by omega)]
      exact hgr b hb1.2 fun e => h.apart j k hj hk hjk b hb e.symm
  · intro i j hi hj hij b hb
    by_cases h1 : i = k
    · subst h1
      simp only [updV, if_true] at hb
      simp only [updV, if_neg (Ne.symm hij)]
      intro h2
      rcases hat with h3 | h3
      · exact h.apart i j hi hj hij b (by rw [← h3]; exact hb) h2
      · rw [h3] at hb
        have := ((h.rows j hj).lt b h2).2
        injection hb with hb; omega
    · by_cases h2 : j = k
      · subst h2
        simp only [updV, if_neg h1] at hb
        simp only [updV, if_true]
        intro h2
        rcases hat with h3 | h3
        · exact h.apart i j hi hj hij b hb (by rw [← h3]; exact h2)
        · rw [h3] at h2
          have := ((h.rows i hi).lt b hb).2
          injection h2 with h2; omega
      · simp only [updV, if_neg h1] at hb
        simp only [updV, if_neg h2]
        exact h.apart i j hi hj hij b hb
  · exact h.bel.trans ⟨hg.os, hg.tape, hg.output, by simp [World.setCell]; omega, fun b hb => by
      rw [hset b (by omega)]; exact hgr b (by have := h.bel.size; omega) (hlow b (by omega))⟩

theorem WI.grown (h : WI w0 wx z s M t lf) {k : Nat} (hk : k ≤ 4) {f : Int} {wy : World} (hg : (wx.alloc (.cells #[.int .i64 f] 3)).grownBy wy (t k).ownBlock) : boxed wy (w0.heap.size + 2) z t := by
  have h4 := h.size
  refine (hg.block _ (by simp; omega) fun e => ?_).trans ((((Below.refl _ wx).alloc (Nat.le_refl _) _).block _ (by omega)).trans h.out)
  have := ((h.rows k hk).lt _ e.symm).1
  omega
end
end Go.Proofs.Ytcmmoemmlellbaa
