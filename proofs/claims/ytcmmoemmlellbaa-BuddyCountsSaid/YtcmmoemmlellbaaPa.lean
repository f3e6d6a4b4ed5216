/- How often a frame is owned, as plain mathematics. Conditions: none. -/
import Derived.Test.YtcmmoemmlellbaaPm
import Derived.Test.YtcmmoemmlellbaaFr
namespace Go.Proofs.Ytcmmoemmlellbaa

def inB (x : Int) (h : Int × Nat) : Bool := decide (h.1 ≤ x ∧ x < h.1 + 2 ^ h.2)
theorem inB_iff {x : Int} {h : Int × Nat} : inB x h = true ↔ inBlk x h.1 h.2 := by simp [inB, inBlk]
def cnt (H : List (Int × Nat)) (x : Int) : Int := (H.countP (inB x) : Nat)
theorem cnt_snoc (H : List (Int × Nat)) (h : Int × Nat) (x : Int) : cnt (H ++ [h]) x = cnt H x + if h.1 ≤ x ∧ x < h.1 + 2 ^ h.2 then 1 else 0 := by
  unfold cnt inB
  rw [List.countP_append]
  by_cases e : h.1 ≤ x ∧ x < h.1 + 2 ^ h.2 <;> simp [e]
theorem cnt_bound {H : List (Int × Nat)} {x : Int} : 0 ≤ cnt H x ∧ cnt H x ≤ H.length := by
  unfold cnt
  have := List.countP_le_length (p := inB x) (l := H)
  omega
theorem cnt_zero {H : List (Int × Nat)} {x : Int} : cnt H x = 0 ↔ ∀ h, h ∈ H → ¬ inBlk x h.1 h.2 := by
  unfold cnt
  rw [show (((H.countP (inB x) : Nat) : Int) = 0) ↔ H.countP (inB x) = 0 by omega, List.countP_eq_zero]
  exact ⟨fun h a ha => by rw [← inB_iff]; exact h a ha, fun h a ha => by rw [inB_iff]; exact h a ha⟩
theorem cnt_le_one : ∀ {H : List (Int × Nat)} {x : Int}, (H.Pairwise fun a b => ∀ x, inBlk x a.1 a.2 → ¬ inBlk x b.1 b.2) → cnt H x ≤ 1
  | [], x, _ => by simp [cnt]
  | h :: H, x, hp => by
    rw [List.pairwise_cons] at hp
    have ih := cnt_le_one (x := x) hp.2
    by_cases e : inB x h = true
    · have h0 : cnt H x = 0 := cnt_zero.2 fun a ha => hp.1 a ha x (inB_iff.1 e)
      unfold cnt at *
      rw [List.countP_cons_of_pos e]; omega
    · unfold cnt at *
      rw [List.countP_cons_of_neg e]; exact ih
theorem free_zone {z : Zh} {L : FL} (v : Valid z L) {x : Int} (h : free L x) : z.st ≤ x ∧ x < z.st + z.ct := by
  obtain ⟨k, hk, b, hb, hx⟩ := h
  have h1 := insB_iff.1 (v.ins k hk b hb)
  unfold inBlk at hx
  omega

/-- each frame of the zone is free or owned, once; no other frame is -/
theorem PI.total {z : Zh} {L : FL} {H : List (Int × Nat)} (p : PI z L H) (x : Int) : (cnt H x + if freeB L x = true then 1 else 0) = if z.st ≤ x ∧ x < z.st + z.ct then 1 else 0 := by
  have h1 := cnt_le_one (x := x) p.apart
  have h2 := (cnt_bound (H := H) (x := x)).1
  have h3 := p.free x
  rw [← freeB_iff p.valid] at h3
  by_cases hz : z.st ≤ x ∧ x < z.st + z.ct
  · rw [if_pos hz]
    by_cases h0 : cnt H x = 0
    · rw [if_pos (h3.2 ⟨hz.1, hz.2, cnt_zero.1 h0⟩)]; omega
    · rw [if_neg fun h => h0 (cnt_zero.2 (h3.1 h).2.2)]; omega
  · rw [if_neg hz]
    have h0 : cnt H x = 0 := cnt_zero.2 fun a ha hx => by
      have h4 := insB_iff.1 (p.ins a ha).2
      unfold inBlk at hx
      omega
    rw [if_neg fun h => hz ⟨(h3.1 h).1, (h3.1 h).2.1⟩]; omega
end Go.Proofs.Ytcmmoemmlellbaa
