/- What BuddyServes computes, as plain mathematics. Conditions: none. -/
import Derived.Test.YtcmmoemmlellbaaPm
import Derived.Test.YtcmmoemmlellbaaFr
namespace Go.Proofs.Ytcmmoemmlellbaa

def allTo (L : FL) (F k : Nat) : Bool := (List.range k).all fun t => freeB L ((F + t : Nat) : Int)
def sB (L : FL) (m F : Nat) : Bool := (List.range F).any fun b => decide (b % m = 0 ∧ b + m ≤ F) && allTo L b m
theorem allTo_zero (L : FL) (F : Nat) : allTo L F 0 = true := by simp [allTo]
theorem allTo_succ (L : FL) (F k : Nat) : allTo L F (k + 1) = (allTo L F k && freeB L ((F + k : Nat) : Int)) := by
  unfold allTo; rw [List.range_succ, List.all_append]; simp
theorem allTo_iff {L : FL} {F k : Nat} : allTo L F k = true ↔ ∀ t, t < k → freeB L ((F + t : Nat) : Int) = true := by simp [allTo]
theorem sB_iff {L : FL} {m F : Nat} (hm : 0 < m) : sB L m F = true ↔ ∃ b, b % m = 0 ∧ b + m ≤ F ∧ allTo L b m = true := by
  simp only [sB, List.any_eq_true, List.mem_range, Bool.and_eq_true, decide_eq_true_eq]
  constructor
  · rintro ⟨b, _, h1, h2⟩; exact ⟨b, h1.1, h1.2, h2⟩
  · rintro ⟨b, h1, h2, h3⟩; exact ⟨b, by omega, ⟨h1, h2⟩, h3⟩
theorem sB_zero {L : FL} {m : Nat} : sB L m 0 = false := by simp [sB]
theorem pow_cases_nat {k : Nat} (hk : k ≤ 4) : 2 ^ k = 1 ∨ 2 ^ k = 2 ∨ 2 ^ k = 4 ∨ 2 ^ k = 8 ∨ 2 ^ k = 16 := by
  obtain rfl | rfl | rfl | rfl | rfl : k = 0 ∨ k = 1 ∨ k = 2 ∨ k = 3 ∨ k = 4 := by omega
  all_goals decide
theorem sB_step {L : FL} {k F : Nat} (hk : k ≤ 4) (hF : F % 2 ^ k = 0) : sB L (2 ^ k) (F + 2 ^ k) = (sB L (2 ^ k) F || allTo L F (2 ^ k)) := by
  have hm : 0 < 2 ^ k := Nat.pow_pos (by omega)
  rw [Bool.eq_iff_iff, Bool.or_eq_true, sB_iff hm, sB_iff hm]
  constructor
  · rintro ⟨b, h1, h2, h3⟩
    by_cases e : b = F
    · subst e; exact .inr h3
    · refine .inl ⟨b, h1, ?_, h3⟩
      rcases pow_cases_nat hk with e' | e' | e' | e' | e' <;> simp only [e'] at h1 h2 hF ⊢ <;> omega
  · rintro (⟨b, h1, h2, h3⟩ | h)
    · exact ⟨b, h1, by omega, h3⟩
    · exact ⟨F, hF, Nat.le_refl _, h⟩
theorem mod_step {k F : Nat} (hk : k ≤ 4) (hF : F % 2 ^ k = 0) : (F + 2 ^ k) % 2 ^ k = 0 := by
  rw [Nat.add_mod_right]; exact hF

/-- some aligned block of free frames exists exactly if Alloc finds one -/
theorem sB_done {z : Zh} {L : FL} (v : Valid z L) {k F : Nat} (hk : k ≤ 4) (hz0 : 0 ≤ z.st) (hz1 : z.st + z.ct ≤ 80) (hF : F % 2 ^ k = 0) (hl : 80 < F + 2 ^ k) (hu : F ≤ 80) : sB L (2 ^ k) F = (findK L (5 - k) k).isSome := by
  have hm : 0 < 2 ^ k := Nat.pow_pos (by omega)
  have ec : ((2 ^ k : Nat) : Int) = 2 ^ k := by simp
  rw [Bool.eq_iff_iff, sB_iff hm, Option.isSome_iff_exists, findK_iff v hk]
  constructor
  · rintro ⟨b, h1, h2, h3⟩
    rw [allTo_iff] at h3
    have hfree : ∀ t, t < 2 ^ k → free L ((b + t : Nat) : Int) := fun t ht => (freeB_iff v).1 (h3 t ht)
    have hr : ∀ x, free L x → z.st ≤ x ∧ x < z.st + z.ct := fun x ⟨j, hj, c, hc, hx⟩ => by
      have h4 := insB_iff.1 (v.ins j hj c hc)
      unfold inBlk at hx; omega
    have r0 := hr _ (hfree 0 hm)
    have r1 := hr _ (hfree (2 ^ k - 1) (by omega))
    refine ⟨(b : Int), insB_iff.2 ⟨by omega, by rw [← ec]; omega, by rw [← ec]; omega⟩, fun g hg => ?_⟩
    have hg1 := hg.1
    have hg2 := hg.2
    rw [← ec] at hg2
    have := hfree (g - b).toNat (by omega)
    rwa [show ((b + (g - (b : Int)).toNat : Nat) : Int) = g by omega] at this
  · rintro ⟨b, h1, h2⟩
    have hii := insB_iff.1 h1
    rw [← ec] at hii
    obtain ⟨nb, rfl⟩ : ∃ nb : Nat, b = nb := ⟨b.toNat, by omega⟩
    have hb : nb % 2 ^ k = 0 := by have h := hii.2.1; exact_mod_cast h
    have hb2 : nb + 2 ^ k ≤ 80 := by omega
    refine ⟨nb, hb, ?_, allTo_iff.2 fun t ht => (freeB_iff v).2 (h2 _ ⟨by omega, by rw [← ec]; omega⟩)⟩
    clear hii ec h1 h2
    rcases pow_cases_nat hk with e' | e' | e' | e' | e' <;> simp only [e'] at hb hb2 hF hl ⊢ <;> omega
theorem zP_range (p q : Int) : 0 ≤ (zP p q).st ∧ (zP p q).st + (zP p q).ct ≤ 80 := by simp [zP]; omega
end Go.Proofs.Ytcmmoemmlellbaa
