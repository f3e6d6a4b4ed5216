/- Take as plain mathematics: a block is split towards a frame. Conditions: none. -/
import Derived.Test.YtcmmoemmlellbaaAm
namespace Go.Proofs.Ytcmmoemmlellbaa

theorem Valid.upper {z : Zh} {L : FL} (v : Valid z L) {f : Int} {q : Nat} (hq : q < 4) (hi : insB z f (q + 1) = true) (hd : ∀ g, inBlk g f (q + 1) → ¬ free L g) :
    Valid z (upd L q (insAt (L q) (f + 2 ^ q))) ∧ insB z f q = true ∧ (∀ g, inBlk g f q → ¬ free (upd L q (insAt (L q) (f + 2 ^ q))) g) ∧ ∀ g, (free (upd L q (insAt (L q) (f + 2 ^ q))) g ∨ inBlk g f q) ↔ free L g ∨ inBlk g f (q + 1) := by
  have hii := insB_iff.1 hi
  have e := two_pow_succ q
  have hp := pow_pos' q
  obtain ⟨b1, b2, b3, b4⟩ := bud_upper (show q ≤ 4 by omega) hii.2.1
  have hi1 : insB z (f + 2 ^ q) q = true := insB_iff.2 ⟨by omega, b3, by have := hii.2.2; rw [e] at this; omega⟩
  have hi2 : insB z f q = true := insB_iff.2 ⟨by omega, b4, by have := hii.2.2; rw [e] at this; omega⟩
  have hin : ∀ g, inBlk g f (q + 1) ↔ inBlk g f q ∨ inBlk g (f + 2 ^ q) q := by
    intro g; unfold inBlk; rw [e]; omega
  have hdis : ∀ g, inBlk g f q → ¬ inBlk g (f + 2 ^ q) q := by intro g; unfold inBlk; omega
  obtain ⟨v', hf'⟩ := v.insert (show q ≤ 4 by omega) hi1 (fun g hg => hd g ((hin g).2 (.inr hg))) (fun _ hb _ => by
    rw [b1] at hb
    exact hd f ((hin f).2 (.inl ⟨by omega, by omega⟩)) ⟨q, by omega, f, hb, ⟨by omega, by omega⟩⟩)
  refine ⟨v', hi2, fun g hg hfr => ?_, fun g => ?_⟩
  · rcases (hf' g).1 hfr with h | h
    · exact hd g ((hin g).2 (.inl hg)) h
    · exact hdis g hg h
  · rw [hf', hin]
    constructor
    · rintro ((h | h) | h)
      · exact .inl h
      · exact .inr (.inr h)
      · exact .inr (.inl h)
    · rintro (h | h | h)
      · exact .inl (.inl h)
      · exact .inr h
      · exact .inl (.inr h)

theorem Valid.lower {z : Zh} {L : FL} (v : Valid z L) {f : Int} {q : Nat} (hq : q < 4) (hi : insB z f (q + 1) = true) (hd : ∀ g, inBlk g f (q + 1) → ¬ free L g) :
    Valid z (upd L q (insAt (L q) f)) ∧ insB z (f + 2 ^ q) q = true ∧ (∀ g, inBlk g (f + 2 ^ q) q → ¬ free (upd L q (insAt (L q) f)) g) ∧ ∀ g, (free (upd L q (insAt (L q) f)) g ∨ inBlk g (f + 2 ^ q) q) ↔ free L g ∨ inBlk g f (q + 1) := by
  have hii := insB_iff.1 hi
  have e := two_pow_succ q
  have hp := pow_pos' q
  obtain ⟨b1, b2, b3, b4⟩ := bud_upper (show q ≤ 4 by omega) hii.2.1
  have hi1 : insB z (f + 2 ^ q) q = true := insB_iff.2 ⟨by omega, b3, by have := hii.2.2; rw [e] at this; omega⟩
  have hi2 : insB z f q = true := insB_iff.2 ⟨by omega, b4, by have := hii.2.2; rw [e] at this; omega⟩
  have hin : ∀ g, inBlk g f (q + 1) ↔ inBlk g f q ∨ inBlk g (f + 2 ^ q) q := by
    intro g; unfold inBlk; rw [e]; omega
  have hdis : ∀ g, inBlk g (f + 2 ^ q) q → ¬ inBlk g f q := by intro g; unfold inBlk; omega
  have hbud : bud f q = f + 2 ^ q := by
    rcases bud_cases (show q ≤ 4 by omega) b4 with h | h
    · exact h.1
    · have h1 := h.2.2
      have h2 := hii.2.1
      rcases pow_cases (show q ≤ 4 by omega) with ⟨e', rfl⟩ | ⟨e', rfl⟩ | ⟨e', rfl⟩ | ⟨e', rfl⟩ | ⟨e', rfl⟩ <;> simp only [e, e'] at h1 h2 <;> omega
  obtain ⟨v', hf'⟩ := v.insert (show q ≤ 4 by omega) hi2 (fun g hg => hd g ((hin g).2 (.inl hg))) (fun _ hb _ => by
    rw [hbud] at hb
    exact hd (f + 2 ^ q) ((hin _).2 (.inr ⟨by omega, by omega⟩)) ⟨q, by omega, f + 2 ^ q, hb, ⟨by omega, by omega⟩⟩)
  refine ⟨v', hi1, fun g hg hfr => ?_, fun g => ?_⟩
  · rcases (hf' g).1 hfr with h | h
    · exact hd g ((hin g).2 (.inr hg)) h
    · exact hdis g hg h
  · rw [hf', hin]
    constructor
    · rintro ((h | h) | h)
      · exact .inl h
      · exact .inr (.inl h)
      · exact .inr (.inr h)
    · rintro (h | h | h)
      · exact .inl (.inl h)
      · exact .inl (.inr h)
      · exact .inr h
end Go.Proofs.Ytcmmoemmlellbaa
