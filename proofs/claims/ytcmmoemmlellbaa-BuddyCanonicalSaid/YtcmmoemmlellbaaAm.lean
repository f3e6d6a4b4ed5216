/- Alloc, Free and Take as plain mathematics. Conditions: none. -/
import Derived.Test.YtcmmoemmlellbaaCm
namespace Go.Proofs.Ytcmmoemmlellbaa

/-- the least order from k on with a free block (n orders are left) -/
def findK (L : FL) : Nat → Nat → Option Nat
  | 0, _ => none
  | n + 1, k => if L k = [] then findK L n (k + 1) else some k

theorem findK_some {L : FL} : ∀ (n k j : Nat), findK L n k = some j → k ≤ j ∧ j < k + n ∧ L j ≠ [] ∧ ∀ i, k ≤ i → i < j → L i = []
  | 0, k, j, h => by simp [findK] at h
  | n + 1, k, j, h => by
    unfold findK at h
    split at h
    · rename_i h0
      obtain ⟨h1, h2, h3, h4⟩ := findK_some n (k + 1) j h
      refine ⟨by omega, by omega, h3, fun i hi hij => ?_⟩
      by_cases e : i = k
      · subst e; exact h0
      · exact h4 i (by omega) hij
    · rename_i h0
      cases h
      exact ⟨Nat.le_refl _, by omega, h0, fun i hi hij => by omega⟩
theorem findK_none {L : FL} : ∀ (n k : Nat), findK L n k = none → ∀ i, k ≤ i → i < k + n → L i = []
  | 0, k, _ => fun i h1 h2 => by omega
  | n + 1, k, h => by
    unfold findK at h
    split at h
    · rename_i h0
      intro i h1 h2
      by_cases e : i = k
      · subst e; exact h0
      · exact findK_none n (k + 1) h i (by omega) (by omega)
    · cases h

/-- the upper halves of a block are put into the lists -/
def splitM (f : Int) (o : Nat) : Nat → FL → FL
  | 0, L => L
  | n + 1, L => splitM f o n (upd L (o + n) (insAt (L (o + n)) (f + 2 ^ (o + n))))

theorem bud_upper {f : Int} {k : Nat} (hk : k ≤ 4) (h : f % 2 ^ (k + 1) = 0) : bud (f + 2 ^ k) k = f ∧ min (f + 2 ^ k) f = f ∧ (f + 2 ^ k) % 2 ^ k = 0 ∧ f % 2 ^ k = 0 := by
  have e := two_pow_succ k
  have hp := pow_pos' k
  unfold bud
  rcases pow_cases hk with ⟨e', rfl⟩ | ⟨e', rfl⟩ | ⟨e', rfl⟩ | ⟨e', rfl⟩ | ⟨e', rfl⟩ <;> simp only [e, e'] at * <;> refine ⟨?_, by omega, by omega, by omega⟩ <;> rw [if_neg (by omega)] <;> omega

theorem Valid.split {z : Zh} {f : Int} {o : Nat} : ∀ (n : Nat), o + n ≤ 4 → ∀ {L : FL}, Valid z L → insB z f (o + n) = true → (∀ g, inBlk g f (o + n) → ¬ free L g) →
    Valid z (splitM f o n L) ∧ insB z f o = true ∧ ∀ g, free (splitM f o n L) g ↔ free L g ∨ (inBlk g f (o + n) ∧ ¬ inBlk g f o)
  | 0, _, L, v, hi, hd => ⟨v, hi, fun g => by simp [splitM]⟩
  | n + 1, hn, L, v, hi, hd => by
    have hii := insB_iff.1 hi
    have e : (2 : Int) ^ (o + (n + 1)) = 2 * 2 ^ (o + n) := two_pow_succ (o + n)
    have hp := pow_pos' (o + n)
    obtain ⟨b1, b2, b3, b4⟩ := bud_upper (show o + n ≤ 4 by omega) hii.2.1
    have hi1 : insB z (f + 2 ^ (o + n)) (o + n) = true := insB_iff.2 ⟨by omega, b3, by have := hii.2.2; rw [e] at this; omega⟩
    have hi2 : insB z f (o + n) = true := insB_iff.2 ⟨by omega, b4, by have := hii.2.2; rw [e] at this; omega⟩
    have hin : ∀ g, inBlk g f (o + (n + 1)) ↔ inBlk g f (o + n) ∨ inBlk g (f + 2 ^ (o + n)) (o + n) := by
      intro g; unfold inBlk; rw [e]; omega
    have hdis : ∀ g, inBlk g f (o + n) → ¬ inBlk g (f + 2 ^ (o + n)) (o + n) := by intro g; unfold inBlk; omega
    obtain ⟨v', hf'⟩ := v.insert (show o + n ≤ 4 by omega) hi1 (fun g hg => hd g ((hin g).2 (.inr hg))) (fun _ hb _ => by
      rw [b1] at hb
      exact hd f ((hin f).2 (.inl ⟨by omega, by omega⟩)) ⟨o + n, by omega, f, hb, ⟨by omega, by omega⟩⟩)
    obtain ⟨v'', hio, hf''⟩ := Valid.split n (by omega) v' hi2 (fun g hg hfr => by
      rcases (hf' g).1 hfr with h | h
      · exact hd g ((hin g).2 (.inl hg)) h
      · exact hdis g hg h)
    refine ⟨v'', hio, fun g => ?_⟩
    show free (splitM f o n _) g ↔ _
    rw [hf'', hf', hin]
    have hsub : inBlk g f o → inBlk g f (o + n) := by
      have : (2 : Int) ^ o ≤ 2 ^ (o + n) := by
        rw [Int.pow_add]; have h1 := pow_pos' o; have h2 := pow_pos' n
        calc (2 : Int) ^ o = 2 ^ o * 1 := by omega
          _ ≤ 2 ^ o * 2 ^ n := Int.mul_le_mul_of_nonneg_left (by omega) (by omega)
      unfold inBlk; omega
    constructor
    · rintro ((h | h) | ⟨h, h'⟩)
      · exact .inl h
      · exact .inr ⟨.inr h, fun h' => hdis g (hsub h') h⟩
      · exact .inr ⟨.inl h, h'⟩
    · rintro (h | ⟨h | h, h'⟩)
      · exact .inl (.inl h)
      · exact .inr ⟨h, h'⟩
      · exact .inl (.inr h)

theorem tail_delAt {l : List Int} (hs : l.Pairwise (· < ·)) (h : l ≠ []) : l.tail = delAt l (l.headD 0) ∧ l.headD 0 ∈ l := by
  cases l with
  | nil => exact (h rfl).elim
  | cons x l => exact ⟨by simp only [List.headD_cons, List.tail_cons]; rw [delAt_cons hs, if_neg (by omega)], by simp⟩

/-- the lists behind Alloc of order o out of the first block of order k -/
def allocL (L : FL) (o k : Nat) : FL := splitM ((L k).headD 0) o (k - o) (upd L k (L k).tail)

theorem alloc_valid {z : Zh} {L : FL} (v : Valid z L) {o k : Nat} (h : findK L (5 - o) o = some k) :
    Valid z (allocL L o k) ∧ k ≤ 4 ∧ o ≤ k ∧ (L k).headD 0 ∈ L k ∧ insB z ((L k).headD 0) o = true ∧ (∀ g, inBlk g ((L k).headD 0) o → free L g) ∧ ∀ g, free (allocL L o k) g ↔ free L g ∧ ¬ inBlk g ((L k).headD 0) o := by
  obtain ⟨h1, h2, h3, _⟩ := findK_some _ _ _ h
  have hk : k ≤ 4 := by omega
  obtain ⟨e, hm⟩ := tail_delAt (v.sorted k hk) h3
  obtain ⟨v', hf'⟩ := v.delete hk hm
  rw [← e] at v' hf'
  have hok : o + (k - o) = k := by omega
  obtain ⟨v'', hio, hf''⟩ := Valid.split (f := (L k).headD 0) (o := o) (k - o) (by omega) v' (by rw [hok]; exact v.ins k hk _ hm) (fun g hg hfr => ((hf' g).1 hfr).2 (by rw [hok] at hg; exact hg))
  have hsub : ∀ g, inBlk g ((L k).headD 0) o → inBlk g ((L k).headD 0) k := fun g hg => by
    have := nested (f := g) hk h1 (insB_iff.1 hio).2.1 (insB_iff.1 (v.ins k hk _ hm)).2.1 hg
    have hb := insB_iff.1 (v.ins k hk _ hm)
    have : (2 : Int) ^ o ≤ 2 ^ k := by
      rw [← hok, Int.pow_add]; have h1 := pow_pos' o; have h2 := pow_pos' (k - o)
      calc (2 : Int) ^ o = 2 ^ o * 1 := by omega
        _ ≤ 2 ^ o * 2 ^ (k - o) := Int.mul_le_mul_of_nonneg_left (by omega) (by omega)
    unfold inBlk at *; omega
  have hfree : ∀ g, inBlk g ((L k).headD 0) o → free L g := fun g hg => ⟨k, hk, _, hm, hsub g hg⟩
  refine ⟨v'', hk, h1, hm, hio, hfree, fun g => ?_⟩
  show free (splitM _ o (k - o) _) g ↔ _
  rw [hf'', hf', hok]
  constructor
  · rintro (⟨h4, h5⟩ | ⟨h4, h5⟩)
    · exact ⟨h4, fun h6 => h5 (hsub g h6)⟩
    · exact ⟨⟨k, hk, _, hm, h4⟩, h5⟩
  · rintro ⟨h4, h5⟩
    by_cases h6 : inBlk g ((L k).headD 0) k
    · exact .inr ⟨h6, h5⟩
    · exact .inl ⟨h4, h6⟩

/-- a block of an order is found exactly if there is an aligned block of free frames -/
theorem findK_iff {z : Zh} {L : FL} (v : Valid z L) {o : Nat} (ho : o ≤ 4) : (∃ k, findK L (5 - o) o = some k) ↔ ∃ b, insB z b o = true ∧ ∀ g, inBlk g b o → free L g := by
  constructor
  · rintro ⟨k, h⟩
    obtain ⟨_, _, _, _, h1, h2, _⟩ := alloc_valid v h
    exact ⟨_, h1, h2⟩
  · rintro ⟨b, hb, hf⟩
    obtain ⟨j, hj, hj4, d, hd, _⟩ := v.cover o ho b hb hf
    cases h : findK L (5 - o) o with
    | some k => exact ⟨k, rfl⟩
    | none =>
      have := findK_none _ _ h j hj (by omega)
      rw [this] at hd; simp at hd

theorem split_step {z : Zh} {L : FL} (v : Valid z L) {f : Int} {q : Nat} (hq : q < 4) (hi : insB z f (q + 1) = true) (hd : ∀ g, inBlk g f (q + 1) → ¬ free L g) :
    Valid z (upd L q (insAt (L q) (f + 2 ^ q))) ∧ insB z f q = true ∧ ∀ g, inBlk g f q → ¬ free (upd L q (insAt (L q) (f + 2 ^ q))) g := by
  have hii := insB_iff.1 hi
  have e := two_pow_succ q
  have hp := pow_pos' q
  obtain ⟨b1, b2, b3, b4⟩ := bud_upper (show q ≤ 4 by omega) hii.2.1
  have hi1 : insB z (f + 2 ^ q) q = true := insB_iff.2 ⟨by omega, b3, by have := hii.2.2; rw [e] at this; omega⟩
  have hi2 : insB z f q = true := insB_iff.2 ⟨by omega, b4, by have := hii.2.2; rw [e] at this; omega⟩
  have hin : ∀ g, inBlk g f (q + 1) ↔ inBlk g f q ∨ inBlk g (f + 2 ^ q) q := by
    intro g; unfold inBlk; rw [e]; omega
  have hdis : ∀ g, inBlk g f q → ¬ inBlk g (f + 2 ^ q) q := by intro g; unfold inBlk; omega
  obtain ⟨v', hf'⟩ := v.insert (show q ≤ 4 by omega) hi1 (fun g hg => hd g ((hin g).2 (.inr hg))) (fun _ hb _ => by
    rw [b1] at hb
    exact hd f ((hin f).2 (.inl ⟨by omega, by omega⟩)) ⟨q, by omega, f, hb, ⟨by omega, by omega⟩⟩)
  refine ⟨v', hi2, fun g hg hfr => ?_⟩
  rcases (hf' g).1 hfr with h | h
  · exact hd g ((hin g).2 (.inl hg)) h
  · exact hdis g hg h
theorem splitM_step {f : Int} {o q : Nat} (L : FL) (h : o ≤ q) : splitM f o (q + 1 - o) L = splitM f o (q - o) (upd L q (insAt (L q) (f + 2 ^ q))) := by
  rw [show q + 1 - o = (q - o) + 1 by omega, splitM, show o + (q - o) = q by omega]

end Go.Proofs.Ytcmmoemmlellbaa
