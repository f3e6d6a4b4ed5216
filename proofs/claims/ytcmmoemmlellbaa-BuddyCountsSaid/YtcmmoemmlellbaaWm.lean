/- What the reference's with computes, as plain mathematics: from the greatest order down each aligned block whose frames are all left is listed; the lists are valid and their frames are just those that were there. Conditions: none; no program in sight. -/
import Derived.Test.YtcmmoemmlellbaaBm
namespace Go.Proofs.Ytcmmoemmlellbaa

/-- the state of with: U the frames that were there, M the lists so far, lf what is left, at order k, at frame f -/
structure Wst (z : Zh) (U : Int → Prop) (M : FL) (lf : Int → Int) (k : Nat) (f : Int) : Prop where
  ins : ∀ j, j ≤ 4 → ∀ b, b ∈ M j → insB z b j = true
  sorted : ∀ j, j ≤ 4 → (M j).Pairwise (· < ·)
  disj : ∀ i j, i ≤ 4 → j ≤ 4 → ∀ b c x, b ∈ M i → c ∈ M j → inBlk x b i → inBlk x c j → i = j ∧ b = c
  sep : ∀ x, free M x → lf x = 0
  cov : ∀ x, z.st ≤ x → x < z.st + z.ct → (U x ↔ free M x ∨ lf x ≠ 0)
  low : ∀ j, j < k → M j = []
  bnd : ∀ b, b ∈ M k → b < f
  max : ∀ j b, j ≤ 4 → (k < j ∨ j = k ∧ b < f) → insB z b j = true → ∃ x, inBlk x b j ∧ lf x = 0 ∧ ∀ i, i < j → ∀ c, c ∈ M i → ¬ inBlk x c i

theorem Wst.start {z : Zh} {U : Int → Prop} {lf : Int → Int} (h : ∀ x, z.st ≤ x → x < z.st + z.ct → (U x ↔ lf x ≠ 0)) : Wst z U (fun _ => []) lf 4 z.st where
  ins := by simp
  sorted := by simp
  disj := by simp
  sep := fun x hx => (free_empty x hx).elim
  cov := fun x h1 h2 => by
    rw [h x h1 h2]
    exact ⟨fun h => .inr h, fun h => h.elim (fun h => (free_empty x h).elim) id⟩
  low := fun _ _ => rfl
  bnd := by simp
  max := fun j b hj h hi => by
    have := insB_iff.1 hi
    omega

theorem free_upd_append {M : FL} {k : Nat} (hk : k ≤ 4) {f x : Int} : free (upd M k (M k ++ [f])) x ↔ free M x ∨ inBlk x f k := by
  constructor
  · rintro ⟨j, hj, b, hb, hx⟩
    by_cases e : j = k
    · subst e
      simp only [upd, if_true, List.mem_append, List.mem_singleton] at hb
      rcases hb with hb | rfl
      · exact .inl ⟨j, hj, b, hb, hx⟩
      · exact .inr hx
    · rw [upd_ne _ _ e] at hb
      exact .inl ⟨j, hj, b, hb, hx⟩
  · rintro (⟨j, hj, b, hb, hx⟩ | hx)
    · refine ⟨j, hj, b, ?_, hx⟩
      by_cases e : j = k
      · subst e; simp [upd, hb]
      · rw [upd_ne _ _ e]; exact hb
    · exact ⟨k, hk, f, by simp [upd], hx⟩

theorem mem_upd_append {M : FL} {k j : Nat} {f b : Int} : b ∈ upd M k (M k ++ [f]) j ↔ b ∈ M j ∨ j = k ∧ b = f := by
  by_cases e : j = k
  · subst e; simp [upd]
  · rw [upd_ne _ _ e]; exact ⟨.inl, fun h => h.elim id fun h => (e h.1).elim⟩

/-- a block is taken -/
theorem Wst.take {z : Zh} {U : Int → Prop} {M : FL} {lf lf' : Int → Int} {k : Nat} {f : Int} (h : Wst z U M lf k f) (hk : k ≤ 4) (hi : insB z f k = true) (hall : ∀ x, inBlk x f k → lf x ≠ 0)
    (hlf : ∀ x, lf' x = if f ≤ x ∧ x < f + 2 ^ k then 0 else lf x) : Wst z U (upd M k (M k ++ [f])) lf' k (f + 1) := by
  have hin : ∀ x, inBlk x f k → lf' x = 0 := fun x hx => by rw [hlf, if_pos (show f ≤ x ∧ x < f + 2 ^ k from hx)]
  have hout : ∀ x, ¬ inBlk x f k → lf' x = lf x := fun x hx => by rw [hlf, if_neg (show ¬ (f ≤ x ∧ x < f + 2 ^ k) from hx)]
  have hold : ∀ j, j ≤ 4 → ∀ b, b ∈ M j → ∀ x, inBlk x b j → ¬ inBlk x f k := fun j hj b hb x hx hx' => hall x hx' (h.sep x ⟨j, hj, b, hb, hx⟩)
  refine ⟨fun j hj b hb => ?_, fun j hj => ?_, fun i j hi' hj b c x hb hc hx hy => ?_, fun x hx => ?_, fun x h1 h2 => ?_, fun j hj => ?_, fun b hb => ?_, fun j b hj hjb hb => ?_⟩
  · rcases mem_upd_append.1 hb with hb | ⟨rfl, rfl⟩
    · exact h.ins j hj b hb
    · exact hi
  · by_cases e : j = k
    · subst e
      simp only [upd, if_true]
      rw [List.pairwise_append]
      exact ⟨h.sorted j hj, by simp, fun a ha b hb => by simp at hb; subst hb; exact h.bnd a ha⟩
    · rw [upd_ne _ _ e]; exact h.sorted j hj
  · rcases mem_upd_append.1 hb with hb1 | ⟨hb1, hb2⟩ <;> rcases mem_upd_append.1 hc with hc1 | ⟨hc1, hc2⟩
    · exact h.disj i j hi' hj b c x hb1 hc1 hx hy
    · subst hc1 hc2; exact (hold i hi' b hb1 x hx hy).elim
    · subst hb1 hb2; exact (hold j hj c hc1 x hy hx).elim
    · exact ⟨by omega, by omega⟩
  · rcases (free_upd_append hk).1 hx with hx | hx
    · by_cases e : inBlk x f k
      · exact hin x e
      · rw [hout x e]; exact h.sep x hx
    · exact hin x hx
  · rw [h.cov x h1 h2, free_upd_append hk]
    by_cases e : inBlk x f k
    · exact ⟨fun _ => .inl (.inr e), fun _ => .inr (hall x e)⟩
    · rw [hout x e]
      exact ⟨fun h => h.elim (fun h => .inl (.inl h)) .inr, fun h => h.elim (fun h => h.elim .inl fun h => (e h).elim) .inr⟩
  · rw [upd_ne _ _ (by omega)]; exact h.low j hj
  · rcases mem_upd_append.1 hb with hb | ⟨_, rfl⟩
    · have := h.bnd b hb; omega
    · omega
  · have hcase : (k < j ∨ j = k ∧ b < f) ∨ j = k ∧ b = f := by omega
    rcases hcase with hc | ⟨rfl, rfl⟩
    · obtain ⟨x, hx, h0, hn⟩ := h.max j b hj hc hb
      have hx' : ¬ inBlk x f k := fun e => hall x e h0
      refine ⟨x, hx, by rw [hout x hx']; exact h0, fun i hij c hcm hxc => ?_⟩
      rcases mem_upd_append.1 hcm with hcm | ⟨rfl, rfl⟩
      · exact hn i hij c hcm hxc
      · exact hx' hxc
    · have hp := pow_pos' j
      have hx : inBlk b b j := ⟨by omega, by omega⟩
      refine ⟨b, hx, hin b hx, fun i hij c hcm _ => ?_⟩
      rcases mem_upd_append.1 hcm with hcm | ⟨rfl, _⟩
      · rw [h.low i hij] at hcm; simp at hcm
      · omega

/-- a frame is passed by -/
theorem Wst.skip {z : Zh} {U : Int → Prop} {M : FL} {lf : Int → Int} {k : Nat} {f : Int} (h : Wst z U M lf k f) (hn : insB z f k = true → ∃ x, inBlk x f k ∧ lf x = 0) : Wst z U M lf k (f + 1) :=
  ⟨h.ins, h.sorted, h.disj, h.sep, h.cov, h.low, fun b hb => by have := h.bnd b hb; omega, fun j b hj hjb hb => by
    have hcase : (k < j ∨ j = k ∧ b < f) ∨ j = k ∧ b = f := by omega
    rcases hcase with hc | ⟨rfl, rfl⟩
    · exact h.max j b hj hc hb
    · obtain ⟨x, hx, h0⟩ := hn hb
      exact ⟨x, hx, h0, fun i hij c hcm => by rw [h.low i hij] at hcm; simp at hcm⟩⟩

/-- the next order -/
theorem Wst.next {z : Zh} {U : Int → Prop} {M : FL} {lf : Int → Int} {k : Nat} {f : Int} (h : Wst z U M lf (k + 1) f) (hf : z.st + z.ct ≤ f) : Wst z U M lf k z.st :=
  ⟨h.ins, h.sorted, h.disj, h.sep, h.cov, fun j hj => h.low j (by omega), fun b hb => by rw [h.low k (by omega)] at hb; simp at hb, fun j b hj hjb hb => by
    have hi := insB_iff.1 hb
    have hp := pow_pos' j
    exact h.max j b hj (by omega) hb⟩

/-- the end -/
theorem Wst.done {z : Zh} {U : Int → Prop} {M : FL} {lf : Int → Int} {f : Int} (h : Wst z U M lf 0 f) (hf : z.st + z.ct ≤ f) : Valid z M ∧ ∀ x, free M x ↔ z.st ≤ x ∧ x < z.st + z.ct ∧ U x := by
  have h0 : ∀ x, z.st ≤ x → x < z.st + z.ct → lf x = 0 := fun x h1 h2 => by
    obtain ⟨y, hy, hl, _⟩ := h.max 0 x (by omega) (.inr ⟨rfl, by omega⟩) (insB_zero.2 ⟨h1, h2⟩)
    rw [inBlk_zero.1 hy] at hl; exact hl
  refine ⟨⟨h.ins, h.sorted, h.disj, fun k hk b h1 h2 h3 => ?_⟩, fun x => ⟨fun hx => ?_, fun ⟨h1, h2, h3⟩ => ?_⟩⟩
  · have e := two_pow_succ k
    have hcase : ∃ x, inBlk x b (k + 1) ∧ lf x = 0 ∧ ∀ i, i < k + 1 → ∀ c, c ∈ M i → ¬ inBlk x c i := h.max (k + 1) b (by omega) (.inl (by omega)) h3
    obtain ⟨x, hx, _, hn⟩ := hcase
    unfold inBlk at hx
    rw [e] at hx
    by_cases hlt : x < b + 2 ^ k
    · exact hn k (by omega) b h1 ⟨hx.1, hlt⟩
    · exact hn k (by omega) (b + 2 ^ k) h2 ⟨by omega, by omega⟩
  · obtain ⟨k, hk, b, hb, h1, h2⟩ := hx
    have hi := insB_iff.1 (h.ins k hk b hb)
    have hz1 : z.st ≤ x := by omega
    have hz2 : x < z.st + z.ct := by omega
    exact ⟨hz1, hz2, (h.cov x hz1 hz2).2 (.inl ⟨k, hk, b, hb, h1, h2⟩)⟩
  · rcases (h.cov x h1 h2).1 h3 with h3 | h3
    · exact h3
    · exact (h3 (h0 x h1 h2)).elim
end Go.Proofs.Ytcmmoemmlellbaa
