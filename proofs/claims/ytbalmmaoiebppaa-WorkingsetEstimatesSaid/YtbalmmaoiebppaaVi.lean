/- Plain laws of the estimate. Conditions: none. -/
import Derived.Test.YtbalmmaoiebppaaVe
namespace Go.Proofs.Ytbalmmaoiebppaa

/-- how many are above m, and how many are not below it -/
def cgt (m : Int) (l : List Int) : Nat := l.countP fun x => decide (m < x)
def cge (m : Int) (l : List Int) : Nat := l.countP fun x => decide (m ≤ x)
theorem cgt_snoc (m : Int) (l : List Int) (x : Int) : cgt m (l ++ [x]) = cgt m l + if m < x then 1 else 0 := by
  unfold cgt; rw [List.countP_append]; by_cases h : m < x <;> simp [h]
theorem cge_snoc (m : Int) (l : List Int) (x : Int) : cge m (l ++ [x]) = cge m l + if m ≤ x then 1 else 0 := by
  unfold cge; rw [List.countP_append]; by_cases h : m ≤ x <;> simp [h]
theorem cgt_le (m : Int) (l : List Int) : cgt m l ≤ l.length := List.countP_le_length
theorem cge_le (m : Int) (l : List Int) : cge m l ≤ l.length := List.countP_le_length

theorem est_law (xs : List Int) (h : estE xs = 0) : 0 ≤ estV xs ∧ cgt (estV xs) xs ≤ xs.length / 8 ∧ (estV xs = 0 ∨ xs.length / 8 < cge (estV xs) xs) := by
  have hall : ∀ x ∈ xs, 0 ≤ x := fun x hx => by
    unfold estE at h
    split at h
    · cases h
    · split at h
      · rename_i ha
        have := List.all_eq_true.1 ha x hx
        unfold cnt at this; simp at this; exact this.1
      · cases h
  unfold estV
  rw [if_pos h]
  by_cases h0 : xs.length = 0
  · obtain rfl := List.length_eq_zero_iff.1 h0
    simp [cgt]
  rw [if_neg h0]
  have hp : (sortL xs).Perm xs := List.mergeSort_perm _ _
  have hs : (sortL xs).Pairwise fun a b => decide (a ≤ b) = true := List.pairwise_mergeSort (fun a b c h1 h2 => by simp at *; omega) (fun a b => by simp; omega) _
  have hl : (sortL xs).length = xs.length := hp.length_eq
  obtain ⟨L, hL⟩ : ∃ L, L = sortL xs := ⟨_, rfl⟩
  rw [← hL] at hp hs hl ⊢
  obtain ⟨t, ht⟩ : ∃ t, t = xs.length - 1 - xs.length / 8 := ⟨_, rfl⟩
  rw [← ht]
  have htl : t < L.length := by omega
  obtain ⟨m, hm⟩ : ∃ m, m = L.getD t 0 := ⟨_, rfl⟩
  rw [← hm]
  have hme : m = L[t] := by rw [hm, getD_eq htl]
  have hpw := List.pairwise_iff_getElem.1 hs
  have e1 : cgt m xs = cgt m L := (hp.countP_eq _).symm
  have e2 : cge m xs = cge m L := (hp.countP_eq _).symm
  rw [e1, e2]
  refine ⟨hall m (hp.mem_iff.1 (by rw [hme]; exact List.getElem_mem htl)), ?_, .inr ?_⟩
  · have h1 : cgt m L = cgt m (L.take (t + 1)) + cgt m (L.drop (t + 1)) := by unfold cgt; rw [← List.countP_append, List.take_append_drop]
    have h2 : cgt m (L.take (t + 1)) = 0 := by
      unfold cgt
      refine List.countP_eq_zero.2 fun x hx => ?_
      obtain ⟨j, hj, rfl⟩ := List.getElem_of_mem hx
      rw [List.length_take] at hj
      rw [List.getElem_take]
      simp only [decide_eq_true_eq, Int.not_lt]
      by_cases e : j = t
      · subst e; rw [hme]; exact Int.le_refl _
      · have := hpw j t (by omega) htl (by omega)
        rw [hme]; simpa using this
    have h3 := cgt_le m (L.drop (t + 1))
    rw [List.length_drop] at h3
    omega
  · have h1 : cge m L = cge m (L.take t) + cge m (L.drop t) := by unfold cge; rw [← List.countP_append, List.take_append_drop]
    have h2 : cge m (L.drop t) = (L.drop t).length := by
      unfold cge
      refine List.countP_eq_length.2 fun x hx => ?_
      obtain ⟨j, hj, rfl⟩ := List.getElem_of_mem hx
      rw [List.length_drop] at hj
      rw [List.getElem_drop]
      by_cases e : j = 0
      · subst e; rw [hme]; simp
      · have := hpw t (t + j) htl (by omega) (by omega)
        rw [hme]; simpa using this
    rw [List.length_drop] at h2
    omega
end Go.Proofs.Ytbalmmaoiebppaa
