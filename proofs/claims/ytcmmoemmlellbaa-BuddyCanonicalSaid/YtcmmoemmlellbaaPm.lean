/- A zone with the blocks that are held, as plain mathematics. Conditions: none. -/
import Derived.Test.YtcmmoemmlellbaaAm
namespace Go.Proofs.Ytcmmoemmlellbaa

/-- the blocks that are held are in the zone and apart; what no block holds is free -/
structure PI (z : Zh) (L : FL) (H : List (Int × Nat)) : Prop where
  valid : Valid z L
  ins : ∀ h, h ∈ H → h.2 ≤ 4 ∧ insB z h.1 h.2 = true
  apart : H.Pairwise fun a b => ∀ x, inBlk x a.1 a.2 → ¬ inBlk x b.1 b.2
  free : ∀ x, free L x ↔ z.st ≤ x ∧ x < z.st + z.ct ∧ ∀ h, h ∈ H → ¬ inBlk x h.1 h.2

theorem PI.start {z : Zh} (hz : 0 ≤ z.ct) : PI z (newK z z.ct.toNat) [] := by
  have h := newK_valid z z.ct.toNat (by omega)
  refine ⟨h.1, fun _ h => by simp at h, .nil, fun x => ?_⟩
  rw [h.2, show ((z.ct.toNat : Nat) : Int) = z.ct by omega]
  simp

theorem PI.alloc {z : Zh} {L : FL} {H : List (Int × Nat)} (p : PI z L H) {o k : Nat} (ho : o ≤ 4) (h : findK L (5 - o) o = some k) : PI z (allocL L o k) (H ++ [((L k).headD 0, o)]) := by
  obtain ⟨v, hk, hok, hm, hi, hfree, hf⟩ := alloc_valid p.valid h
  refine ⟨v, fun a ha => ?_, ?_, fun x => ?_⟩
  · rcases List.mem_append.1 ha with ha | ha
    · exact p.ins a ha
    · rw [List.mem_singleton] at ha; subst ha; exact ⟨ho, hi⟩
  · refine List.pairwise_append.2 ⟨p.apart, List.pairwise_singleton _ _, fun a ha b hb x hx1 hx2 => ?_⟩
    rw [List.mem_singleton] at hb; subst hb
    exact ((p.free x).1 (hfree x hx2)).2.2 a ha hx1
  · rw [hf, p.free]
    constructor
    · rintro ⟨⟨h1, h2, h3⟩, h4⟩
      refine ⟨h1, h2, fun a ha => ?_⟩
      rcases List.mem_append.1 ha with ha | ha
      · exact h3 a ha
      · rw [List.mem_singleton] at ha; subst ha; exact h4
    · rintro ⟨h1, h2, h3⟩
      exact ⟨⟨h1, h2, fun a ha => h3 a (List.mem_append_left _ ha)⟩, h3 ((L k).headD 0, o) (List.mem_append_right _ (List.mem_singleton.2 rfl))⟩

theorem PI.held {z : Zh} {L : FL} {A B : List (Int × Nat)} {h : Int × Nat} (p : PI z L (A ++ h :: B)) : ∀ x, inBlk x h.1 h.2 → ¬ Go.Proofs.Ytcmmoemmlellbaa.free L x := fun x hx hf => ((p.free x).1 hf).2.2 h (by simp) hx

theorem PI.drop {z : Zh} {L : FL} {A B : List (Int × Nat)} {h : Int × Nat} (p : PI z L (A ++ h :: B)) : PI z (putM z (4 - h.2) L h.1 h.2) (A ++ B) := by
  obtain ⟨h4, hi⟩ := p.ins h (by simp)
  obtain ⟨v, hf⟩ := Valid.put (4 - h.2) h.2 (by omega) p.valid hi p.held
  have hsub : (A ++ B).Sublist (A ++ h :: B) := List.Sublist.append (List.Sublist.refl _) (List.sublist_cons_self _ _)
  refine ⟨v, fun a ha => p.ins a (hsub.subset ha), p.apart.sublist hsub, fun x => ?_⟩
  have hap := p.apart
  rw [List.pairwise_append] at hap
  obtain ⟨hA, hB, hAB⟩ := hap
  rw [List.pairwise_cons] at hB
  rw [hf, p.free]
  constructor
  · rintro (⟨h1, h2, h3⟩ | hx)
    · exact ⟨h1, h2, fun a ha => h3 a (hsub.subset ha)⟩
    · have hii := insB_iff.1 hi
      have hx' := hx
      unfold inBlk at hx
      refine ⟨by omega, by omega, fun a ha hxa => ?_⟩
      rcases List.mem_append.1 ha with ha | ha
      · exact hAB a ha h (by simp) x hxa hx'
      · exact hB.1 a ha x hx' hxa
  · rintro ⟨h1, h2, h3⟩
    by_cases hx : inBlk x h.1 h.2
    · exact .inr hx
    · refine .inl ⟨h1, h2, fun a ha => ?_⟩
      rcases List.mem_append.1 ha with ha | ha
      · exact h3 a (List.mem_append_left _ ha)
      · rcases List.mem_cons.1 ha with rfl | ha
        · exact hx
        · exact h3 a (List.mem_append_right _ ha)

theorem list_parts {α : Type} {l : List α} {i : Nat} (h : i < l.length) : l = l.take i ++ l[i] :: l.drop (i + 1) := by
  rw [List.getElem_cons_drop, List.take_append_drop]

/-- the zone of the statements -/
def zP (p q : Int) : Zh := ⟨0, 0, p % 16, 1 + q % 64, 0⟩
theorem zP_ok (p q : Int) : (zP p q).ok = true := by simp [Zh.ok, zP]; omega
theorem PI.nil {z : Zh} {L : FL} (p : PI z L []) (hz : 0 ≤ z.ct) : ∀ k, k ≤ 4 → L k = newK z z.ct.toNat k := by
  have h := PI.start hz
  exact p.valid.unique h.valid fun x => by rw [p.free, h.free]
end Go.Proofs.Ytcmmoemmlellbaa
