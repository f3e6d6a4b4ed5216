/- What Lists computes, and the program's memory while it replays. Conditions: none. -/
import Derived.Test.YtbalmmaoiebppaaVr
namespace Go.Proofs.Ytbalmmaoiebppaa
open Go.RowKit

abbrev LQ := List Int × List Int × List Int × List Int
def remP (l : List Int) (p : Int) : List Int := l.filter fun x => decide (x ≠ p)
/-- the lists behind the eviction, if the cache is full -/
def evS (s : Int) (I A g : List Int) : List Int × List Int × List Int := if ((I.length + A.length : Nat) : Int) = s then (evI I, evA I A, g ++ [evP I A]) else (I, A, g)
/-- the lists behind a fault -/
def fltS (bd p d : Int) (q : List Int × List Int × List Int) : List Int × List Int × List Int := if actv d (q.2.1.length : Nat) = true then (actI q.1 q.2.1 bd p, actA q.2.1 bd p, q.2.2) else (q.1 ++ [p], q.2.1, q.2.2)
/-- a reference: the inactive and the active list, the evicted pages, the answers -/
def lsStep (s bd : Int) (q : LQ) (p : Int) : LQ :=
  if p ∈ q.2.1 then (q.1, q.2.1, q.2.2.1, q.2.2.2 ++ [-1])
  else if p ∈ q.1 then (actI (remP q.1 p) q.2.1 bd p, actA q.2.1 bd p, q.2.2.1, q.2.2.2 ++ [-1])
  else ((fltS bd p (dst q.2.2.1 p) (evS s q.1 q.2.1 q.2.2.1)).1, (fltS bd p (dst q.2.2.1 p) (evS s q.1 q.2.1 q.2.2.1)).2.1, (fltS bd p (dst q.2.2.1 p) (evS s q.1 q.2.1 q.2.2.1)).2.2, q.2.2.2 ++ [dst q.2.2.1 p])
def lsS (s bd : Int) (xs : List Int) : LQ := xs.foldl (lsStep s bd) ([], [], [], [])
theorem lsS_step {s bd : Int} {xs : List Int} {k : Nat} (h : k < xs.length) : lsS s bd (xs.take (k + 1)) = lsStep s bd (lsS s bd (xs.take k)) (xs.getD k 0) := by
  rw [take_snoc h]; unfold lsS; rw [List.foldl_append]; rfl
theorem lsS_snoc (s bd : Int) (xs : List Int) (p : Int) : lsS s bd (xs ++ [p]) = lsStep s bd (lsS s bd xs) p := by unfold lsS; rw [List.foldl_append]; rfl

theorem idx_nat {I : List Int} {p : Int} (h : p ∈ I) (hn : I.Nodup) : ∃ i : Nat, Lib.idxOf I p = i ∧ i < I.length ∧ I.take i ++ I.drop (i + 1) = remP I p := by
  obtain ⟨s, t, rfl⟩ := List.append_of_mem h
  have hs : p ∉ s := fun hp => by
    rw [List.nodup_append] at hn
    exact hn.2.2 p hp p (by simp) rfl
  have ht : p ∉ t := fun hp => by
    rw [List.nodup_append] at hn
    exact (List.nodup_cons.1 hn.2.1).1 hp
  refine ⟨s.length, ?_, by simp, ?_⟩
  · have := Lib.idxOf_hit (s ++ p :: t) (s ++ p :: t).length s.length p (by simp) (Nat.le_refl _) (by simp [List.getD, List.getElem?_append_right]) (fun j hj e => hs (by
      have h1 : (s ++ p :: t).getD j 0 = s[j] := by simp [List.getD, List.getElem?_append_left hj, List.getElem?_eq_getElem hj]
      rw [h1] at e; rw [← e]; exact List.getElem_mem hj))
    rwa [List.take_length] at this
  · unfold remP
    rw [List.filter_append, List.filter_cons]
    have e1 : s.filter (fun x => decide (x ≠ p)) = s := List.filter_eq_self.2 fun x hx => by simp; intro e; exact hs (e ▸ hx)
    have e2 : t.filter (fun x => decide (x ≠ p)) = t := List.filter_eq_self.2 fun x hx => by simp; intro e; exact ht (e ▸ hx)
    rw [e1, e2]; simp

/-- what stays true while the cache with two lists replays -/
structure LInv (s bd : Int) (k : Nat) (S : List Int) (I A g : List Int) : Prop where
  full : ((I.length + A.length : Nat) : Int) ≤ s
  few : I.length + A.length ≤ k
  gone : g.length ≤ k
  nd : (I ++ A).Nodup
  sub : ∀ x ∈ I ++ A, x ∈ S
  act : (A.length : Int) ≤ bd

theorem act_perm (I A : List Int) (bd p : Int) : (actI I A bd p ++ actA A bd p).Perm (I ++ A ++ [p]) := by
  unfold actI actA
  split
  · cases h : A ++ [p] with
    | nil => simp at h
    | cons a r =>
      rw [List.append_assoc I A, h]
      simp
  · simp
theorem act_len (A : List Int) (bd p : Int) (h : (A.length : Int) ≤ bd) : ((actA A bd p).length : Int) ≤ bd := by
  unfold actA
  split
  · simp; omega
  · rename_i h1; simp at h1 ⊢; omega

theorem LInv.perm {s bd : Int} {k : Nat} {S I A g I' A' : List Int} {p : Int} (hfull : ((I.length + A.length : Nat) : Int) + 1 ≤ s) (hfew : I.length + A.length ≤ k) (hg : g.length ≤ k + 1) (hnd : (I ++ A).Nodup) (hp : p ∉ I ++ A) (hsub : ∀ x ∈ I ++ A, x ∈ S) (hact : (A'.length : Int) ≤ bd) (h : (I' ++ A').Perm (I ++ A ++ [p])) : LInv s bd (k + 1) (S ++ [p]) I' A' g := by
  have hl := h.length_eq
  simp only [List.length_append, List.length_cons, List.length_nil] at hl
  refine ⟨by omega, by omega, hg, h.nodup_iff.2 ?_, fun x hx => ?_, hact⟩
  · rw [List.nodup_append]; exact ⟨hnd, by simp, fun a ha b hb e => by simp at hb; subst hb; subst e; exact hp ha⟩
  · have := h.mem_iff.1 hx
    rw [List.mem_append] at this ⊢
    exact this.imp (hsub x) id

theorem ev_perm (I A : List Int) (h : I ≠ [] ∨ A ≠ []) : ([evP I A] ++ (evI I ++ evA I A)).Perm (I ++ A) := by
  unfold evP evI evA
  by_cases hi : I = []
  · subst hi
    cases A with
    | nil => simp at h
    | cons a A => simp
  · cases I with
    | nil => exact absurd rfl hi
    | cons a I => simp
theorem evA_len (I A : List Int) : (evA I A).length ≤ A.length := by unfold evA; split <;> simp

/-- behind the eviction there is room -/
theorem evS_inv {s bd : Int} {k : Nat} {S I A g : List Int} (h : LInv s bd k S I A g) (hs : 1 ≤ s) : (((evS s I A g).1.length + (evS s I A g).2.1.length : Nat) : Int) + 1 ≤ s ∧ (evS s I A g).1.length + (evS s I A g).2.1.length ≤ k ∧ (evS s I A g).2.2.length ≤ k + 1 ∧ ((evS s I A g).1 ++ (evS s I A g).2.1).Nodup ∧ (∀ x ∈ (evS s I A g).1 ++ (evS s I A g).2.1, x ∈ I ++ A) ∧ ((evS s I A g).2.1.length : Int) ≤ bd := by
  have h1 := h.full
  have h2 := h.few
  have h3 := h.gone
  have h4 := h.act
  unfold evS
  split
  · rename_i hf
    have hne : I ≠ [] ∨ A ≠ [] := by
      by_cases hi : I = []
      · right; rintro rfl; subst hi; simp at hf; omega
      · exact .inl hi
    have hp := ev_perm I A hne
    have hl := hp.length_eq
    simp only [List.length_append, List.length_cons, List.length_nil] at hl
    have hn := hp.nodup_iff.2 h.nd
    have hA := evA_len I A
    simp only
    refine ⟨by omega, by omega, by simp; omega, ?_, fun x hx => hp.mem_iff.1 (List.mem_append_right _ hx), by omega⟩
    exact (List.nodup_append.1 hn).2.1
  · rename_i hf
    exact ⟨by simp only; omega, h2, by simp only; omega, h.nd, fun x hx => hx, h4⟩

theorem lsS_inv (s bd : Int) (hs : 1 ≤ s) (hb : 0 ≤ bd) (xs : List Int) : LInv s bd xs.length xs (lsS s bd xs).1 (lsS s bd xs).2.1 (lsS s bd xs).2.2.1 ∧ (lsS s bd xs).2.2.2.length = xs.length := by
  induction xs using snoc_ind with
  | h0 => exact ⟨⟨by simp [lsS]; omega, by simp [lsS], by simp [lsS], by simp [lsS], fun x hx => by simp [lsS] at hx, by simp [lsS]; omega⟩, rfl⟩
  | h1 l p ih =>
    rw [lsS_snoc]
    obtain ⟨hi, hl⟩ := ih
    generalize lsS s bd l = q at *
    obtain ⟨I, A, g, out⟩ := q
    simp only at hi hl
    have h1 := hi.full
    have h2 := hi.few
    have h3 := hi.gone
    have h4 := hi.act
    refine ⟨?_, ?_⟩
    · unfold lsStep
      simp only
      split
      · exact ⟨h1, by simp; omega, by simp; omega, hi.nd, fun x hx => by simp; exact .inl (hi.sub x hx), h4⟩
      · rename_i hpA
        split
        · rename_i hpI
          obtain ⟨i, _, hil, he⟩ := idx_nat hpI (List.nodup_append.1 hi.nd).1
          have hrl : (remP I p).length + 1 = I.length := by rw [← he]; simp; omega
          rw [show (l ++ [p]).length = l.length + 1 by simp]
          have hsub : ∀ x ∈ remP I p ++ A, x ∈ I ++ A := fun x hx => by
            rw [List.mem_append] at hx ⊢
            exact hx.imp (fun h => (List.mem_filter.1 h).1) id
          refine LInv.perm (I := remP I p) (A := A) (by omega) (by omega) (by show g.length ≤ l.length + 1; omega) ?_ ?_ (fun x hx => hi.sub x (hsub x hx)) (act_len _ _ _ h4) (act_perm _ _ _ _)
          · exact List.Nodup.sublist (List.Sublist.append_right List.filter_sublist _) hi.nd
          · intro h
            rw [List.mem_append] at h
            rcases h with h | h
            · have := (List.mem_filter.1 h).2; simp at this
            · exact hpA h
        · rename_i hpI
          obtain ⟨e1, e2, e3, e4, e5, e6⟩ := evS_inv hi hs
          generalize evS s I A g = q at *
          obtain ⟨I2, A2, g2⟩ := q
          simp only at e1 e2 e3 e4 e5 e6
          have hp : p ∉ I2 ++ A2 := fun h => by
            have := e5 p h
            rw [List.mem_append] at this
            exact this.elim hpI hpA
          rw [show (l ++ [p]).length = l.length + 1 by simp]
          unfold fltS
          simp only
          split
          · exact LInv.perm e1 e2 e3 e4 hp (fun x hx => hi.sub x (e5 x hx)) (act_len _ _ _ e6) (act_perm _ _ _ _)
          · exact LInv.perm e1 e2 e3 e4 hp (fun x hx => hi.sub x (e5 x hx)) e6 (by rw [List.append_assoc, List.append_assoc]; exact List.Perm.append_left _ List.perm_append_comm)
    · unfold lsStep
      simp only
      split
      · simp; omega
      · split <;> (simp; omega)
end Go.Proofs.Ytbalmmaoiebppaa
