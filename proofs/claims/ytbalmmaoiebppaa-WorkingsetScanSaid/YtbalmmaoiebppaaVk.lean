/- Plain law of the cache with bound 0: pages by their last use. Conditions: none. -/
import Derived.Test.YtbalmmaoiebppaaVj
namespace Go.Proofs.Ytbalmmaoiebppaa

theorem rmv_snoc (l : List Int) (x p : Int) : remP (l ++ [x]) p = if x = p then remP l p else remP l p ++ [x] := by
  unfold remP; rw [List.filter_append]; by_cases h : x = p <;> simp [h]
theorem rmv_cons (l : List Int) (x p : Int) : remP (x :: l) p = if x = p then remP l p else x :: remP l p := by
  unfold remP; rw [List.filter_cons]; by_cases h : x = p <;> simp [h]
theorem rmv_append (l m : List Int) (p : Int) : remP (l ++ m) p = remP l p ++ remP m p := List.filter_append ..
theorem rmv_id {l : List Int} {p : Int} (h : p ∉ l) : remP l p = l := List.filter_eq_self.2 fun x hx => by simp; intro e; exact h (e ▸ hx)
theorem mem_rmv {l : List Int} {p x : Int} : x ∈ remP l p ↔ x ∈ l ∧ x ≠ p := by unfold remP; simp
theorem rmv_nodup {l : List Int} {p : Int} (h : l.Nodup) : (remP l p).Nodup := List.Nodup.sublist List.filter_sublist h
theorem rmv_len {l : List Int} {p : Int} (h : l.Nodup) (hp : p ∈ l) : (remP l p).length + 1 = l.length := by
  obtain ⟨i, _, hil, he⟩ := idx_nat hp h
  rw [← he]; simp; omega

/-- the pages by their last use, the last one last -/
def lru (l : List Int) : List Int := l.foldl (fun s p => remP s p ++ [p]) []
theorem lru_snoc (l : List Int) (p : Int) : lru (l ++ [p]) = remP (lru l) p ++ [p] := by unfold lru; rw [List.foldl_append]; rfl
theorem mem_lru {l : List Int} : ∀ {x : Int}, x ∈ lru l ↔ x ∈ l := by
  induction l using snoc_ind with
  | h0 => intro x; simp [lru]
  | h1 l p ih =>
    intro x
    rw [lru_snoc]
    simp only [List.mem_append, List.mem_singleton, mem_rmv, ih]
    by_cases e : x = p <;> simp [e]
theorem lru_nodup (l : List Int) : (lru l).Nodup := by
  induction l using snoc_ind with
  | h0 => simp [lru]
  | h1 l p ih =>
    rw [lru_snoc, List.nodup_append]
    exact ⟨rmv_nodup ih, by simp, fun a ha b hb e => by simp at hb; subst hb; exact (mem_rmv.1 ha).2 e⟩

/-- behind a page stand those that were used since -/
theorem lru_since (pre : List Int) (p : Int) (seg : List Int) : p ∉ seg → ∃ X Y, lru (pre ++ p :: seg) = X ++ p :: Y ∧ Y.Nodup ∧ ∀ x, x ∈ Y ↔ x ∈ seg := by
  induction seg using snoc_ind with
  | h0 => intro _; exact ⟨_, [], lru_snoc pre p, by simp, fun x => Iff.rfl⟩
  | h1 seg q ih =>
    intro hp
    have hq : p ≠ q := fun e => hp (by simp [e])
    obtain ⟨X, Y, h1, h2, h3⟩ := ih fun h => hp (by simp [h])
    refine ⟨remP X q, remP Y q ++ [q], ?_, ?_, fun x => ?_⟩
    · rw [← List.cons_append, ← List.append_assoc, lru_snoc, h1, rmv_append, rmv_cons, if_neg hq]; simp
    · rw [List.nodup_append]
      exact ⟨rmv_nodup h2, by simp, fun a ha b hb e => by simp at hb; subst hb; exact (mem_rmv.1 ha).2 e⟩
    · simp only [List.mem_append, List.mem_singleton, mem_rmv, h3]
      by_cases e : x = q <;> simp [e]

theorem lst_mem {g : List Int} {p : Int} : lst g p = none ↔ p ∉ g := by
  induction g using snoc_ind with
  | h0 => simp [lst_nil]
  | h1 g x ih =>
    rw [lst_snoc]
    by_cases e : p = x
    · simp [e]
    · simp [e, ih]
theorem dst_out {g : List Int} {p : Int} (h : p ∉ g) : dst g p = -2 := by unfold dst; rw [lst_mem.2 h]
theorem dst_in {g : List Int} {p : Int} (h : p ∈ g) : 0 ≤ dst g p := by
  unfold dst
  cases e : lst g p with
  | none => exact absurd h (lst_mem.1 e)
  | some a => have := lst_range e; simp only []; omega

/-- what stays true with the bound 0 -/
structure Rec (s : Int) (l I A g : List Int) : Prop where
  ha : A = []
  hx : ∃ X, lru l = X ++ I ∧ (X ≠ [] → (I.length : Int) = s)
  hn : (I.length : Int) ≤ s
  hg : ∀ x ∈ g, x ∈ l
  hi : ∀ x ∈ l, x ∈ I ∨ x ∈ g

theorem lru_tail {s : Int} {l I : List Int} {p : Int} (hs : 1 ≤ s) (hx : ∃ X, lru l = X ++ I ∧ (X ≠ [] → (I.length : Int) = s)) (hn : (I.length : Int) ≤ s) (hp : p ∉ I) :
    (∃ X, lru (l ++ [p]) = X ++ ((if (I.length : Int) = s then I.tail else I) ++ [p]) ∧ (X ≠ [] → (((if (I.length : Int) = s then I.tail else I) ++ [p]).length : Int) = s)) ∧ (((if (I.length : Int) = s then I.tail else I) ++ [p]).length : Int) ≤ s := by
  obtain ⟨X, h1, h2⟩ := hx
  rw [lru_snoc, h1, rmv_append, rmv_id hp]
  by_cases hf : (I.length : Int) = s
  · rw [if_pos hf]
    cases I with
    | nil => simp at hf; omega
    | cons a I =>
      simp only [List.length_cons, List.tail_cons, List.length_append, List.length_nil] at hf ⊢
      exact ⟨⟨remP X p ++ [a], by simp, fun _ => by omega⟩, by omega⟩
  · rw [if_neg hf]
    have hX : X = [] := Classical.byContradiction fun h => hf (h2 h)
    subst hX
    simp only [List.length_append, List.length_cons, List.length_nil]
    exact ⟨⟨[], by simp [remP], fun h => absurd rfl h⟩, by omega⟩

theorem rec_inv (s : Int) (hs : 1 ≤ s) (xs : List Int) : Rec s xs (lsS s 0 xs).1 (lsS s 0 xs).2.1 (lsS s 0 xs).2.2.1 := by
  induction xs using snoc_ind with
  | h0 => exact ⟨rfl, ⟨[], by simp [lru, lsS], fun h => absurd rfl h⟩, by simp [lsS]; omega, fun x hx => by simp [lsS] at hx, fun x hx => by simp at hx⟩
  | h1 l p ih =>
    rw [lsS_snoc]
    generalize lsS s 0 l = q at *
    obtain ⟨I, A, g, o⟩ := q
    obtain ⟨h1, h2, h3, h4, h5⟩ := ih
    simp only at h1 h2 h3 h4 h5
    subst h1
    unfold lsStep
    simp only
    rw [if_neg (by simp)]
    have ea : ∀ J : List Int, actI J [] 0 p = J ++ [p] := fun J => by unfold actI; rw [if_pos (by simp)]; rfl
    have eb : actA [] 0 p = [] := by unfold actA; rw [if_pos (by simp)]; rfl
    by_cases hI : p ∈ I
    · rw [if_pos hI]
      obtain ⟨X, hX, hX2⟩ := h2
      have hnd := lru_nodup l
      rw [hX, List.nodup_append] at hnd
      have hpX : p ∉ X := fun h => hnd.2.2 p h p hI rfl
      have hlen := rmv_len hnd.2.1 hI
      simp only [ea, eb]
      refine ⟨rfl, ⟨X, by rw [lru_snoc, hX, rmv_append, rmv_id hpX, List.append_assoc], fun h => ?_⟩, ?_, fun x hx => by simp; exact .inl (h4 x hx), fun x hx => ?_⟩
      · have := hX2 h; rw [List.length_append]; simp; omega
      · rw [List.length_append]; simp; omega
      · simp only [List.mem_append, List.mem_singleton] at hx
        simp only [List.mem_append, List.mem_singleton, mem_rmv]
        by_cases e : x = p
        · exact .inl (.inr e)
        · rcases hx with hx | hx
          · exact (h5 x hx).imp (fun h => .inl ⟨h, e⟩) id
          · exact absurd hx e
    · rw [if_neg hI]
      obtain ⟨hx, hn⟩ := lru_tail hs h2 h3 hI
      have e1 : ∃ g', evS s I [] g = ((if (I.length : Int) = s then I.tail else I), [], g') ∧ (∀ x ∈ g', x ∈ g ∨ x ∈ I) ∧ (∀ x, x ∈ I ∨ x ∈ g → x ∈ (if (I.length : Int) = s then I.tail else I) ∨ x ∈ g') := by
        unfold evS
        by_cases hf : (I.length : Int) = s
        · rw [if_pos hf, if_pos (by simp; exact hf)]
          cases I with
          | nil => simp at hf; omega
          | cons a I =>
            refine ⟨g ++ [a], by simp [evI, evA, evP], fun x hx => ?_, fun x hx => ?_⟩
            · simp at hx ⊢; rcases hx with h | h
              · exact .inl h
              · exact .inr (.inl h)
            · simp at hx ⊢; rcases hx with (h | h) | h
              · exact .inr (.inr h)
              · exact .inl h
              · exact .inr (.inl h)
        · rw [if_neg hf, if_neg (by simp; exact hf)]
          exact ⟨g, rfl, fun x hx => .inl hx, fun x hx => hx⟩
      obtain ⟨g', e1, e2, e3⟩ := e1
      rw [e1]
      have e4 : fltS 0 p (dst g p) ((if (I.length : Int) = s then I.tail else I), [], g') = ((if (I.length : Int) = s then I.tail else I) ++ [p], [], g') := by
        unfold fltS
        simp only [ea, eb]
        split <;> rfl
      rw [e4]
      have hIl : ∀ x ∈ I, x ∈ l := fun x hx => by
        obtain ⟨X, hX, _⟩ := h2
        exact mem_lru.1 (by rw [hX]; simp [hx])
      refine ⟨rfl, hx, hn, fun x hx => ?_, fun x hx => ?_⟩
      · simp; exact .inl ((e2 x hx).elim (h4 x) (hIl x))
      · simp only [List.mem_append, List.mem_singleton] at hx ⊢
        rcases hx with hx | hx
        · exact (e3 x (h5 x hx)).imp .inl id
        · exact .inl (.inr hx)

theorem dis_cons (q : Int) (l : List Int) : (dis (q :: l)).length = if q ∈ l then (dis l).length else (dis l).length + 1 := by
  by_cases h : q ∈ l
  · rw [if_pos h]
    exact (dis_len (dis_nodup l) fun x => by rw [mem_dis]; simp only [List.mem_cons]; exact ⟨.inr, fun h1 => h1.elim (fun e => e ▸ h) id⟩).symm
  · rw [if_neg h]
    have := dis_len (l := q :: l) (m := q :: dis l) (List.nodup_cons.2 ⟨fun h1 => h (mem_dis.1 h1), dis_nodup l⟩) fun x => by simp [mem_dis]
    rw [← this]; rfl

/-- a page that was never used -/
theorem recent_new (s : Int) (hs : 1 ≤ s) (xs : List Int) (i : Nat) (hi : i < xs.length) (h : xs.getD i 0 ∉ xs.take i) : (lsS s 0 xs).2.2.2.getD i 0 = -2 := by
  rw [lsS_at hi]
  obtain ⟨h1, ⟨X, hX, _⟩, _, h4, _⟩ := rec_inv s hs (xs.take i)
  rw [h1, List.append_nil, if_neg fun h2 => h (mem_lru.1 (by rw [hX]; exact List.mem_append_right _ h2)), dst_out fun h2 => h (h4 _ h2)]
/-- a page that was used -/
theorem recent_old (s : Int) (hs : 1 ≤ s) (xs : List Int) (i : Nat) (hi : i < xs.length) (pre seg : List Int) (h : xs.take i = pre ++ xs.getD i 0 :: seg) (hp : xs.getD i 0 ∉ seg) :
    ((lsS s 0 xs).2.2.2.getD i 0 = -1 ↔ ((dis seg).length : Int) < s) ∧ (lsS s 0 xs).2.2.2.getD i 0 ≠ -2 := by
  rw [lsS_at hi]
  obtain ⟨h1, ⟨X, hX, hX2⟩, h3, h4, h5⟩ := rec_inv s hs (xs.take i)
  generalize xs.getD i 0 = p at *
  rw [h1, List.append_nil]
  obtain ⟨X', Y, hY, hYn, hYm⟩ := lru_since pre p seg hp
  rw [← h] at hY
  have hlen := dis_len hYn hYm
  rw [← hlen]
  have hnd := lru_nodup (xs.take i)
  generalize lsS s 0 (xs.take i) = q at *
  obtain ⟨I, A, g, o⟩ := q
  simp only at *
  have hpl : p ∈ xs.take i := by rw [h]; simp
  by_cases hI : p ∈ I
  · rw [if_pos hI]
    refine ⟨⟨fun _ => ?_, fun _ => rfl⟩, by decide⟩
    obtain ⟨I1, I2, rfl⟩ := List.append_of_mem hI
    have e : X' ++ p :: Y = (X ++ I1) ++ p :: I2 := by rw [← hY, hX, List.append_assoc]
    have hYl : Y.length = I2.length := by
      rw [hY] at hnd
      have hn2 := hnd
      rw [e] at hn2
      have n1 := (List.nodup_append.1 hnd)
      have n2 := (List.nodup_append.1 hn2)
      have m1 : p ∉ X' := fun h => n1.2.2 p h p (by simp) rfl
      have m2 : p ∉ X ++ I1 := fun h => n2.2.2 p h p (by simp) rfl
      have i1 : Lib.idxOf (X' ++ p :: Y) p = Lib.idxOf ((X ++ I1) ++ p :: I2) p := by rw [e]
      obtain ⟨a, ha, ha2, ha3⟩ := idx_nat (I := X' ++ p :: Y) (p := p) (by simp) hnd
      have := congrArg List.length e
      have key : ∀ (U V U' V' : List Int), U ++ p :: V = U' ++ p :: V' → p ∉ U → p ∉ U' → U.length = U'.length := fun U => by
        induction U with
        | nil =>
          intro V U' V' h _ h2
          cases U' with
          | nil => rfl
          | cons a U' => simp at h; exact absurd h.1 fun e => h2 (by simp [e])
        | cons a U ihU =>
          intro V U' V' h h1 h2
          cases U' with
          | nil => simp at h; exact absurd h.1 fun e => h1 (by simp [e])
          | cons b U' =>
            simp only [List.cons_append, List.cons.injEq] at h
            have := ihU V U' V' h.2 (fun h => h1 (by simp [h])) (fun h => h2 (by simp [h]))
            simp [this]
      have hk := key X' Y (X ++ I1) I2 e m1 m2
      simp at this hk; omega
    simp at h3
    omega
  · rw [if_neg hI]
    have hg := (h5 p hpl).resolve_left hI
    have hd := dst_in hg
    refine ⟨⟨fun h => by omega, fun hlt => ?_⟩, by omega⟩
    exfalso
    have hpX : p ∈ X := by
      have : p ∈ X ++ I := by rw [← hX, hY]; simp
      exact (List.mem_append.1 this).resolve_right hI
    have hsz := hX2 (by rintro rfl; simp at hpX)
    have hsub : ∀ x ∈ I, x ∈ Y := fun x hx => by
      have h6 : x ∈ X' ++ p :: Y := by rw [← hY, hX]; simp [hx]
      simp only [List.mem_append, List.mem_cons] at h6
      rcases h6 with h6 | h6 | h6
      · exfalso
        obtain ⟨U, V, hUV⟩ := List.append_of_mem hpX
        obtain ⟨S, T, hST⟩ := List.append_of_mem h6
        have hx1 : lru (xs.take i) = S ++ x :: (T ++ p :: Y) := by rw [hY, hST]; simp
        have hx2 : lru (xs.take i) = (U ++ p :: V) ++ I := by rw [hX, hUV]
        have hb : [x, p].Sublist (lru (xs.take i)) := by
          rw [hx1]
          exact (List.Sublist.cons_cons x ((List.singleton_sublist.2 (by simp)))).trans (List.sublist_append_right S _)
        have hb2 : [p, x].Sublist (lru (xs.take i)) := by
          rw [hx2, List.append_assoc, List.cons_append]
          exact (List.Sublist.cons_cons p ((List.singleton_sublist.2 (by simp [hx])))).trans (List.sublist_append_right U _)
        have hxp : x ≠ p := fun e => hI (e ▸ hx)
        have ord : ∀ (L : List Int), L.Nodup → [x, p].Sublist L → ¬ [p, x].Sublist L := fun L => by
          induction L with
          | nil => intro _ h; cases h
          | cons a L ihL =>
            intro hn h7 h8
            obtain ⟨n1, n2⟩ := List.nodup_cons.1 hn
            cases h7 with
            | cons _ h7 =>
              cases h8 with
              | cons _ h8 => exact ihL n2 h7 h8
              | cons_cons _ h8 => exact n1 (h7.subset (by simp))
            | cons_cons _ h7 =>
              cases h8 with
              | cons _ h8 => exact n1 (h8.subset (by simp))
              | cons_cons _ h8 => exact hxp rfl
        exact ord _ hnd hb hb2
      · exact absurd (h6 ▸ hx) hI
      · exact h6
    have hIn : I.Nodup := by rw [hX] at hnd; exact (List.nodup_append.1 hnd).2.1
    have := nodup_sub_len hIn hsub
    omega
end Go.Proofs.Ytbalmmaoiebppaa
