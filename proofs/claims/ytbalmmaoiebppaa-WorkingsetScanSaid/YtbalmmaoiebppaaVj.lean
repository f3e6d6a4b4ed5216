/- Plain laws of the two replays: the answer at a place, the record that a plain replay keeps, the number of faults. Conditions: none. -/
import Derived.Test.YtbalmmaoiebppaaVt
namespace Go.Proofs.Ytbalmmaoiebppaa

/-- answers are only added -/
theorem rf_grow (s : Int) : ∀ (l : List Int) (q : List Int × List Int × List Int), ∃ t, (l.foldl (rfStep s) q).2.2 = q.2.2 ++ t
  | [], q => ⟨[], by simp⟩
  | p :: l, q => by
    obtain ⟨t, ht⟩ := rf_grow s l (rfStep s q p)
    have h1 : ∃ y, (rfStep s q p).2.2 = q.2.2 ++ [y] := by
      unfold rfStep
      split
      · exact ⟨_, rfl⟩
      · split <;> exact ⟨_, rfl⟩
    obtain ⟨y, hy⟩ := h1
    exact ⟨[y] ++ t, by rw [List.foldl_cons, ht, hy, List.append_assoc]⟩
theorem ls_grow (s bd : Int) : ∀ (l : List Int) (q : LQ), ∃ t, (l.foldl (lsStep s bd) q).2.2.2 = q.2.2.2 ++ t
  | [], q => ⟨[], by simp⟩
  | p :: l, q => by
    obtain ⟨t, ht⟩ := ls_grow s bd l (lsStep s bd q p)
    have h1 : ∃ y, (lsStep s bd q p).2.2.2 = q.2.2.2 ++ [y] := by
      unfold lsStep
      split
      · exact ⟨_, rfl⟩
      · split <;> exact ⟨_, rfl⟩
    obtain ⟨y, hy⟩ := h1
    exact ⟨[y] ++ t, by rw [List.foldl_cons, ht, hy, List.append_assoc]⟩

theorem rfS_len (s : Int) (xs : List Int) : (rfS s xs).2.2.length = xs.length := by
  induction xs using snoc_ind with
  | h0 => rfl
  | h1 l p ih =>
    rw [rfS_snoc]
    have h1 : ∃ y, (rfStep s (rfS s l) p).2.2 = (rfS s l).2.2 ++ [y] := by
      unfold rfStep
      split
      · exact ⟨_, rfl⟩
      · split <;> exact ⟨_, rfl⟩
    obtain ⟨y, hy⟩ := h1
    rw [hy]; simp [ih]
theorem lsS_len (s bd : Int) (xs : List Int) : (lsS s bd xs).2.2.2.length = xs.length := by
  induction xs using snoc_ind with
  | h0 => rfl
  | h1 l p ih =>
    rw [lsS_snoc]
    have h1 : ∃ y, (lsStep s bd (lsS s bd l) p).2.2.2 = (lsS s bd l).2.2.2 ++ [y] := by
      unfold lsStep
      split
      · exact ⟨_, rfl⟩
      · split <;> exact ⟨_, rfl⟩
    obtain ⟨y, hy⟩ := h1
    rw [hy]; simp [ih]

/-- the answer at a place -/
theorem rfS_at {s : Int} {xs : List Int} {k : Nat} (h : k < xs.length) : (rfS s xs).2.2.getD k 0 = if xs.getD k 0 ∈ (rfS s (xs.take k)).1 then -1 else dst (rfS s (xs.take k)).2.1 (xs.getD k 0) := by
  have h1 : rfS s xs = (xs.drop (k + 1)).foldl (rfStep s) (rfS s (xs.take (k + 1))) := by
    unfold rfS; rw [← List.foldl_append, List.take_append_drop]
  obtain ⟨t, ht⟩ := rf_grow s (xs.drop (k + 1)) (rfS s (xs.take (k + 1)))
  rw [← h1, rfS_step h] at ht
  have hl : (rfS s (xs.take k)).2.2.length = k := by rw [rfS_len, List.length_take]; omega
  rw [ht]
  generalize rfS s (xs.take k) = q at *
  obtain ⟨c, g, o⟩ := q
  simp only at hl
  unfold rfStep
  simp only
  split
  · simp [← hl]
  · split <;> simp [← hl]
theorem lsS_at {s bd : Int} {xs : List Int} {k : Nat} (h : k < xs.length) : (lsS s bd xs).2.2.2.getD k 0 = if xs.getD k 0 ∈ (lsS s bd (xs.take k)).1 ++ (lsS s bd (xs.take k)).2.1 then -1 else dst (lsS s bd (xs.take k)).2.2.1 (xs.getD k 0) := by
  have h1 : lsS s bd xs = (xs.drop (k + 1)).foldl (lsStep s bd) (lsS s bd (xs.take (k + 1))) := by
    unfold lsS; rw [← List.foldl_append, List.take_append_drop]
  obtain ⟨t, ht⟩ := ls_grow s bd (xs.drop (k + 1)) (lsS s bd (xs.take (k + 1)))
  rw [← h1, lsS_step h] at ht
  have hl : (lsS s bd (xs.take k)).2.2.2.length = k := by rw [lsS_len, List.length_take]; omega
  rw [ht]
  generalize lsS s bd (xs.take k) = q at *
  obtain ⟨I, A, g, o⟩ := q
  simp only at hl
  unfold lsStep
  simp only [List.mem_append]
  by_cases hA : xs.getD k 0 ∈ A
  · rw [if_pos hA, if_pos (.inr hA)]; simp [← hl]
  · rw [if_neg hA]
    by_cases hI : xs.getD k 0 ∈ I
    · rw [if_pos hI, if_pos (.inl hI)]; simp [← hl]
    · rw [if_neg hI, if_neg (by rintro (h | h); exact hI h; exact hA h)]; simp [← hl]

theorem dst_ne (g : List Int) (p : Int) : dst g p = -2 ∨ 0 ≤ dst g p := by
  unfold dst
  cases e : lst g p with
  | none => exact .inl rfl
  | some a => have := lst_range e; right; simp only []; omega

/-- what a plain replay records of a page -/
def atv (c g : List Int) (p : Int) : Int := if p ∈ c then -1 else match lst g p with | none => 0 | some a => 1 + a
theorem atv_dst {c g : List Int} {p : Int} (h : p ∉ c) : (atv c g p = 0 ∧ dst g p = -2) ∨ (0 < atv c g p ∧ atv c g p ≤ (g.length : Int) + 1 ∧ dst g p = (g.length : Int) + 1 - atv c g p) := by
  unfold atv dst
  rw [if_neg h]
  cases e : lst g p with
  | none => exact .inl ⟨rfl, rfl⟩
  | some a => have := lst_range e; right; simp only []; omega
theorem atv_in {c g : List Int} {p : Int} (h : p ∈ c) : atv c g p = -1 := if_pos h
theorem atv_room {c g : List Int} {p : Int} : (fun j => atv (c ++ [p]) g j) = fun j => if j = p then -1 else atv c g j := by
  funext j
  unfold atv
  by_cases e : j = p
  · simp [e]
  · simp [e]
theorem atv_full {c g : List Int} {p x : Int} (hp : p ∉ x :: c) (hn : (x :: c).Nodup) : (fun j => atv (c ++ [p]) (g ++ [x]) j) = fun j => if j = p then -1 else if j = x then 1 + ((g.length : Int) + 1) else atv (x :: c) g j := by
  funext j
  unfold atv
  rw [lst_snoc]
  by_cases e : j = p
  · simp [e]
  · by_cases e2 : j = x
    · have := (List.nodup_cons.1 hn).1
      subst e2; simp [e, this]
    · simp [e, e2]

/-- faults -/
def flt (l : List Int) : Nat := l.countP fun x => decide (x ≠ -1)
theorem flt_snoc (l : List Int) (x : Int) : flt (l ++ [x]) = flt l + if x = -1 then 0 else 1 := by
  unfold flt; rw [List.countP_append]; by_cases h : x = -1 <;> simp [h]
theorem flt_le (l : List Int) : flt l ≤ l.length := List.countP_le_length

/-- the different numbers of a list -/
def dis (l : List Int) : List Int := l.foldl (fun s p => if p ∈ s then s else s ++ [p]) []
theorem dis_snoc (l : List Int) (p : Int) : dis (l ++ [p]) = if p ∈ dis l then dis l else dis l ++ [p] := by unfold dis; rw [List.foldl_append]; rfl
theorem mem_dis {l : List Int} : ∀ {x : Int}, x ∈ dis l ↔ x ∈ l := by
  induction l using snoc_ind with
  | h0 => intro x; simp [dis]
  | h1 l p ih =>
    intro x
    rw [dis_snoc]
    split
    · rename_i h
      rw [ih]; simp only [List.mem_append, List.mem_singleton]
      exact ⟨.inl, fun h1 => h1.elim id fun e => by subst e; exact ih.1 h⟩
    · simp [ih]
theorem dis_nodup (l : List Int) : (dis l).Nodup := by
  induction l using snoc_ind with
  | h0 => simp [dis]
  | h1 l p ih =>
    rw [dis_snoc]
    split
    · exact ih
    · rename_i h
      rw [List.nodup_append]
      exact ⟨ih, by simp, fun a ha b hb e => by simp at hb; subst hb; subst e; exact h ha⟩
theorem dis_len_le (l : List Int) : (dis l).length ≤ l.length := by
  induction l using snoc_ind with
  | h0 => simp [dis]
  | h1 l p ih => rw [dis_snoc]; split <;> simp <;> omega
theorem nodup_sub_len : ∀ {l m : List Int}, l.Nodup → (∀ x ∈ l, x ∈ m) → l.length ≤ m.length
  | [], _, _, _ => by simp
  | a :: l, m, hn, hs => by
    obtain ⟨s, t, rfl⟩ := List.append_of_mem (hs a (by simp))
    have hl : l.length ≤ (s ++ t).length := nodup_sub_len (List.nodup_cons.1 hn).2 fun x hx => by
      have h1 := hs x (by simp [hx])
      have h2 : x ≠ a := fun e => (List.nodup_cons.1 hn).1 (e ▸ hx)
      simp [h2] at h1 ⊢; exact h1
    simp at hl ⊢; omega
/-- a list without repetition of the same numbers is as long -/
theorem dis_len {l m : List Int} (hn : m.Nodup) (h : ∀ x, x ∈ m ↔ x ∈ l) : m.length = (dis l).length :=
  Nat.le_antisymm (nodup_sub_len hn fun x hx => mem_dis.2 ((h x).1 hx)) (nodup_sub_len (dis_nodup l) fun x hx => (h x).2 (mem_dis.1 hx))
theorem dis_mono (l : List Int) (p : Int) : (dis l).length ≤ (dis (l ++ [p])).length := by rw [dis_snoc]; split <;> simp

/-- each page faults at least once -/
theorem rf_few (s : Int) (hs : 1 ≤ s) (xs : List Int) : (dis xs).length ≤ flt (rfS s xs).2.2 := by
  induction xs using snoc_ind with
  | h0 => simp [dis]
  | h1 l p ih =>
    obtain ⟨_, _, _, _, h5⟩ := rfS_inv s hs l
    rw [rfS_snoc, dis_snoc]
    generalize rfS s l = q at *
    obtain ⟨c, g, o⟩ := q
    simp only at ih h5
    unfold rfStep
    simp only
    by_cases hp : p ∈ c
    · rw [if_pos hp, if_pos (mem_dis.2 (h5 p hp)), flt_snoc]; simp; exact ih
    · rw [if_neg hp]
      have hd : dst g p ≠ -1 := by have := dst_ne g p; omega
      split
      · split <;> (rw [flt_snoc]; omega)
      · split <;> (rw [flt_snoc, if_neg hd, List.length_append]; simp; omega)

/-- with room enough, each page faults once -/
theorem rf_all (s : Int) (xs : List Int) : ((dis xs).length : Int) ≤ s → (rfS s xs).1 = dis xs ∧ (rfS s xs).2.1 = [] ∧ flt (rfS s xs).2.2 = (dis xs).length := by
  induction xs using snoc_ind with
  | h0 => intro _; simp [rfS, dis, flt]
  | h1 l p ih =>
    intro hs
    have := dis_mono l p
    obtain ⟨h1, h2, h3⟩ := ih (by omega)
    rw [dis_snoc] at hs
    rw [rfS_snoc, dis_snoc]
    generalize rfS s l = q at *
    obtain ⟨c, g, o⟩ := q
    simp only at h1 h2 h3
    subst h1 h2
    unfold rfStep
    simp only
    by_cases hp : p ∈ dis l
    · rw [if_pos hp, if_pos hp]; exact ⟨rfl, rfl, by rw [flt_snoc]; simp; exact h3⟩
    · rw [if_neg hp] at hs
      rw [if_neg hp, if_neg hp, if_neg (by simp at hs; omega)]
      refine ⟨rfl, rfl, ?_⟩
      rw [flt_snoc, show dst [] p = -2 from rfl]; simp; omega
theorem ls_all (s bd : Int) (xs : List Int) : ((dis xs).length : Int) ≤ s → ((lsS s bd xs).1 ++ (lsS s bd xs).2.1).Perm (dis xs) ∧ (lsS s bd xs).2.2.1 = [] ∧ flt (lsS s bd xs).2.2.2 = (dis xs).length := by
  induction xs using snoc_ind with
  | h0 => intro _; simp [lsS, dis, flt]
  | h1 l p ih =>
    intro hs
    have := dis_mono l p
    obtain ⟨h1, h2, h3⟩ := ih (by omega)
    rw [dis_snoc] at hs
    rw [lsS_snoc, dis_snoc]
    generalize lsS s bd l = q at *
    obtain ⟨I, A, g, o⟩ := q
    simp only at h1 h2 h3
    subst h2
    have hl := h1.length_eq
    rw [List.length_append] at hl
    have hn := h1.nodup_iff.2 (dis_nodup l)
    have hmem : p ∈ dis l ↔ p ∈ I ++ A := h1.mem_iff.symm
    rw [List.mem_append] at hmem
    unfold lsStep
    simp only
    by_cases hA : p ∈ A
    · rw [if_pos hA, if_pos (hmem.2 (.inr hA))]; exact ⟨h1, rfl, by rw [flt_snoc]; simp; exact h3⟩
    · rw [if_neg hA]
      by_cases hI : p ∈ I
      · rw [if_pos hI, if_pos (hmem.2 (.inl hI))]
        refine ⟨?_, rfl, by rw [flt_snoc]; simp; exact h3⟩
        obtain ⟨i, _, hil, he⟩ := idx_nat hI (List.nodup_append.1 hn).1
        obtain ⟨u, t, rfl⟩ := List.append_of_mem hI
        have hut : remP (u ++ p :: t) p = u ++ t := by
          have h4 := (List.nodup_append.1 hn).1
          rw [List.nodup_append] at h4
          unfold remP
          rw [List.filter_append, List.filter_cons]
          have e1 : u.filter (fun x => decide (x ≠ p)) = u := List.filter_eq_self.2 fun x hx => by simp; exact fun e => h4.2.2 x hx p (by simp) e
          have e2 : t.filter (fun x => decide (x ≠ p)) = t := List.filter_eq_self.2 fun x hx => by simp; exact fun e => (List.nodup_cons.1 h4.2.1).1 (e ▸ hx)
          rw [e1, e2]; simp
        refine (act_perm _ _ _ _).trans (List.Perm.trans ?_ h1)
        rw [hut]
        have : (u ++ t ++ A ++ [p]).Perm (p :: (u ++ t ++ A)) := List.perm_append_comm (l₁ := u ++ t ++ A) (l₂ := [p])
        refine this.trans ?_
        rw [List.append_assoc u t A, List.append_assoc u (p :: t) A, List.cons_append]
        exact (List.perm_middle).symm
      · have hnd : p ∉ dis l := fun h => (hmem.1 h).elim hI hA
        rw [if_neg hnd, List.length_append] at hs
        simp only [List.length_cons, List.length_nil] at hs
        rw [if_neg hI, if_neg hnd]
        have e1 : evS s I A [] = (I, A, []) := by unfold evS; rw [if_neg (by omega)]
        rw [e1, show dst [] p = -2 from rfl]
        have e2 : fltS bd p (-2) (I, A, []) = (I ++ [p], A, []) := by unfold fltS actv; simp
        rw [e2]
        refine ⟨?_, rfl, by rw [flt_snoc]; simp; omega⟩
        simp only
        refine List.Perm.trans ?_ (List.Perm.append_right [p] h1)
        rw [List.append_assoc, List.append_assoc]
        exact List.Perm.append_left _ List.perm_append_comm
end Go.Proofs.Ytbalmmaoiebppaa
