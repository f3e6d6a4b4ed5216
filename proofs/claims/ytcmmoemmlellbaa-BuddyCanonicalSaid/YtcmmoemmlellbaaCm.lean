/- What Check answers, as plain mathematics: the scan of the lists, the frames that lie in two blocks, the buddies that are both free; and that the answer is 0 exactly for valid lists. Conditions: none. -/
import Derived.Test.YtcmmoemmlellbaaBm
namespace Go.Proofs.Ytcmmoemmlellbaa

/-- the first error of the elements of one list, from element i on (n are left) -/
def scanF (z : Zh) (k : Nat) (l : List Int) : Nat → Nat → Int
  | 0, _ => 0
  | n + 1, i => if insB z (l.getD i 0) k = false then 3 else if 0 < i ∧ l.getD i 0 ≤ l.getD (i - 1) 0 then 10 else scanF z k l n (i + 1)

/-- the first error of the lists from order k on (n are left) -/
def scanZ (z : Zh) (L : FL) : Nat → Nat → Int
  | 0, _ => 0
  | n + 1, k => if scanF z k (L k) (L k).length 0 = 0 then scanZ z L n (k + 1) else scanF z k (L k) (L k).length 0

/-- the frames of a block, of the blocks of a list, of all lists -/
def blkF (k : Nat) (b : Int) : List Int := (List.range (2 ^ k)).map fun (i : Nat) => b + (i : Int)
def lstF (k : Nat) (l : List Int) : List Int := l.flatMap (blkF k)
def frsTo (L : FL) (k : Nat) : List Int := (List.range k).flatMap fun j => lstF j (L j)
def frs (L : FL) : List Int := frsTo L 5

def pairL (z : Zh) (L : FL) (k : Nat) : Bool := (L k).any fun f => decide (bud f k ∈ L k) && insB z (min f (bud f k)) (k + 1)
def pairB (z : Zh) (L : FL) : Bool := (List.range 4).any (pairL z L)

def chkM (z : Zh) (L : FL) : Int :=
  if z.ok = false then 2 else if scanZ z L 5 0 ≠ 0 then scanZ z L 5 0 else if ¬ (frs L).Nodup then 7 else if pairB z L = true then 11 else 0

theorem mem_blkF {k : Nat} {b f : Int} : f ∈ blkF k b ↔ inBlk f b k := by
  unfold blkF inBlk
  simp only [List.mem_map, List.mem_range]
  have e : ((2 ^ k : Nat) : Int) = (2 : Int) ^ k := by simp
  constructor
  · rintro ⟨i, hi, rfl⟩; omega
  · rintro ⟨h1, h2⟩; exact ⟨(f - b).toNat, by omega, by omega⟩

theorem mem_lstF {k : Nat} {l : List Int} {f : Int} : f ∈ lstF k l ↔ ∃ b, b ∈ l ∧ inBlk f b k := by
  unfold lstF; simp only [List.mem_flatMap, mem_blkF]

theorem mem_frs {L : FL} {f : Int} : f ∈ frs L ↔ free L f := by
  unfold frs frsTo free; simp only [List.mem_flatMap, List.mem_range, mem_lstF]
  constructor
  · rintro ⟨k, hk, h⟩; exact ⟨k, by omega, h⟩
  · rintro ⟨k, hk, h⟩; exact ⟨k, by omega, h⟩

theorem scanF_zero {z : Zh} {k : Nat} {l : List Int} : ∀ (n i : Nat), n + i = l.length → (scanF z k l n i = 0 ↔ (∀ j, i ≤ j → j < l.length → insB z (l.getD j 0) k = true) ∧ ∀ j, i ≤ j → j < l.length → 0 < j → l.getD (j - 1) 0 < l.getD j 0)
  | 0, i, h => by
    simp only [scanF, true_iff]; exact ⟨fun j h1 h2 => by omega, fun j h1 h2 => by omega⟩
  | n + 1, i, h => by
    unfold scanF
    have ih := scanF_zero (z := z) (k := k) (l := l) n (i + 1) (by omega)
    split
    · rename_i h1
      simp only [show ((3 : Int) = 0) = False by simp, false_iff]
      rintro ⟨h2, _⟩; have := h2 i (by omega) (by omega); rw [h1] at this; cases this
    · rename_i h1
      split
      · rename_i h2
        simp only [show ((10 : Int) = 0) = False by simp, false_iff]
        rintro ⟨_, h3⟩; have := h3 i (by omega) (by omega) h2.1; omega
      · rename_i h2
        rw [ih]
        constructor
        · rintro ⟨a, b⟩
          refine ⟨fun j hj hl => ?_, fun j hj hl h0 => ?_⟩
          · by_cases e : j = i
            · subst e; simpa using h1
            · exact a j (by omega) hl
          · by_cases e : j = i
            · subst e; omega
            · exact b j (by omega) hl h0
        · rintro ⟨a, b⟩
          exact ⟨fun j hj => a j (by omega), fun j hj => b j (by omega)⟩

theorem getD_eq {l : List Int} {j : Nat} (h : j < l.length) : l.getD j 0 = l[j] := by simp [List.getD, List.getElem?_eq_getElem h]

theorem sorted_of_steps : ∀ {l : List Int}, (∀ j, j < l.length → 0 < j → l.getD (j - 1) 0 < l.getD j 0) → l.Pairwise (· < ·)
  | [], _ => List.Pairwise.nil
  | [x], _ => by simp
  | x :: y :: l, h => by
    have h1 : (y :: l).Pairwise (· < ·) := sorted_of_steps fun j hj h0 => by
      have := h (j + 1) (by simp only [List.length_cons] at *; omega) (by omega)
      rw [show j + 1 - 1 = (j - 1) + 1 by omega] at this
      simpa [List.getD_cons_succ] using this
    have h2 := h 1 (by simp) (by omega)
    simp at h2
    refine List.pairwise_cons.2 ⟨fun z hz => ?_, h1⟩
    rcases List.mem_cons.1 hz with rfl | hz
    · exact h2
    · have := (List.pairwise_cons.1 h1).1 z hz; omega

theorem steps_of_sorted {l : List Int} (h : l.Pairwise (· < ·)) : ∀ j, j < l.length → 0 < j → l.getD (j - 1) 0 < l.getD j 0 := by
  intro j hj h0
  rw [getD_eq hj, getD_eq (show j - 1 < l.length by omega)]
  exact List.pairwise_iff_getElem.1 h (j - 1) j (by omega) hj (by omega)

theorem scanL_zero {z : Zh} {k : Nat} {l : List Int} : scanF z k l l.length 0 = 0 ↔ (∀ b, b ∈ l → insB z b k = true) ∧ l.Pairwise (· < ·) := by
  rw [scanF_zero _ _ (by omega)]
  constructor
  · rintro ⟨a, b⟩
    refine ⟨fun x hx => ?_, sorted_of_steps fun j => b j (by omega)⟩
    obtain ⟨j, hj, rfl⟩ := List.mem_iff_getElem.1 hx
    have := a j (by omega) hj; rwa [getD_eq hj] at this
  · rintro ⟨a, b⟩
    exact ⟨fun j _ hj => by rw [getD_eq hj]; exact a _ (List.getElem_mem hj), fun j _ => steps_of_sorted b j⟩

theorem scanZ_zero {z : Zh} {L : FL} : ∀ (n k : Nat), scanZ z L n k = 0 ↔ ∀ j, k ≤ j → j < k + n → (∀ b, b ∈ L j → insB z b j = true) ∧ (L j).Pairwise (· < ·)
  | 0, k => by simp only [scanZ, true_iff]; intro j h1 h2; omega
  | n + 1, k => by
    unfold scanZ
    have ih := scanZ_zero (z := z) (L := L) n (k + 1)
    split
    · rename_i h
      rw [ih]
      constructor
      · intro a j h1 h2
        by_cases e : j = k
        · subst e; exact scanL_zero.1 h
        · exact a j (by omega) (by omega)
      · intro a j h1 h2; exact a j (by omega) (by omega)
    · rename_i h
      refine iff_of_false h fun a => h (scanL_zero.2 (a k (by omega) (by omega)))

theorem nodup_flatMap {α : Type} {β : Type} {f : α → List β} : ∀ {l : List α}, (l.flatMap f).Nodup → (∀ a, a ∈ l → (f a).Nodup) ∧ l.Pairwise (fun a b => ∀ x, x ∈ f a → x ∉ f b)
  | [], _ => ⟨by simp, List.Pairwise.nil⟩
  | a :: l, h => by
    simp only [List.flatMap_cons, List.nodup_append] at h
    obtain ⟨h1, h2, h3⟩ := h
    obtain ⟨i1, i2⟩ := nodup_flatMap h2
    refine ⟨fun b hb => ?_, List.pairwise_cons.2 ⟨fun b hb x hx hx' => ?_, i2⟩⟩
    · rcases List.mem_cons.1 hb with rfl | hb
      · exact h1
      · exact i1 b hb
    · exact h3 x hx x (List.mem_flatMap.2 ⟨b, hb, hx'⟩) rfl

theorem nodup_flatMap' {α : Type} {β : Type} {f : α → List β} : ∀ {l : List α}, (∀ a, a ∈ l → (f a).Nodup) → l.Pairwise (fun a b => ∀ x, x ∈ f a → x ∉ f b) → (l.flatMap f).Nodup
  | [], _, _ => by simp
  | a :: l, h1, h2 => by
    obtain ⟨h3, h4⟩ := List.pairwise_cons.1 h2
    simp only [List.flatMap_cons, List.nodup_append]
    refine ⟨h1 a (by simp), nodup_flatMap' (fun b hb => h1 b (by simp [hb])) h4, fun x hx y hy e => ?_⟩
    subst e
    obtain ⟨b, hb, hx'⟩ := List.mem_flatMap.1 hy
    exact h3 b hb x hx hx'

theorem blkF_nodup (k : Nat) (b : Int) : (blkF k b).Nodup := by
  unfold blkF List.Nodup
  rw [List.pairwise_map]
  refine List.Pairwise.imp ?_ List.nodup_range
  intro x y h h'; exact h (by omega)

theorem chkM_zero {z : Zh} {L : FL} : chkM z L = 0 ↔ z.ok = true ∧ Valid z L := by
  unfold chkM
  have hs := scanZ_zero (z := z) (L := L) 5 0
  by_cases hz : z.ok = false
  · rw [if_pos hz]; simp [hz]
  rw [if_neg hz]
  have hz' : z.ok = true := by simpa using hz
  by_cases h1 : scanZ z L 5 0 = 0
  · rw [if_neg (by simp [h1])]
    have h2 := hs.1 h1
    have hsort : ∀ k, k ≤ 4 → (L k).Pairwise (· < ·) := fun k hk => (h2 k (by omega) (by omega)).2
    have hins : ∀ k, k ≤ 4 → ∀ b, b ∈ L k → insB z b k = true := fun k hk => (h2 k (by omega) (by omega)).1
    by_cases h3 : (frs L).Nodup
    · rw [if_neg (by simpa using h3)]
      obtain ⟨d1, d2⟩ := nodup_flatMap h3
      have hdisj : ∀ j k, j ≤ 4 → k ≤ 4 → ∀ b c f, b ∈ L j → c ∈ L k → inBlk f b j → inBlk f c k → j = k ∧ b = c := by
        intro j k hj hk b c f hb hc h4 h5
        have hne : ¬ j < k := fun hjk => by
          have := List.pairwise_iff_getElem.1 d2 j k (by simp; omega) (by simp; omega) hjk f
          simp only [List.getElem_range] at this
          exact this (mem_lstF.2 ⟨b, hb, h4⟩) (mem_lstF.2 ⟨c, hc, h5⟩)
        have hne' : ¬ k < j := fun hjk => by
          have := List.pairwise_iff_getElem.1 d2 k j (by simp; omega) (by simp; omega) hjk f
          simp only [List.getElem_range] at this
          exact this (mem_lstF.2 ⟨c, hc, h5⟩) (mem_lstF.2 ⟨b, hb, h4⟩)
        obtain rfl : j = k := by omega
        refine ⟨rfl, ?_⟩
        obtain ⟨_, e2⟩ := nodup_flatMap (d1 j (by simp; omega))
        obtain ⟨x, hx, rfl⟩ := List.mem_iff_getElem.1 hb
        obtain ⟨y, hy, rfl⟩ := List.mem_iff_getElem.1 hc
        have a1 : ¬ x < y := fun hxy => List.pairwise_iff_getElem.1 e2 x y hx hy hxy f (mem_blkF.2 h4) (mem_blkF.2 h5)
        have a2 : ¬ y < x := fun hxy => List.pairwise_iff_getElem.1 e2 y x hy hx hxy f (mem_blkF.2 h5) (mem_blkF.2 h4)
        congr 1; omega
      have hpair : pairB z L = true ↔ ∃ k, k < 4 ∧ ∃ b, b ∈ L k ∧ b + 2 ^ k ∈ L k ∧ insB z b (k + 1) = true := by
        unfold pairB pairL
        simp only [List.any_eq_true, List.mem_range, Bool.and_eq_true, decide_eq_true_eq]
        constructor
        · rintro ⟨k, hk, f, hf, hb, hu⟩
          have hm := (insB_iff.1 (hins k (by omega) f hf)).2.1
          rcases bud_cases (show k ≤ 4 by omega) hm with ⟨e1, e2, _⟩ | ⟨e1, e2, _⟩
          · rw [e2] at hu; exact ⟨k, hk, f, hf, by rw [← e1]; exact hb, hu⟩
          · rw [e2] at hu; exact ⟨k, hk, f - 2 ^ k, by rw [← e1]; exact hb, by rw [Int.sub_add_cancel]; exact hf, hu⟩
        · rintro ⟨k, hk, b, hb, hb', hu⟩
          have hbb : bud b k = b + 2 ^ k := by unfold bud; rw [if_pos (insB_iff.1 hu).2.1]
          have := pow_pos' k
          exact ⟨k, hk, b, hb, by rw [hbb]; exact hb', by rw [hbb, show min b (b + 2 ^ k) = b by omega]; exact hu⟩
      by_cases h4 : pairB z L = true
      · rw [if_pos h4]
        obtain ⟨k, hk, b, hb, hb', hu⟩ := hpair.1 h4
        exact iff_of_false (by omega) fun ⟨_, v⟩ => v.join k hk b hb hb' hu
      · rw [if_neg h4]
        refine iff_of_true rfl ⟨hz', ⟨hins, hsort, hdisj, fun k hk b hb hb' hu => h4 (hpair.2 ⟨k, hk, b, hb, hb', hu⟩)⟩⟩
    · rw [if_pos (by simpa using h3)]
      refine iff_of_false (by omega) fun ⟨_, v⟩ => h3 ?_
      refine nodup_flatMap' (fun k hk => ?_) ?_
      · have hk' : k ≤ 4 := by simp at hk; omega
        refine nodup_flatMap' (fun b _ => blkF_nodup k b) ((hsort k hk').imp_of_mem fun {a b} ha hb hab f h4 h5 => ?_)
        have := (v.disj k k hk' hk' a b f ha hb (mem_blkF.1 h4) (mem_blkF.1 h5)).2; omega
      · refine (List.nodup_range).imp_of_mem fun {i j} hi hj hij f h4 h5 => ?_
        obtain ⟨b, hb, h6⟩ := mem_lstF.1 h4
        obtain ⟨c, hc, h7⟩ := mem_lstF.1 h5
        exact hij (v.disj i j (by simp at hi; omega) (by simp at hj; omega) b c f hb hc h6 h7).1
  · rw [if_pos (by simpa using h1)]
    exact iff_of_false h1 fun ⟨_, v⟩ => h1 (hs.2 fun j _ hj => ⟨v.ins j (by omega), v.sorted j (by omega)⟩)

theorem chk_scan {z : Zh} {L : FL} {k : Nat} {e : Int} (hz : z.ok = true) (hk : k < 5) (hs : scanZ z L (5 - k) k = scanZ z L 5 0) (hf : scanF z k (L k) (L k).length 0 = e) (he : e ≠ 0) : chkM z L = e := by
  have h1 : scanZ z L 5 0 = e := by
    rw [← hs, show 5 - k = (5 - (k + 1)) + 1 by omega, scanZ, hf, if_neg he]
  unfold chkM
  rw [if_neg (by simp [hz]), h1, if_pos he]

theorem scanF_step {z : Zh} {k : Nat} {l : List Int} {i : Nat} (h : i < l.length) : scanF z k l (l.length - i) i = if insB z (l.getD i 0) k = false then 3 else if 0 < i ∧ l.getD i 0 ≤ l.getD (i - 1) 0 then 10 else scanF z k l (l.length - (i + 1)) (i + 1) := by
  rw [show l.length - i = (l.length - (i + 1)) + 1 by omega, scanF]

theorem scanZ_step {z : Zh} {L : FL} {k : Nat} (hk : k < 5) (h : scanF z k (L k) (L k).length 0 = 0) : scanZ z L (5 - k) k = scanZ z L (5 - (k + 1)) (k + 1) := by
  rw [show 5 - k = (5 - (k + 1)) + 1 by omega, scanZ, if_pos h]

def P2 (L : FL) (k i : Nat) : List Int := frsTo L k ++ lstF k ((L k).take i)
def P3 (L : FL) (k i : Nat) (x : Int) (t : Nat) : List Int := P2 L k i ++ (blkF k x).take t

theorem blkF_len (k : Nat) (x : Int) : (blkF k x).length = 2 ^ k := by simp [blkF]
theorem frsTo_succ (L : FL) (k : Nat) : frsTo L (k + 1) = frsTo L k ++ lstF k (L k) := by
  unfold frsTo; rw [List.range_succ, List.flatMap_append]; simp
theorem P2_zero (L : FL) (k : Nat) : P2 L k 0 = frsTo L k := by simp [P2, lstF]
theorem P2_done (L : FL) (k : Nat) {i : Nat} (h : (L k).length ≤ i) : P2 L k i = frsTo L (k + 1) := by
  rw [P2, List.take_of_length_le h, frsTo_succ]
theorem P3_zero (L : FL) (k i : Nat) (x : Int) : P3 L k i x 0 = P2 L k i := by simp [P3]
theorem P3_step {L : FL} {k i : Nat} {x : Int} {t : Nat} (h : t < 2 ^ k) : P3 L k i x (t + 1) = P3 L k i x t ++ [x + t] := by
  unfold P3
  rw [List.take_succ_eq_append_getElem (by rw [blkF_len]; exact h), List.append_assoc]
  simp [blkF]
theorem P3_done {L : FL} {k i t : Nat} (h : i < (L k).length) (ht : 2 ^ k ≤ t) : P3 L k i ((L k).getD i 0) t = P2 L k (i + 1) := by
  unfold P3 P2
  rw [List.take_of_length_le (l := blkF k _) (by rw [blkF_len]; exact ht), List.take_succ_eq_append_getElem h, getD_eq h]
  unfold lstF
  rw [List.flatMap_append, List.append_assoc]
  congr 1
  congr 1
  simp
theorem frsTo_prefix {L : FL} {k : Nat} : ∀ n, frsTo L k <+: frsTo L (k + n)
  | 0 => List.prefix_rfl
  | n + 1 => (frsTo_prefix n).trans (by rw [show k + (n + 1) = (k + n) + 1 by omega, frsTo_succ]; exact List.prefix_append _ _)
theorem P2_prefix {L : FL} {k i : Nat} (hk : k < 5) : P2 L k i <+: frs L := by
  have h1 : P2 L k i <+: frsTo L (k + 1) := by
    rw [frsTo_succ, P2]
    refine List.prefix_append_right_inj _ |>.2 ?_
    unfold lstF
    conv => rhs; rw [← List.take_append_drop i (L k), List.flatMap_append]
    exact List.prefix_append _ _
  have h2 : frsTo L (k + 1) <+: frs L := by
    have := frsTo_prefix (L := L) (k := k + 1) (5 - (k + 1)); rwa [show k + 1 + (5 - (k + 1)) = 5 by omega] at this
  exact h1.trans h2
theorem P3_prefix {L : FL} {k i : Nat} (hk : k < 5) (h : i < (L k).length) (t : Nat) : P3 L k i ((L k).getD i 0) t <+: frs L := by
  have h1 : P3 L k i ((L k).getD i 0) t <+: P2 L k (i + 1) := by
    rw [← P3_done h (Nat.le_refl (2 ^ k)), P3, P3]
    refine List.prefix_append_right_inj _ |>.2 ?_
    rw [List.take_of_length_le (show (blkF k ((L k).getD i 0)).length ≤ 2 ^ k by rw [blkF_len]; exact Nat.le_refl _)]
    exact List.take_prefix _ _
  exact h1.trans (P2_prefix hk)
theorem dup_frs {L : FL} {k i t : Nat} (hk : k < 5) (h : i < (L k).length) (ht : t < 2 ^ k) (hm : (L k).getD i 0 + t ∈ P3 L k i ((L k).getD i 0) t) : ¬ (frs L).Nodup := by
  intro hn
  have h1 := (P3_prefix hk h (t + 1)).sublist
  have h2 := List.Pairwise.sublist h1 hn
  rw [P3_step ht] at h2
  have h3 := (List.nodup_append.1 h2).2.2 _ hm _ (List.mem_singleton.2 rfl)
  exact h3 rfl
theorem nodup_snoc {P : List Int} {a : Int} (h : P.Nodup) (ha : a ∉ P) : (P ++ [a]).Nodup := by
  rw [List.nodup_append]; refine ⟨h, by simp, fun x hx y hy e => ?_⟩
  simp at hy; subst hy; subst e; exact ha hx
theorem chk_dup {z : Zh} {L : FL} (hz : z.ok = true) (hs : scanZ z L 5 0 = 0) (h : ¬ (frs L).Nodup) : chkM z L = 7 := by
  unfold chkM; rw [if_neg (by simp [hz]), if_neg (by simp [hs]), if_pos h]
theorem chk_pair {z : Zh} {L : FL} (hz : z.ok = true) (hs : scanZ z L 5 0 = 0) (h : (frs L).Nodup) : chkM z L = if pairB z L = true then 11 else 0 := by
  unfold chkM; rw [if_neg (by simp [hz]), if_neg (by simp [hs]), if_neg (by simpa using h)]

def pairAt (z : Zh) (L : FL) (k : Nat) (x : Int) : Bool := decide (bud x k ∈ L k) && insB z (min x (bud x k)) (k + 1)
theorem pairB_true {z : Zh} {L : FL} {k i : Nat} (hk : k < 4) (hi : i < (L k).length) (h : pairAt z L k ((L k).getD i 0) = true) : pairB z L = true := by
  unfold pairB pairL
  simp only [List.any_eq_true, List.mem_range]
  exact ⟨k, hk, _, by rw [getD_eq hi]; exact List.getElem_mem hi, h⟩
theorem pairL_false {z : Zh} {L : FL} {k : Nat} (h : ∀ i, i < (L k).length → pairAt z L k ((L k).getD i 0) = false) : pairL z L k = false := by
  unfold pairL
  rw [List.any_eq_false]
  intro x hx
  obtain ⟨i, hi, rfl⟩ := List.mem_iff_getElem.1 hx
  have h1 := h i hi
  rw [getD_eq hi] at h1
  exact Bool.eq_false_iff.1 h1
theorem pairB_false {z : Zh} {L : FL} (h : ∀ k, k < 4 → pairL z L k = false) : pairB z L = false := by
  unfold pairB
  rw [List.any_eq_false]
  intro k hk
  simp only [List.mem_range] at hk
  rw [h k hk]; simp

theorem list_len {z : Zh} {l : List Int} {k : Nat} (hz : z.ok = true) (h1 : ∀ b, b ∈ l → insB z b k = true) (h2 : l.Pairwise (· < ·)) : l.length ≤ 256 := by
  have hz' : 0 ≤ z.st ∧ z.st + z.ct ≤ 256 := by simp [Zh.ok] at hz; omega
  have hp := pow_pos' k
  rcases sorted_len (a := 0) (b := 256) h2 (fun x hx => by have := insB_iff.1 (h1 x hx); omega) with h | h
  · omega
  · rw [h]; simp

end Go.Proofs.Ytcmmoemmlellbaa
