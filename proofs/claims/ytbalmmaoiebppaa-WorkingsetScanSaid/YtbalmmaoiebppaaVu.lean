/- Plain law of a scan: pages that were used twice stay. Conditions: none. -/
import Derived.Test.YtbalmmaoiebppaaVk
namespace Go.Proofs.Ytbalmmaoiebppaa

/-- 0 .. k-1, and from 100 on -/
def upN (k : Nat) : List Int := (List.range k).map fun (j : Nat) => (j : Int)
def upQ (k : Nat) : List Int := (List.range k).map fun (j : Nat) => 100 + (j : Int)
theorem upN_succ (k : Nat) : upN (k + 1) = upN k ++ [(k : Int)] := by unfold upN; rw [List.range_succ]; simp
theorem upQ_succ (k : Nat) : upQ (k + 1) = upQ k ++ [100 + (k : Int)] := by unfold upQ; rw [List.range_succ]; simp
theorem upN_len (k : Nat) : (upN k).length = k := by simp [upN]
theorem upQ_len (k : Nat) : (upQ k).length = k := by simp [upQ]
theorem mem_upN {k : Nat} {x : Int} : x ∈ upN k ↔ 0 ≤ x ∧ x < k := by
  unfold upN
  simp only [List.mem_map, List.mem_range]
  constructor
  · rintro ⟨j, h1, rfl⟩; omega
  · intro h; exact ⟨x.toNat, by omega, by omega⟩
theorem mem_upQ {k : Nat} {x : Int} : x ∈ upQ k ↔ 100 ≤ x ∧ x < 100 + k := by
  unfold upQ
  simp only [List.mem_map, List.mem_range]
  constructor
  · rintro ⟨j, h1, rfl⟩; omega
  · intro h; exact ⟨(x - 100).toNat, by omega, by omega⟩
/-- k .. n-1 -/
def upR (n k : Nat) : List Int := (List.range (n - k)).map fun (j : Nat) => ((k + j : Nat) : Int)
theorem upR_zero (n : Nat) : upR n 0 = upN n := by unfold upR upN; simp
theorem upR_cons {n k : Nat} (h : k < n) : upR n k = (k : Int) :: upR n (k + 1) := by
  unfold upR
  rw [show n - k = (n - (k + 1)) + 1 by omega, List.range_succ_eq_map]
  simp only [List.map_cons, List.map_map, Nat.add_zero]
  congr 1
  apply List.map_congr_left
  intro j _
  simp only [Function.comp, Nat.succ_eq_add_one]; congr 1; omega
theorem upR_end (n : Nat) : upR n n = [] := by unfold upR; simp
theorem mem_upR {n k : Nat} {x : Int} : x ∈ upR n k ↔ (k : Int) ≤ x ∧ x < n := by
  unfold upR
  simp only [List.mem_map, List.mem_range]
  constructor
  · rintro ⟨j, h1, rfl⟩; omega
  · intro h; exact ⟨(x - k).toNat, by omega, by omega⟩

theorem scan1 (s bd : Int) (k : Nat) (h : (k : Int) ≤ s) : (upN k).foldl (lsStep s bd) ([], [], [], []) = (upN k, [], [], List.replicate k (-2)) := by
  induction k with
  | zero => rfl
  | succ k ih =>
    rw [upN_succ, List.foldl_append, ih (by omega)]
    rw [List.foldl_cons, List.foldl_nil]
    unfold lsStep
    simp only
    rw [if_neg (by simp), if_neg (by rw [mem_upN]; omega)]
    have e1 : evS s (upN k) [] [] = (upN k, [], []) := by unfold evS; rw [if_neg (by rw [upN_len]; simp; omega)]
    rw [e1, show dst [] (k : Int) = -2 from rfl]
    have e2 : fltS bd (k : Int) (-2) (upN k, [], []) = (upN k ++ [(k : Int)], [], []) := by unfold fltS actv; simp
    rw [e2, List.replicate_succ']
theorem scan2 (s : Int) (n k : Nat) (o : List Int) (hk : k ≤ n) : (upN k).foldl (lsStep s n) (upN n, [], [], o) = (upR n k, upN k, [], o ++ List.replicate k (-1)) := by
  induction k with
  | zero => rw [upR_zero]; simp [upN]
  | succ k ih =>
    rw [upN_succ, List.foldl_append, ih (by omega)]
    rw [List.foldl_cons, List.foldl_nil]
    unfold lsStep
    simp only
    rw [if_neg (by rw [mem_upN]; omega), if_pos (by rw [mem_upR]; omega)]
    have e1 : remP (upR n k) (k : Int) = upR n (k + 1) := by rw [upR_cons (by omega), rmv_cons, if_pos rfl, rmv_id (by rw [mem_upR]; omega)]
    have e2 : actI (upR n (k + 1)) (upN k) (n : Int) (k : Int) = upR n (k + 1) := by unfold actI; rw [if_neg (by simp [upN_len]; omega)]
    have e3 : actA (upN k) (n : Int) (k : Int) = upN k ++ [(k : Int)] := by unfold actA; rw [if_neg (by simp [upN_len]; omega)]
    rw [e1, e2, e3, List.replicate_succ', List.append_assoc]
theorem scan3 (s : Int) (n k : Nat) (o : List Int) (hn : n ≤ 50) (hs : (n : Int) < s) : ∃ I g, (upQ k).foldl (lsStep s n) ([], upN n, [], o) = (I, upN n, g, o ++ List.replicate k (-2)) ∧ g ++ I = upQ k ∧ ((I.length + n : Nat) : Int) ≤ s := by
  induction k with
  | zero => exact ⟨[], [], by simp [upQ], rfl, by simp; omega⟩
  | succ k ih =>
    obtain ⟨I, g, h1, h2, h3⟩ := ih
    rw [upQ_succ, List.foldl_append, h1]
    rw [List.foldl_cons, List.foldl_nil]
    unfold lsStep
    simp only
    have hm : ∀ x, x ∈ I ∨ x ∈ g → x < 100 + k := fun x hx => by
      have : x ∈ upQ k := by rw [← h2]; simp; exact hx.symm
      exact (mem_upQ.1 this).2
    rw [if_neg (by rw [mem_upN]; omega), if_neg fun h => by have := hm _ (.inl h); omega]
    rw [dst_out (g := g) (p := 100 + (k : Int)) fun h => by have := hm _ (.inr h); omega]
    by_cases hf : ((I.length + n : Nat) : Int) = s
    · have e1 : evS s I (upN n) g = (I.tail, upN n, g ++ [I.headD 0]) := by
        have hne : I ≠ [] := by rintro rfl; simp at hf; omega
        unfold evS evI evA evP; rw [upN_len, if_pos hf, if_neg hne, if_neg hne]
      rw [e1]
      have e2 : fltS n (100 + (k : Int)) (-2) (I.tail, upN n, g ++ [I.headD 0]) = (I.tail ++ [100 + (k : Int)], upN n, g ++ [I.headD 0]) := by unfold fltS actv; simp
      rw [e2]
      cases I with
      | nil => simp at hf; omega
      | cons a I =>
        refine ⟨_, _, by rw [List.replicate_succ', List.append_assoc], ?_, ?_⟩
        · rw [← h2]; simp
        · simp only [List.tail_cons, List.length_append, List.length_cons, List.length_nil] at h3 ⊢; omega
    · have e1 : evS s I (upN n) g = (I, upN n, g) := by unfold evS; rw [upN_len, if_neg hf]
      rw [e1]
      have e2 : fltS n (100 + (k : Int)) (-2) (I, upN n, g) = (I ++ [100 + (k : Int)], upN n, g) := by unfold fltS actv; simp
      rw [e2]
      refine ⟨_, _, by rw [List.replicate_succ', List.append_assoc], by rw [← h2]; simp, ?_⟩
      simp only [List.length_append, List.length_cons, List.length_nil]; omega
theorem scan4 (s bd : Int) (n k : Nat) (I g o : List Int) (hk : k ≤ n) : (upN k).foldl (lsStep s bd) (I, upN n, g, o) = (I, upN n, g, o ++ List.replicate k (-1)) := by
  induction k with
  | zero => simp [upN]
  | succ k ih =>
    rw [upN_succ, List.foldl_append, ih (by omega)]
    rw [List.foldl_cons, List.foldl_nil]
    unfold lsStep
    simp only
    rw [if_pos (by rw [mem_upN]; omega), List.replicate_succ', List.append_assoc]

/-- the references of the scan, and its answers -/
def scanL (n m : Nat) : List Int := upN n ++ upN n ++ upQ m ++ upN n
def scanO (n m : Nat) : List Int := List.replicate n (-2) ++ List.replicate n (-1) ++ List.replicate m (-2) ++ List.replicate n (-1)
theorem scan_law (s : Int) (n m : Nat) (hn : n ≤ 50) (hs : (n : Int) < s) : (lsS s n (scanL n m)).2.2.2 = scanO n m := by
  unfold lsS scanL
  rw [List.foldl_append, List.foldl_append, List.foldl_append, scan1 s n n (by omega), scan2 s n n _ (Nat.le_refl _), upR_end]
  obtain ⟨I, g, h1, _, _⟩ := scan3 s n m (List.replicate n (-2) ++ List.replicate n (-1)) hn hs
  rw [h1, scan4 s n n n I g _ (Nat.le_refl _)]; rfl
theorem scanL_len (n m : Nat) : (scanL n m).length = 3 * n + m := by simp [scanL, upN_len, upQ_len]; omega
theorem scanO_len (n m : Nat) : (scanO n m).length = 3 * n + m := by simp [scanO]; omega
theorem scanO_flt (n m : Nat) : flt (scanO n m) = n + m := by
  unfold scanO flt
  simp only [List.countP_append, List.countP_replicate]
  simp
theorem scanO_last (n m j : Nat) (h1 : 2 * n + m ≤ j) (h2 : j < 3 * n + m) : (scanO n m).getD j 0 = -1 := by
  have : scanO n m = (List.replicate n (-2) ++ List.replicate n (-1) ++ List.replicate m (-2)) ++ List.replicate n (-1) := rfl
  rw [this, List.getD_eq_getElem?_getD, List.getElem?_append_right (by simp; omega), List.getElem?_replicate, if_pos (by simp; omega)]
  rfl
end Go.Proofs.Ytbalmmaoiebppaa
