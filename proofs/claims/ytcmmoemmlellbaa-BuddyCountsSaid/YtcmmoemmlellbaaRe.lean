/- The reference's all: are all frames of a block in a set: walked. Conditions: the block lies in the row. -/
import Derived.Test.YtcmmoemmlellbaaSt
import Derived.Test.YtcmmoemmlellbaaWm
namespace Go.Proofs.Ytcmmoemmlellbaa
open Go.RowKit

/-- block B holds the numbers lf -/
def rowI (w : World) (B : Nat) (lf : Int → Int) : Prop := ∃ C, w.heap[B]? = some (.cells C 3 (0, 0)) ∧ C.size = 256 ∧ ∀ j : Nat, j < 256 → C[j]? = some (.int .i64 (lf j))
theorem rowI_new (w : World) : rowI (w.alloc (.cells (Array.replicate 256 (.int .i64 0)) 3)) w.heap.size (fun _ => 0) :=
  ⟨_, alloc_at w _, by simp, fun j hj => by simp [hj]⟩
theorem counts.row {w : World} {B : Nat} {P : List Int} (h : counts w B P) : rowI w B (fun x => (P.count x : Nat)) := h
theorem rowI.cell {w : World} {B : Nat} {lf : Int → Int} (h : rowI w B lf) {j : Nat} (hj : j < 256) : w.cell? ⟨B, j, none⟩ = some (.int .i64 (lf j)) := by
  obtain ⟨C, h1, h2, h3⟩ := h; rw [cell_of_block h1]; exact h3 j hj
theorem rowI.frozen {w : World} {B : Nat} {lf : Int → Int} (h : rowI w B lf) (j : Nat) : w.frozen? ⟨B, j, none⟩ = false := by
  obtain ⟨C, h1, _⟩ := h; exact frozen_of_block h1 j
theorem rowI.lt {w : World} {B : Nat} {lf : Int → Int} (h : rowI w B lf) : B < w.heap.size := by obtain ⟨C, h1, _⟩ := h; exact lt_of_block h1
theorem rowI.keep {w w' : World} {B : Nat} {lf : Int → Int} (h : rowI w B lf) (hb : w'.heap[B]? = w.heap[B]?) : rowI w' B lf := by
  obtain ⟨C, h1, h2, h3⟩ := h; exact ⟨C, hb.trans h1, h2, h3⟩
theorem rowI.below {w w' : World} {B : Nat} {lf : Int → Int} (h : rowI w B lf) (hb : Below w.heap.size w w') : rowI w' B lf := h.keep (hb.block B h.lt)
theorem rowI.set {w : World} {B : Nat} {lf : Int → Int} (h : rowI w B lf) {j : Nat} (v : Int) : rowI (w.setCell ⟨B, j, none⟩ (.int .i64 v)) B (fun x => if x = j then v else lf x) := by
  obtain ⟨C, h1, h2, h3⟩ := h
  refine ⟨_, heap_setCell_at h1 j _, by simpa using h2, fun i hi => ?_⟩
  rw [Array.getElem?_setIfInBounds]
  by_cases e : j = i
  · subst e; rw [if_pos rfl, if_pos (by omega)]; simp
  · rw [if_neg e, h3 i hi]
    have : ¬ ((i : Int) = (j : Int)) := by omega
    simp [this]

/-- are all frames of a block left -/
def allB (lf : Int → Int) (f : Int) (k : Nat) : Bool := (List.range (2 ^ k)).all fun t => decide (lf (f + (t : Int)) ≠ 0)
theorem allB_iff {lf : Int → Int} {f : Int} {k : Nat} : allB lf f k = true ↔ ∀ x, inBlk x f k → lf x ≠ 0 := by
  have e : ((2 ^ k : Nat) : Int) = 2 ^ k := by simp
  unfold allB
  simp only [List.all_eq_true, List.mem_range, decide_eq_true_eq]
  constructor
  · intro h x hx
    have h1 := hx.1
    have h2 := hx.2
    rw [← e] at h2
    have := h (x - f).toNat (by omega)
    rwa [show f + ((x - f).toNat : Int) = x by omega] at this
  · intro h t ht
    refine h _ ⟨by omega, ?_⟩
    rw [← e]; omega

attribute [local go_sem] wrap_pow

set_option maxRecDepth 100000 in
set_option maxHeartbeats 1000000 in
theorem all_any (B : Nat) (lf : Int → Int) (F k : Nat) (w : World) (h : rowI w B lf) (hk : k ≤ 4) (hF : (F : Int) + pw k ≤ 256) :
    Calls Try.prog 58 #[.slice (some ⟨B, 0, none⟩) 256 256, .int .i64 F, .int .i64 k] w fun e w' => e = .returned (.bool (allB lf F k)) ∧ Below w.heap.size w w' := by
  have HR := Lib.hid h; clear h
  have hp1 := (pw_bounds hk).1
  have hp16 := (pw_bounds hk).2
  obtain ⟨m, hm⟩ : ∃ m : Nat, pw k = m := ⟨2 ^ k, by rw [pw_eq]; simp⟩
  have HE : Hid (pw k = m ∧ pw k = 2 ^ k) := ⟨hm, pw_eq k⟩
  clear hm
  go_enter Try.func58, Try.ntmps58
  go_wp2_with fail
  go_loopg [7] m (fun n s7 wr => ∃ q : Nat, s7 = .int .i64 q ∧ F ≤ q ∧ (q : Int) ≤ (F : Int) + pw k ∧ Hid (n = F + m - q) ∧ Hid (∀ j : Int, (F : Int) ≤ j → j < q → lf j ≠ 0) ∧ wr = w)
  case atStart => exact ⟨F, rfl, by omega, by omega, by show m = F + m - F; omega, fun j h1 h2 => by omega, rfl⟩
  case round =>
    obtain ⟨q, rfl, hq0, hq, hn, hp, rfl⟩ := hrel
    by_cases hlt : (q : Int) < (F : Int) + pw k
    · have hq256 : q < 256 := by omega
      have hqi : (q : Int) < 256 := by omega
      have hc := HR.out.cell hq256
      obtain ⟨v, hv⟩ : ∃ v, v = lf (q : Int) := ⟨_, rfl⟩
      rw [← hv] at hc
      have HV := Lib.hid hv; clear hv
      by_cases h0 : v = 0
      · have HN : Hid (allB lf F k = false) := by
          refine Bool.eq_false_iff.2 fun h => allB_iff.1 h q ⟨by omega, ?_⟩ (by rw [← HV.out]; exact h0)
          rw [← HE.out.2]; omega
        subst h0
        go_wp2_with fail
        go_ret
        exact ⟨ret_bool HN.out.symm, Below.refl _ _⟩
      · have hd : decide (v = 0) = false := by simpa using h0
        have hd' : (v == 0) = false := by simpa using h0
        go_wp2_with fail
        go_roundg (F + m - (q + 1))
        case rel => exact ⟨q + 1, by go_num, by omega, by omega, rfl, fun j h1 h2 => by
          by_cases e : j = q
          · subst e; rw [← HV.out]; exact h0
          · exact hp.out j h1 (by omega), rfl⟩
        case measure =>
          have h1 := hn.out
          have h2 := HE.out.1
          omega
    · have HN : Hid (allB lf F k = true) := by
        refine allB_iff.2 fun x hx => hp.out x hx.1 ?_
        have := hx.2
        rw [← HE.out.2] at this; omega
      go_wp2_with fail
      go_ret
      exact ⟨ret_bool HN.out.symm, Below.refl _ _⟩
end Go.Proofs.Ytcmmoemmlellbaa
