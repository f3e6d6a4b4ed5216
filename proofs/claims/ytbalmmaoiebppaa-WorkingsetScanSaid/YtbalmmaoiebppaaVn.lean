/- The number of faults: walked; and the record of a plain replay in memory. Conditions: none. -/
import Derived.Test.YtbalmmaoiebppaaVw
import Derived.Test.YtbalmmaoiebppaaVj
import Derived.Test.YtbalmmaoiebppaaVo
namespace Go.Proofs.Ytbalmmaoiebppaa
open Go.RowKit

theorem flt_step {xs : List Int} {k : Nat} (h : k < xs.length) : flt (xs.take (k + 1)) = flt (xs.take k) + if xs.getD k 0 = -1 then 0 else 1 := by rw [take_snoc h, flt_snoc]

set_option maxRecDepth 100000 in
set_option maxHeartbeats 1000000 in
theorem faults_any (v : Value) (xs : List Int) (w : World) (h : rd w v xs) (hl : xs.length ≤ 10000) :
    Calls Try.prog 22 #[v] w fun e w' => e = .returned (.int .i64 (flt xs : Nat)) ∧ w' = w := by
  obtain ⟨a, c, rfl, hlen, hcell⟩ := h.split
  have HC := Lib.hid hcell
  clear h hcell
  go_enter Try.func22, Try.ntmps22
  go_wp2_with fail
  go_loopg [3, 8] xs.length (fun n s3 s8 wr => ∃ k m : Nat, s8 = .int .i64 k ∧ s3 = .int .i64 m ∧ k ≤ xs.length ∧ m ≤ k ∧ Hid (n = xs.length - k) ∧ Hid (m = flt (xs.take k)) ∧ wr = w)
  case atStart => exact ⟨0, 0, rfl, rfl, by omega, by omega, rfl, rfl, rfl⟩
  case round =>
    obtain ⟨k, m, rfl, rfl, hk, hm, hn, hp, rfl⟩ := hrel
    by_cases hlt : k < xs.length
    · have hlti : (k : Int) < (xs.length : Int) := by omega
      obtain ⟨b, o, rfl, hcl⟩ := HC.out k hlt
      have hc := hcl k hlt
      have HS : Hid (flt (xs.take (k + 1)) = flt (xs.take k) + if xs.getD k 0 = -1 then 0 else 1) := flt_step hlt
      obtain ⟨y, hy⟩ : ∃ y, y = xs.getD k 0 := ⟨_, rfl⟩
      rw [← hy] at hc HS
      clear hcl hy
      by_cases he : y = -1
      · subst he
        have hd : ((-1 : Int) != -1) = false := by decide
        go_wp2_with fail
        go_roundg (xs.length - (k + 1))
        case rel => exact ⟨k + 1, m, by go_num, rfl, by omega, by omega, rfl, by
          show _ = _
          rw [HS.out, if_pos trivial, ← hp.out]; rfl, rfl⟩
        case measure => have := hn.out; omega
      · have hd : (y != -1) = true := by simpa using he
        have HE := Lib.hid he
        clear he
        go_wp2_with fail
        go_roundg (xs.length - (k + 1))
        case rel => exact ⟨k + 1, m + 1, by go_num, by go_num, by omega, by omega, rfl, by
          show _ = _
          rw [HS.out, if_neg HE.out, ← hp.out], rfl⟩
        case measure => have := hn.out; omega
    · have HN : Hid ((m : Int) = (flt xs : Nat)) := by
        have h1 := hp.out
        rw [List.take_of_length_le (by omega)] at h1
        show _ = _
        rw [h1]
      go_wp2_with fail
      go_ret
      exact ⟨ret_int HN.out, rfl⟩

/-- block B is an array of 16 integers -/
def recI (w : World) (B : Nat) (f : Int → Int) : Prop := ∃ C, w.heap[B]? = some (.cells C 37 (0, 0)) ∧ C.size = 16 ∧ ∀ j : Nat, j < 16 → C[j]? = some (.int .i64 (f j))
theorem recI_new (w : World) : recI (w.alloc (.cells #[.int .i64 0, .int .i64 0, .int .i64 0, .int .i64 0, .int .i64 0, .int .i64 0, .int .i64 0, .int .i64 0, .int .i64 0, .int .i64 0, .int .i64 0, .int .i64 0, .int .i64 0, .int .i64 0, .int .i64 0, .int .i64 0] 37)) w.heap.size (fun _ => 0) := by
  refine ⟨_, heap_alloc_new w _, rfl, fun j hj => ?_⟩
  have h : ∀ j : Fin 16, (#[.int .i64 0, .int .i64 0, .int .i64 0, .int .i64 0, .int .i64 0, .int .i64 0, .int .i64 0, .int .i64 0, .int .i64 0, .int .i64 0, .int .i64 0, .int .i64 0, .int .i64 0, .int .i64 0, .int .i64 0, .int .i64 0] : Array Value)[j.val]? = some (.int .i64 0) := by
    intro ⟨j, hj⟩
    obtain rfl | rfl | rfl | rfl | rfl | rfl | rfl | rfl | rfl | rfl | rfl | rfl | rfl | rfl | rfl | rfl : j = 0 ∨ j = 1 ∨ j = 2 ∨ j = 3 ∨ j = 4 ∨ j = 5 ∨ j = 6 ∨ j = 7 ∨ j = 8 ∨ j = 9 ∨ j = 10 ∨ j = 11 ∨ j = 12 ∨ j = 13 ∨ j = 14 ∨ j = 15 := by omega
    all_goals rfl
  exact h ⟨j, hj⟩
theorem recI.cell {w : World} {B : Nat} {f : Int → Int} (h : recI w B f) {j : Nat} (hj : j < 16) : w.cell? ⟨B, j, none⟩ = some (.int .i64 (f j)) ∧ w.frozen? ⟨B, j, none⟩ = false := by
  obtain ⟨C, h1, h2, h3⟩ := h
  exact ⟨by rw [cell_of_block h1]; exact h3 j hj, frozen_of_block h1 j⟩
theorem recI.set {w : World} {B : Nat} {f : Int → Int} (h : recI w B f) {j : Nat} (hj : j < 16) (y : Int) : recI (w.setCell ⟨B, j, none⟩ (.int .i64 y)) B (fun i => if i = (j : Int) then y else f i) := by
  obtain ⟨C, h1, h2, h3⟩ := h
  refine ⟨_, heap_setCell_at h1 j _, by simpa using h2, fun i hi => ?_⟩
  rw [Array.getElem?_setIfInBounds]
  by_cases e : j = i
  · subst e; rw [if_pos rfl, if_pos (by omega)]; simp
  · have e2 : ¬ (i : Int) = j := by omega
    rw [if_neg e, h3 i hi]; simp only [if_neg e2]
theorem recI.keeps {P : Nat → Prop} {w w' : World} {B : Nat} {f : Int → Int} (h : recI w B f) (hk : Keeps P w w') (hp : ¬ P B) : recI w' B f := by
  obtain ⟨C, h1, h2, h3⟩ := h
  exact ⟨C, (hk.block B (lt_of_block h1) hp).trans h1, h2, h3⟩
theorem recI.ne {w : World} {B base : Nat} {f : Int → Int} {g : Option Nat} {v : Value} {xs : List Int} (h : recI w B f) (ho : own w base g v xs) : g ≠ some B := by
  obtain ⟨C, h1, _⟩ := h; exact ho.ne_box h1 (by decide)
theorem recI.eq {w : World} {B : Nat} {f g : Int → Int} (h : recI w B f) (e : f = g) : recI w B g := e ▸ h

/-- block B is an array of 256 marks -/
def marks (w : World) (B : Nat) (P : List Int) : Prop := ∃ C, w.heap[B]? = some (.cells C 39 (0, 0)) ∧ C.size = 256 ∧ ∀ j : Nat, j < 256 → C[j]? = some (.bool (decide ((j : Int) ∈ P)))
theorem zeroCells_marks : Try.zeroCells39 = Array.replicate 256 (Value.bool false) := by kernel_rfl
theorem marks_new (w : World) : marks (w.alloc (.cells Try.zeroCells39 39)) w.heap.size [] := by
  refine ⟨_, alloc_at w _, ?_, fun j hj => ?_⟩
  · rw [zeroCells_marks]; simp
  · rw [zeroCells_marks]; simp [hj]
theorem marks.cell {w : World} {B : Nat} {P : List Int} (h : marks w B P) {j : Nat} (hj : j < 256) : w.cell? ⟨B, j, none⟩ = some (.bool (decide ((j : Int) ∈ P))) ∧ w.frozen? ⟨B, j, none⟩ = false := by
  obtain ⟨C, h1, h2, h3⟩ := h
  exact ⟨by rw [cell_of_block h1]; exact h3 j hj, frozen_of_block h1 j⟩
theorem marks.set {w : World} {B : Nat} {P P' : List Int} (h : marks w B P) {j : Nat} (hj : j < 256) (hP : ∀ x, x ∈ P' ↔ x ∈ P ∨ x = (j : Int)) : marks (w.setCell ⟨B, j, none⟩ (.bool true)) B P' := by
  obtain ⟨C, h1, h2, h3⟩ := h
  refine ⟨_, heap_setCell_at h1 j _, by simpa using h2, fun i hi => ?_⟩
  rw [Array.getElem?_setIfInBounds]
  by_cases e : j = i
  · subst e; rw [if_pos rfl, if_pos (by omega)]; simp [hP]
  · have : ¬ (i : Int) = j := by omega
    rw [if_neg e, h3 i hi]; simp [hP, this]
theorem marks.keeps {P : Nat → Prop} {w w' : World} {B : Nat} {M : List Int} (h : marks w B M) (hk : Keeps P w w') (hp : ¬ P B) : marks w' B M := by
  obtain ⟨C, h1, h2, h3⟩ := h
  exact ⟨C, (hk.block B (lt_of_block h1) hp).trans h1, h2, h3⟩
theorem marks.ne {w : World} {B base : Nat} {M : List Int} {g : Option Nat} {v : Value} {xs : List Int} (h : marks w B M) (ho : own w base g v xs) : g ≠ some B := by
  obtain ⟨C, h1, _⟩ := h; exact ho.ne_box h1 (by decide)
theorem marks.congr {w : World} {B : Nat} {P P' : List Int} (h : marks w B P) (hP : ∀ x, x ∈ P' ↔ x ∈ P) : marks w B P' := by
  obtain ⟨C, h1, h2, h3⟩ := h
  exact ⟨C, h1, h2, fun j hj => by rw [h3 j hj]; simp [hP]⟩

theorem bytesAt.below {w w' : World} {v : Value} {l : List Int} (h : bytesAt w v l) (hb : Below w.heap.size w w') : bytesAt w' v l := by
  obtain ⟨a, c, rfl, hcell⟩ := h
  refine ⟨a, c, rfl, fun i x hx => ?_⟩
  obtain ⟨h1, b, o, h2, h3⟩ := hcell i x hx
  exact ⟨h1, b, o, h2, (hb.cell (block_lt_of_cell h3)).trans h3⟩
theorem bytesAt.split {w : World} {v : Value} {l : List Int} (h : bytesAt w v l) : ∃ a c, v = .slice a l.length c ∧ ∀ k, k < l.length → ∃ b o, a = some ⟨b, o, none⟩ ∧ (0 ≤ l.getD k 0 ∧ l.getD k 0 < 256) ∧ w.cell? ⟨b, o + k, none⟩ = some (.int .u8 (l.getD k 0)) := by
  obtain ⟨a, c, rfl, hcell⟩ := h
  refine ⟨a, c, rfl, fun k hk => ?_⟩
  obtain ⟨h1, b, o, h2, h3⟩ := hcell k (l.getD k 0) (by rw [getD_eq hk, List.getElem?_eq_getElem hk])
  exact ⟨b, o, h2, h1, h3⟩
theorem own.fresh {w : World} {base b : Nat} {g : Option Nat} {v : Value} {xs : List Int} (h : own w base g v xs) (hb : b < base) : ¬ (g = some b) := fun e => by
  rw [e] at h; have := h.lt; omega
end Go.Proofs.Ytbalmmaoiebppaa
