/- Words for how a slice of integers and a zone lie in memory: what a slice reads as, and that this stays while only new memory is written. Conditions: none. -/
import Derived.Test.YtcmmoemmlellbaaProg
import Derived.Test.YtcmmoemmlellbaaBm
import Derived.WalkKit
import Derived.WalkSpells
import Derived.WalkLawsBesides
namespace Go.Proofs.Ytcmmoemmlellbaa
open Go.RowKit

/-- the slice value v reads in w as the integers xs -/
def rd (w : World) (v : Value) (xs : List Int) : Prop :=
  (xs = [] ∧ ∃ a c, v = .slice a 0 c) ∨
  ∃ b o c, v = .slice (some ⟨b, o, none⟩) xs.length c ∧ xs ≠ [] ∧ xs.length ≤ c ∧ c ≤ 9223372036854775807 ∧ ∀ j, j < xs.length → w.cell? ⟨b, o + j, none⟩ = some (.int .i64 (xs.getD j 0))

theorem rd.below {w w' : World} {v : Value} {xs : List Int} (h : rd w v xs) (hb : Below w.heap.size w w') : rd w' v xs := by
  rcases h with h | ⟨b, o, c, rfl, hne, hc, hm, hcell⟩
  · exact .inl h
  · refine .inr ⟨b, o, c, rfl, hne, hc, hm, fun j hj => ?_⟩
    have h1 := hcell j hj
    rw [hb.cell (p := ⟨b, o + j, none⟩) ?_, h1]
    have : w.heap[b]? ≠ none := by
      intro hn; unfold World.cell? at h1; simp only [hn] at h1; exact absurd h1 (by simp)
    show b < w.heap.size
    exact Nat.lt_of_not_le fun hle => this (Array.getElem?_eq_none hle)

theorem rd.split {w : World} {v : Value} {xs : List Int} (h : rd w v xs) : ∃ a c, v = .slice a xs.length c ∧ xs.length ≤ 9223372036854775807 ∧
    ∀ i, i < xs.length → ∃ b o, a = some ⟨b, o, none⟩ ∧ ∀ j, j < xs.length → w.cell? ⟨b, o + j, none⟩ = some (.int .i64 (xs.getD j 0)) := by
  rcases h with ⟨rfl, a, c, rfl⟩ | ⟨b, o, c, rfl, _, hc, hm, hcell⟩
  · exact ⟨a, c, rfl, by simp, fun i hi => by simp at hi⟩
  · exact ⟨_, c, rfl, by omega, fun i _ => ⟨b, o, rfl, hcell⟩⟩

/-- the value of a zone -/
abbrev zv (z : Zh) (s : Nat → Value) : Value := .agg #[.int .i64 z.nd, .int .i64 z.kd, .int .i64 z.st, .int .i64 z.ct, .int .i64 z.mn, s 0, s 1, s 2, s 3, s 4]

def rdZ (w : World) (s : Nat → Value) (L : FL) : Prop := ∀ k, k ≤ 4 → rd w (s k) (L k)

theorem rdZ.below {w w' : World} {s : Nat → Value} {L : FL} (h : rdZ w s L) (hb : Below w.heap.size w w') : rdZ w' s L := fun k hk => (h k hk).below hb

/-- numbers that fit -/
def fits (n : Int) : Prop := -9223372036854775808 ≤ n ∧ n ≤ 9223372036854775807
def Zh.fits (z : Zh) : Prop := Go.Proofs.Ytcmmoemmlellbaa.fits z.nd ∧ Go.Proofs.Ytcmmoemmlellbaa.fits z.kd ∧ Go.Proofs.Ytcmmoemmlellbaa.fits z.st ∧ Go.Proofs.Ytcmmoemmlellbaa.fits z.ct ∧ Go.Proofs.Ytcmmoemmlellbaa.fits z.mn

theorem ret_bool {a b : Bool} (h : a = b) : Ending.returned (.bool a) = .returned (.bool b) := by rw [h]
theorem ret_int {k : IntKind} {a b : Int} (h : a = b) : Ending.returned (.int k a) = .returned (.int k b) := by rw [h]

set_option maxHeartbeats 1000000 in
theorem ranges_any (z : Zh) (s : Nat → Value) (w : World) (hz : z.fits) :
    Calls Try.prog 41 #[zv z s] w fun e w' => e = .returned (.bool z.ok) ∧ Below w.heap.size w w' := by
  obtain ⟨nd, kd, st, ct, mn⟩ := z
  obtain ⟨⟨h1, h2⟩, ⟨h3, h4⟩, ⟨h5, h6⟩, ⟨h7, h8⟩, ⟨h9, h10⟩⟩ := hz
  simp only at h1 h2 h3 h4 h5 h6 h7 h8 h9 h10
  unfold zv
  dsimp only
  go_enter Try.func41, Try.ntmps41
  go_wp2
  all_goals go_ret
  all_goals exact ⟨ret_bool (Bool.eq_iff_iff.2 (by simp [Zh.ok]; omega)), (Below.refl _ _).alloc (Nat.le_refl _) _⟩

theorem Zh.ok_iff {z : Zh} : z.ok = true ↔ 0 ≤ z.nd ∧ z.nd ≤ 3 ∧ (z.kd = 0 ∨ z.kd = 1) ∧ 0 ≤ z.st ∧ z.st ≤ 255 ∧ 1 ≤ z.ct ∧ z.st + z.ct ≤ 256 ∧ 0 ≤ z.mn ∧ z.mn ≤ z.ct := by
  simp [Zh.ok]

set_option maxHeartbeats 1000000 in
theorem inside_any (z : Zh) (s : Nat → Value) (f : Int) (k : Nat) (w : World) (hz : z.ok = true) (hf : fits f) (hk : k ≤ 4) :
    Calls Try.prog 42 #[zv z s, .int .i64 f, .int .i64 k] w fun e w' => e = .returned (.bool (insB z f k)) ∧ Below w.heap.size w w' := by
  have hz' := Zh.ok_iff.1 hz
  obtain ⟨nd, kd, st, ct, mn⟩ := z
  obtain ⟨h1, h2⟩ := hf
  simp only at hz'
  obtain ⟨_, _, _, h3, h4, h5, h6, _⟩ := hz'
  clear hz
  unfold zv
  dsimp only
  obtain rfl | rfl | rfl | rfl | rfl : k = 0 ∨ k = 1 ∨ k = 2 ∨ k = 3 ∨ k = 4 := by omega
  all_goals
    clear hk
    go_enter Try.func42, Try.ntmps42
    go_wp2
    all_goals go_ret
    all_goals exact ⟨ret_bool (Bool.eq_iff_iff.2 (by simp [insB]; omega)), (Below.refl _ _).alloc (Nat.le_refl _) _⟩
end Go.Proofs.Ytcmmoemmlellbaa
