/- Bytes among the arguments, opened. Conditions: none. -/
import Derived.Test.YtcmmoemmlellbaaLk
import Derived.Test.YtcmmoemmlellbaaOq
namespace Go.Proofs.Ytcmmoemmlellbaa
open Go.RowKit Go.ChangeShapes Go.WideShapes

theorem bytes_open {H : Type} {enc : TypeId × Value → H} {w : World} {base b0 : Nat} {held : Bool} {r : Reach} {v : Value} {d : DataW H} {ps : List MemPlace} (hval : Value.okWide Try.prog w r b0 50 v) (hd : DataW.Trod enc Try.prog w base (fun _ => true) held 50 v d ps) : ∃ l, bytesAt w v l := by
  obtain ⟨a0, n0, c0, rfl⟩ := okWide_slice Try.underlying50 hval
  obtain ⟨fuel, hf⟩ := hd
  rcases open_ints Try.underlying50 Try.underlying5 (by kernel_rfl) hf with ⟨hcs, _⟩ | ⟨a, len, cap, zs, hcs, _, hl, hm, hz, _, hcell, hwz⟩
  · simp [Value.cells] at hcs
    obtain ⟨rfl, rfl, rfl⟩ := hcs
    exact ⟨[], none, 0, rfl, fun i x hx => by simp at hx⟩
  · simp [Value.cells] at hcs
    obtain ⟨rfl, rfl, rfl⟩ := hcs
    simp only [if_true] at hz
    rcases Nat.eq_zero_or_pos n0 with h0 | h0
    · subst h0; exact ⟨[], _, _, rfl, fun i x hx => by simp at hx⟩
    obtain ⟨b, o, rfl, hc⟩ := ints_at hcell (by omega)
    refine ⟨zs.take n0, some ⟨b, o, none⟩, c0, by rw [List.length_take, Nat.min_eq_left (by omega)], fun i x hx => ?_⟩
    have h1 := (List.getElem?_eq_some_iff.1 hx).1
    rw [List.length_take] at h1
    rw [List.getElem?_take, if_pos (by omega)] at hx
    have h2 := List.mem_of_getElem? hx
    refine ⟨u8_of_wf (hwz x h2), b, o, rfl, ?_⟩
    rw [hc i (by omega), List.getD_eq_getElem?_getD, hx]; rfl
end Go.Proofs.Ytcmmoemmlellbaa
