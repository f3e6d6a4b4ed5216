/- A slice of ints among the arguments, opened. Conditions: none. -/
import Derived.Test.YtcmmoemmlellbaaOp
namespace Go.Proofs.Ytcmmoemmlellbaa
open Go.RowKit Go.ChangeShapes Go.WideShapes
theorem ints_open {H : Type} {enc : TypeId × Value → H} {w : World} {base b0 : Nat} {held : Bool} {r : Reach} {v : Value} {d : DataW H} {ps : List MemPlace} (hval : Value.okWide Try.prog w r b0 22 v) (hd : DataW.Trod enc Try.prog w base (fun _ => true) held 22 v d ps) :
    ∃ l, Go.Proofs.Ytcmmoemmlellbaa.rd w v l ∧ ∀ x, x ∈ l → fits x := by
  obtain ⟨a0, n0, c0, rfl⟩ := okWide_slice Try.underlying22 hval
  obtain ⟨fuel, hf⟩ := hd
  obtain ⟨v', xs, hcs, h1, h2, _⟩ := open_list hf
  simp [Value.cells] at hcs
  subst hcs
  exact ⟨xs, h1, h2⟩
end Go.Proofs.Ytcmmoemmlellbaa
