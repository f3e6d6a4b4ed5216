/- Arguments opened: integers, bytes, slices of both. Conditions: none. -/
import Derived.Test.YtbalmmaoiebppaaVm
import Derived.OpenShut
import Derived.ChangeSlices
import Derived.WideShapes
import Derived.Carry
namespace Go.Proofs.Ytbalmmaoiebppaa
open Go.RowKit Go.ChangeShapes Go.WideShapes

/-- the slice value v reads in w as the bytes l -/
def bytesAt (w : World) (v : Value) (l : List Int) : Prop := ∃ a c, v = .slice a l.length c ∧ ∀ i x, l[i]? = some x → (0 ≤ x ∧ x < 256) ∧ ∃ b o, a = some ⟨b, o, none⟩ ∧ w.cell? ⟨b, o + i, none⟩ = some (.int .u8 x)

theorem fits_of_wf {n : Int} (h : (Lit.int .i64 n).wf = true) : fits n := by
  simp [Lit.wf, IntKind.min, IntKind.max, IntKind.signed, IntKind.bits] at h
  exact ⟨by omega, by omega⟩

theorem open_list {H : Type} {enc : TypeId × Value → H} {w : World} {base : Nat} {held : Bool} {fuel : Nat} {cs : List Value} {x : DataW H × List MemPlace} (h : DataW.trod enc Try.prog w base (fun _ => true) held fuel 27 cs = some x) :
    ∃ v xs, cs = [v] ∧ rd w v xs ∧ (∀ y, y ∈ xs → fits y) ∧ ∃ a n c, v = .slice a n c := by
  rcases open_ints Try.underlying27 Try.underlying3 (by kernel_rfl) h with ⟨hcs, _⟩ | ⟨a, len, cap, zs, hcs, _, hl, hm, hz, _, hcell, hwz⟩
  · exact ⟨_, [], hcs, .inl ⟨rfl, _, _, rfl⟩, fun y hy => by simp at hy, _, _, _, rfl⟩
  · simp only [if_true] at hz
    have hm' : cap ≤ 9223372036854775807 := by unfold maxLen at hm; omega
    refine ⟨_, zs.take len, hcs, ?_, fun y hy => fits_of_wf (hwz y (List.mem_of_mem_take hy)), _, _, _, rfl⟩
    by_cases h0 : len = 0
    · subst h0; exact .inl ⟨by simp, _, _, rfl⟩
    · obtain ⟨b, o, rfl, hc⟩ := ints_at hcell (by omega)
      have hlen : (zs.take len).length = len := by simp; omega
      refine .inr ⟨b, o, cap, by rw [hlen], fun e => ?_, by omega, hm', fun j hj => ?_⟩
      · rw [e] at hlen; simp at hlen; omega
      · rw [hlen] at hj
        rw [hc j (by omega), List.getD_eq_getElem?_getD, List.getD_eq_getElem?_getD, List.getElem?_take, if_pos hj]

theorem ints_open {H : Type} {enc : TypeId × Value → H} {w : World} {base b0 : Nat} {held : Bool} {r : Reach} {v : Value} {d : DataW H} {ps : List MemPlace} (hval : Value.okWide Try.prog w r b0 27 v) (hd : DataW.Trod enc Try.prog w base (fun _ => true) held 27 v d ps) :
    ∃ l, Go.Proofs.Ytbalmmaoiebppaa.rd w v l ∧ ∀ x, x ∈ l → fits x := by
  obtain ⟨a0, n0, c0, rfl⟩ := okWide_slice Try.underlying27 hval
  obtain ⟨fuel, hf⟩ := hd
  obtain ⟨v', xs, hcs, h1, h2, _⟩ := open_list hf
  simp [Value.cells] at hcs
  subst hcs
  exact ⟨xs, h1, h2⟩
theorem u8_of_wf {n : Int} (h : (Lit.int .u8 n).wf = true) : 0 ≤ n ∧ n < 256 := by
  simp [Lit.wf, IntKind.min, IntKind.max, IntKind.signed, IntKind.bits] at h
  exact ⟨by omega, by omega⟩

theorem bytes_open {H : Type} {enc : TypeId × Value → H} {w : World} {base b0 : Nat} {held : Bool} {r : Reach} {v : Value} {d : DataW H} {ps : List MemPlace} (hval : Value.okWide Try.prog w r b0 36 v) (hd : DataW.Trod enc Try.prog w base (fun _ => true) held 36 v d ps) : ∃ l, bytesAt w v l := by
  obtain ⟨a0, n0, c0, rfl⟩ := okWide_slice Try.underlying36 hval
  obtain ⟨fuel, hf⟩ := hd
  rcases open_ints Try.underlying36 Try.underlying5 (by kernel_rfl) hf with ⟨hcs, _⟩ | ⟨a, len, cap, zs, hcs, _, hl, hm, hz, _, hcell, hwz⟩
  · simp [Value.cells] at hcs
    obtain ⟨rfl, rfl, rfl⟩ := hcs
    exact ⟨[], none, 0, rfl, fun i x hx => by simp at hx⟩
  · simp [Value.cells] at hcs
    obtain ⟨rfl, rfl, rfl⟩ := hcs
    simp only [if_true] at hz
    rcases Nat.eq_zero_or_pos n0 with h0 | h0
    · subst h0; exact ⟨[], _, _, rfl, fun i x hx => by simp at hx⟩
    obtain ⟨b, o, rfl, hc⟩ := ints_at hcell (by omega)
    refine ⟨zs.take n0, some ⟨b, o, none⟩, c0, by rw [List.length_take, Nat.min_eq_left (by omega)], fun i x hx => ?_⟩
    have h1 := (List.getElem?_eq_some_iff.1 hx).1
    rw [List.length_take] at h1
    rw [List.getElem?_take, if_pos (by omega)] at hx
    have h2 := List.mem_of_getElem? hx
    refine ⟨u8_of_wf (hwz x h2), b, o, rfl, ?_⟩
    rw [hc i (by omega), List.getD_eq_getElem?_getD, hx]; rfl
section
variable {H : Type} {enc : TypeId × Value → H} {w : World} {base b0 : Nat} {held : Bool} {r : Reach}
theorem open_u8 {v : Value} {d : DataW H} {ps : List MemPlace} (hval : Value.okWide Try.prog w r b0 5 v) (hd : DataW.Trod enc Try.prog w base (fun _ => true) held 5 v d ps) : ∃ n, v = .int .u8 n ∧ d = .lit (.int .u8 n) ∧ ps = [] ∧ (Lit.int .u8 n).wf = true ∧ 0 ≤ n ∧ n < 256 := by
  obtain ⟨n, h1, h2, h3, h4⟩ := open_int Try.underlying5 hval hd
  exact ⟨n, h1, h2, h3, h4, u8_of_wf h4⟩
end
end Go.Proofs.Ytbalmmaoiebppaa
