/- The steps among the arguments, opened: what each step reads as. Conditions: none. -/
import Derived.Test.YtcmmoemmlellbaaPh
import Derived.OpenShut
import Derived.WideShapes
import Derived.ChangeSlices
import Derived.Deep.Slices
namespace Go.Proofs.Ytcmmoemmlellbaa
open Go.RowKit Go.ChangeShapes Go.WideShapes

theorem u8_of_wf {n : Int} (h : (Lit.int .u8 n).wf = true) : 0 ≤ n ∧ n < 256 := by
  simp [Lit.wf, IntKind.min, IntKind.max, IntKind.signed, IntKind.bits] at h
  exact ⟨by omega, by omega⟩

section
variable {H : Type} {enc : TypeId × Value → H} {w : World} {base b0 : Nat} {held : Bool} {r : Reach}

theorem step_open {fuel : Nat} {cs : List Value} {x : DataW H × List MemPlace} (h : DataW.trod enc Try.prog w base (fun _ => true) held fuel 69 cs = some x) :
    ∃ y : OpM, cs = opCells y ∧ 0 ≤ y.2.1 ∧ y.2.1 < 256 ∧ 0 ≤ y.2.2 ∧ y.2.2 < 256 := by
  have hc1 : Try.prog.cellsOf 69 = 3 := by kernel_rfl
  have hc2 : Try.prog.cellsOf 4 = 1 := by kernel_rfl
  have hc3 : Try.prog.cellsOf 5 = 1 := by kernel_rfl
  obtain ⟨ys, m, _, _, hlen, hl, hfd⟩ := DataW.trod_struct Try.underlying69 h
  rw [hc1] at hlen
  match cs, hlen with
  | [c0, c1, c2], _ =>
  match ys, hl with
  | [y0, y1, y2], _ =>
  have f0 := hfd 0 _ rfl
  have f1 := hfd 1 _ rfl
  have f2 := hfd 2 _ rfl
  simp [hc2, hc3] at f0 f1 f2
  obtain ⟨g, e0, _⟩ := DataW.trod_bool Try.underlying4 f0
  obtain ⟨n1, e1, _, w1⟩ := DataW.trod_int Try.underlying5 f1
  obtain ⟨n2, e2, _, w2⟩ := DataW.trod_int Try.underlying5 f2
  simp only [List.cons.injEq, and_true] at e0 e1 e2
  subst e0 e1 e2
  have h1 := u8_of_wf w1
  have h2 := u8_of_wf w2
  exact ⟨(g, n1, n2), rfl, h1.1, h1.2, h2.1, h2.2⟩

theorem ops_open {v : Value} {d : DataW H} {ps : List MemPlace} (hval : Value.okWide Try.prog w r b0 40 v) (hd : DataW.Trod enc Try.prog w base (fun _ => true) held 40 v d ps) : ∃ l, opsAt w v l := by
  have hc1 : Try.prog.cellsOf 69 = 3 := by kernel_rfl
  obtain ⟨a0, n0, c0, rfl⟩ := okWide_slice Try.underlying40 hval
  obtain ⟨fuel, hf⟩ := hd
  rcases Go.Deep.open_slice Try.underlying40 hf with ⟨hcs, _⟩ | ⟨a, len, cap, m, n, D, Pl, hcs, _, hl, hm, hmm, _, hi⟩
  · simp [Value.cells] at hcs
    obtain ⟨rfl, rfl, rfl⟩ := hcs
    exact ⟨[], none, 0, rfl, fun i x hx => by simp at hx⟩
  · simp [Value.cells] at hcs
    obtain ⟨rfl, rfl, rfl⟩ := hcs
    simp only [if_true] at hmm
    subst hmm
    rcases Nat.eq_zero_or_pos n0 with h0 | h0
    · subst h0; exact ⟨[], _, _, rfl, fun i x hx => by simp at hx⟩
    obtain ⟨b, o, spot⟩ := a
    obtain rfl : spot = none := by
      obtain ⟨cs', hc, ht⟩ := hi 0 (by omega)
      obtain ⟨y, rfl, _⟩ := step_open ht
      rw [hc1] at hc
      obtain ⟨_, _, hcl⟩ := World.cells?_some hc
      have h2 : w.cell? (((⟨b, o, spot⟩ : Addr).add (0 * 3)).add 0) = some (.bool y.1) := hcl 0 (by omega)
      simpa [Addr.add] using World.cell?_spot h2
    have each : ∀ i, ∃ y : OpM, i < n0 → (0 ≤ y.2.1 ∧ y.2.1 < 256 ∧ 0 ≤ y.2.2 ∧ y.2.2 < 256) ∧ w.cell? ⟨b, o + i * 3, none⟩ = some (.bool y.1) ∧ w.cell? ⟨b, o + i * 3 + 1, none⟩ = some (.int .u8 y.2.1) ∧ w.cell? ⟨b, o + i * 3 + 2, none⟩ = some (.int .u8 y.2.2) := fun i => by
      by_cases hlt : i < n0
      · obtain ⟨cs', hc, ht⟩ := hi i (by omega)
        obtain ⟨y, rfl, h1⟩ := step_open ht
        rw [hc1] at hc
        obtain ⟨_, _, hcl⟩ := World.cells?_some hc
        have k0 := hcl 0 (by omega)
        have k1 := hcl 1 (by omega)
        have k2 := hcl 2 (by omega)
        simp only [add_plain] at k0 k1 k2
        exact ⟨y, fun _ => ⟨h1, k0, k1, k2⟩⟩
      · exact ⟨(false, 0, 0), fun h => (hlt h).elim⟩
    obtain ⟨f, hf⟩ := Classical.axiomOfChoice each
    refine ⟨(List.range n0).map f, some ⟨b, o, none⟩, m, by simp, fun i x hx => ?_⟩
    obtain ⟨hi', rfl⟩ : i < n0 ∧ f i = x := by
      rw [List.getElem?_map] at hx
      obtain ⟨j, hj, rfl⟩ := Option.map_eq_some_iff.1 hx
      obtain ⟨h1, h2⟩ := List.getElem?_eq_some_iff.1 hj
      simp at h1 h2
      subst h2; exact ⟨h1, rfl⟩
    obtain ⟨h1, h3⟩ := hf i hi'
    exact ⟨h1, b, o, rfl, h3⟩

theorem arr2_open {v : Value} {d : DataW H} {ps : List MemPlace} (hval : Value.okWide Try.prog w r b0 39 v) (hd : DataW.Trod enc Try.prog w base (fun _ => true) held 39 v d ps) :
    ∃ a b, v = .agg #[.int .u8 a, .int .u8 b] ∧ (0 ≤ a ∧ a < 256) ∧ 0 ≤ b ∧ b < 256 := by
  have hc1 : Try.prog.cellsOf 39 = 2 := by kernel_rfl
  have hc4 : Try.prog.cellsOf 5 = 1 := by kernel_rfl
  obtain ⟨cs, rfl, hsz⟩ : ∃ cs, v = .agg cs ∧ cs.size = Try.prog.cellsOf 39 := by
    simp only [Value.okWide, Try.underlying39] at hval
    obtain ⟨cs, h1, h2, _⟩ := hval
    exact ⟨cs, h1, h2⟩
  obtain ⟨fuel, hf⟩ := hd
  obtain ⟨ys, m, _, _, hlen, hl, hfd⟩ := DataW.trod_array Try.underlying39 hf
  obtain ⟨l⟩ := cs
  simp only [Value.cells] at hlen hfd
  rw [hc1] at hlen
  match l, hlen with
  | [c0, c1], _ =>
  match ys, hl with
  | [y0, y1], _ =>
  have f0 := hfd 0 (by omega)
  have f1 := hfd 1 (by omega)
  simp [hc4] at f0 f1
  obtain ⟨n0, e0, _, w0⟩ := DataW.trod_int Try.underlying5 f0
  obtain ⟨n1, e1, _, w1⟩ := DataW.trod_int Try.underlying5 f1
  simp only [List.cons.injEq, and_true] at e0 e1
  subst e0 e1
  exact ⟨_, _, rfl, u8_of_wf w0, u8_of_wf w1⟩

theorem open_u8 {v : Value} {d : DataW H} {ps : List MemPlace} (hval : Value.okWide Try.prog w r b0 5 v) (hd : DataW.Trod enc Try.prog w base (fun _ => true) held 5 v d ps) : ∃ n, v = .int .u8 n ∧ d = .lit (.int .u8 n) ∧ ps = [] ∧ (Lit.int .u8 n).wf = true ∧ 0 ≤ n ∧ n < 256 := by
  obtain ⟨n, h1, h2, h3, h4⟩ := open_int Try.underlying5 hval hd
  exact ⟨n, h1, h2, h3, h4, u8_of_wf h4⟩
end
end Go.Proofs.Ytcmmoemmlellbaa
