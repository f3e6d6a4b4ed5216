/- A zone among the arguments, opened: five integers, five slices, and what they read as. Conditions: none. -/
import Derived.Test.YtcmmoemmlellbaaRa
import Derived.Test.YtcmmoemmlellbaaAl
import Derived.OpenShut
import Derived.ChangeSlices
import Derived.WideShapes
import Derived.Carry
namespace Go.Proofs.Ytcmmoemmlellbaa
open Go.RowKit Go.ChangeShapes Go.WideShapes

theorem fits_of_wf {n : Int} (h : (Lit.int .i64 n).wf = true) : fits n := by
  simp [Lit.wf, IntKind.min, IntKind.max, IntKind.signed, IntKind.bits] at h
  exact ⟨by omega, by omega⟩

theorem open_list {H : Type} {enc : TypeId × Value → H} {w : World} {base : Nat} {held : Bool} {fuel : Nat} {cs : List Value} {x : DataW H × List MemPlace} (h : DataW.trod enc Try.prog w base (fun _ => true) held fuel 22 cs = some x) :
    ∃ v xs, cs = [v] ∧ rd w v xs ∧ (∀ y, y ∈ xs → fits y) ∧ ∃ a n c, v = .slice a n c := by
  rcases open_ints Try.underlying22 Try.underlying3 (by kernel_rfl) h with ⟨hcs, _⟩ | ⟨a, len, cap, zs, hcs, _, hl, hm, hz, _, hcell, hwz⟩
  · exact ⟨_, [], hcs, .inl ⟨rfl, _, _, rfl⟩, fun y hy => by simp at hy, _, _, _, rfl⟩
  · simp only [if_true] at hz
    have hm' : cap ≤ 9223372036854775807 := by unfold maxLen at hm; omega
    refine ⟨_, zs.take len, hcs, ?_, fun y hy => fits_of_wf (hwz y (List.mem_of_mem_take hy)), _, _, _, rfl⟩
    by_cases h0 : len = 0
    · subst h0; exact .inl ⟨by simp, _, _, rfl⟩
    · obtain ⟨b, o, rfl, hc⟩ := ints_at hcell (by omega)
      have hlen : (zs.take len).length = len := by simp; omega
      refine .inr ⟨b, o, cap, by rw [hlen], fun e => ?_, by omega, hm', fun j hj => ?_⟩
      · rw [e] at hlen; simp at hlen; omega
      · rw [hlen] at hj
        rw [hc j (by omega), List.getD_eq_getElem?_getD, List.getD_eq_getElem?_getD, List.getElem?_take, if_pos hj]

theorem zone_open {H : Type} {enc : TypeId × Value → H} {w : World} {base b0 : Nat} {held : Bool} {r : Reach} {v : Value} {d : DataW H} {ps : List MemPlace}
    (hval : Value.okWide Try.prog w r b0 25 v) (hd : DataW.Trod enc Try.prog w base (fun _ => true) held 25 v d ps) :
    ∃ z s L, v = zv z s ∧ z.fits ∧ rdZ w s L ∧ fitsL L ∧ slices s := by
  have hc1 : Try.prog.cellsOf 25 = 10 := by kernel_rfl
  have hc2 : Try.prog.cellsOf 23 = 5 := by kernel_rfl
  have hc3 : Try.prog.cellsOf 22 = 1 := by kernel_rfl
  have hc4 : Try.prog.cellsOf 3 = 1 := by kernel_rfl
  obtain ⟨cs, rfl, hsz⟩ := okWide_struct Try.underlying25 hval
  obtain ⟨fuel, hf⟩ := hd
  obtain ⟨ys, m, _, _, hlen, hl, hfd⟩ := DataW.trod_struct Try.underlying25 hf
  obtain ⟨l⟩ := cs
  simp only [Value.cells] at hlen hfd
  rw [hc1] at hlen
  match l, hlen with
  | [c0, c1, c2, c3, c4, c5, c6, c7, c8, c9], _ =>
  match ys, hl with
  | [y0, y1, y2, y3, y4, y5], _ =>
  have f0 := hfd 0 _ rfl
  have f1 := hfd 1 _ rfl
  have f2 := hfd 2 _ rfl
  have f3 := hfd 3 _ rfl
  have f4 := hfd 4 _ rfl
  have f5 := hfd 5 _ rfl
  simp [hc2, hc4] at f0 f1 f2 f3 f4 f5
  obtain ⟨n0, e0, _, w0⟩ := DataW.trod_int Try.underlying3 f0
  obtain ⟨n1, e1, _, w1⟩ := DataW.trod_int Try.underlying3 f1
  obtain ⟨n2, e2, _, w2⟩ := DataW.trod_int Try.underlying3 f2
  obtain ⟨n3, e3, _, w3⟩ := DataW.trod_int Try.underlying3 f3
  obtain ⟨n4, e4, _, w4⟩ := DataW.trod_int Try.underlying3 f4
  obtain ⟨zs, k, _, _, _, hl5, hfa⟩ := DataW.trod_array Try.underlying23 f5
  match zs, hl5 with
  | [a0, a1, a2, a3, a4], _ =>
  have g0 := hfa 0 (by omega)
  have g1 := hfa 1 (by omega)
  have g2 := hfa 2 (by omega)
  have g3 := hfa 3 (by omega)
  have g4 := hfa 4 (by omega)
  simp [hc3] at g0 g1 g2 g3 g4
  obtain ⟨v0, x0, k0, r0, q0, s0⟩ := open_list g0
  obtain ⟨v1, x1, k1, r1, q1, s1⟩ := open_list g1
  obtain ⟨v2, x2, k2, r2, q2, s2⟩ := open_list g2
  obtain ⟨v3, x3, k3, r3, q3, s3⟩ := open_list g3
  obtain ⟨v4, x4, k4, r4, q4, s4⟩ := open_list g4
  simp only [List.cons.injEq, and_true] at e0 e1 e2 e3 e4 k0 k1 k2 k3 k4
  subst e0 e1 e2 e3 e4 k0 k1 k2 k3 k4
  refine ⟨⟨n0, n1, n2, n3, n4⟩, fun i => match i with | 0 => c5 | 1 => c6 | 2 => c7 | 3 => c8 | _ => c9, fun i => match i with | 0 => x0 | 1 => x1 | 2 => x2 | 3 => x3 | _ => x4, rfl, ⟨fits_of_wf w0, fits_of_wf w1, fits_of_wf w2, fits_of_wf w3, fits_of_wf w4⟩, ?_, ?_, ?_⟩
  · intro k hk
    match k, hk with
    | 0, _ => exact r0
    | 1, _ => exact r1
    | 2, _ => exact r2
    | 3, _ => exact r3
    | 4, _ => exact r4
  · intro k hk
    match k, hk with
    | 0, _ => exact q0
    | 1, _ => exact q1
    | 2, _ => exact q2
    | 3, _ => exact q3
    | 4, _ => exact q4
  · intro k hk
    match k, hk with
    | 0, _ => exact s0
    | 1, _ => exact s1
    | 2, _ => exact s2
    | 3, _ => exact s3
    | 4, _ => exact s4
end Go.Proofs.Ytcmmoemmlellbaa
