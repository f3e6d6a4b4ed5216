/- The row of BuddyBegins. Conditions: none. -/
import Derived.Test.YtcmmoemmlellbaaRows
import Derived.Test.YtcmmoemmlellbaaLb
import Derived.Test.YtcmmoemmlellbaaOp
import Derived.WalkKit
import Derived.ProofKit
import Derived.OpenShut
import Derived.ChangeOld
import Derived.Below
import Derived.SizedLaws
namespace Go.Proofs.Ytcmmoemmlellbaa.buddyBegins
open Go.ChangeShapes Go.WideShapes Go.ChangeAt Go.RowKit
theorem own : ownKnob Try.prog.godebug = none := by kernel_rfl
theorem laidOut : laidOutB Try.prog = true := by kernel_rfl

theorem arr3_open {H : Type} {enc : TypeId × Value → H} {w : World} {base b0 : Nat} {held : Bool} {r : Reach} {v : Value} {d : DataW H} {ps : List MemPlace}
    (hval : Value.okWide Try.prog w r b0 29 v) (hd : DataW.Trod enc Try.prog w base (fun _ => true) held 29 v d ps) :
    ∃ a b c, v = .agg #[.int .i64 a, .int .i64 b, .int .i64 c] ∧ fits a ∧ fits b ∧ fits c := by
  have hc1 : Try.prog.cellsOf 29 = 3 := by kernel_rfl
  have hc4 : Try.prog.cellsOf 3 = 1 := by kernel_rfl
  obtain ⟨cs, rfl, hsz⟩ : ∃ cs, v = .agg cs ∧ cs.size = Try.prog.cellsOf 29 := by
    simp only [Value.okWide, Try.underlying29] at hval
    obtain ⟨cs, h1, h2, _⟩ := hval
    exact ⟨cs, h1, h2⟩
  obtain ⟨fuel, hf⟩ := hd
  obtain ⟨ys, m, _, _, hlen, hl, hfd⟩ := DataW.trod_array Try.underlying29 hf
  obtain ⟨l⟩ := cs
  simp only [Value.cells] at hlen hfd
  rw [hc1] at hlen
  match l, hlen with
  | [c0, c1, c2], _ =>
  match ys, hl with
  | [y0, y1, y2], _ =>
  have f0 := hfd 0 (by omega)
  have f1 := hfd 1 (by omega)
  have f2 := hfd 2 (by omega)
  simp [hc4] at f0 f1 f2
  obtain ⟨n0, e0, _, w0⟩ := DataW.trod_int Try.underlying3 f0
  obtain ⟨n1, e1, _, w1⟩ := DataW.trod_int Try.underlying3 f1
  obtain ⟨n2, e2, _, w2⟩ := DataW.trod_int Try.underlying3 f2
  simp only [List.cons.injEq, and_true] at e0 e1 e2
  subst e0 e1 e2
  exact ⟨_, _, _, rfl, fits_of_wf w0, fits_of_wf w1, fits_of_wf w2⟩

set_option maxRecDepth 100000 in
theorem lifted (os : Os) (started : os.Started) (H : Type) (enc : TypeId × Value → H) :
    ReturnsInHanded {} Try.checked os 4 .any (Rows.buddyBeginsSpec.pre6 enc Try.prog Try.f4 Rows.buddyBeginsRow.domain false) (Rows.buddyBeginsSpec.post enc Try.prog Try.f4 false true false false) := by
  refine returnsInHanded_of_change_sized (C := Try.checked) own started (by kernel_rfl) Try.func4
    (ChangeSpec.witness6 (enc := enc) (C := Try.checked) false ⟨#[], #[.int .i64 0, .int .i64 0, .agg #[.int .i64 0, .int .i64 0, .int .i64 0]], []⟩ 8 (by kernel_rfl) (by kernel_rfl) (by kernel_rfl) (by kernel_rfl)) ?_
  intro W base args ds gs before hval0 hW hcnd hsz0 _
  have hval : ∀ (j : Nat) t v, Try.f4.params[j]? = some t → args[j]? = some v → Value.okWide Try.prog W .any base t v := hval0
  have hW' := hW
  obtain ⟨p, q, hA0, hV, rfl, hfz, hnd⟩ := hW
  have hA : DataW.TrodAll enc Try.prog W 0 (fun _ => true) true Try.f4.params.toList args.toList ds p := hA0
  rw [Try.params4] at hA hval
  obtain ⟨v0, vs0, d0, ds0, p0, q0, hargs, rfl, rfl, h0, r0⟩ := trodAll_cons hA
  obtain ⟨v1, vs1, d1, ds1, p1, q1, rfl, rfl, rfl, h1, r1⟩ := trodAll_cons r0
  obtain ⟨v2, vs2, d2, ds2, p2, q2, rfl, rfl, rfl, h2, r2⟩ := trodAll_cons r1
  obtain ⟨rfl, rfl, rfl⟩ := trodAll_nil r2
  obtain rfl : args = #[v0, v1, v2] := by cases args; simp_all
  obtain ⟨rfl, rfl⟩ := trodVars_none hV
  have k2 := h2
  have lt2 : ∀ x ∈ p2, x.block < W.heap.size := by obtain ⟨m, hm⟩ := k2; exact DataW.trod_lt m _ _ _ hm
  obtain ⟨a0, rfl, rfl, rfl, w0⟩ := open_int Try.underlying3 (hval 0 3 v0 rfl rfl) h0
  obtain ⟨a1, rfl, rfl, rfl, w1⟩ := open_int Try.underlying3 (hval 1 3 v1 rfl rfl) h1
  obtain ⟨a, b, c, rfl, ha, hb, hc⟩ := arr3_open (hval 2 29 v2 rfl rfl) h2
  clear hA0 hval0 hsz0
  refine (begins_walk ⟨a0, a1, a, b, c⟩ W ⟨fits_of_wf w0, fits_of_wf w1, ha, hb, hc⟩).mono fun e W' ⟨he, bel⟩ => ?_
  subst he
  exact ⟨_, rfl, _, _, _, [], _, [], hW', trodAll_mk1 (shut_bool Try.underlying4 _), (trodAll_cons_mk (shut_int Try.underlying3 w0) (trodAll_cons_mk (shut_int Try.underlying3 w1) (trodAll_cons_mk (Below.trod laidOut (by kernel_rfl) (of_decide_eq_true (by kernel_rfl)) k2 bel lt2) trodAll_mk0))), rfl, bel.frame _, fun h => by cases h⟩

theorem over : Rows.buddyBeginsRow.holds Try.pinned (OpenSpec.ofChange Rows.buddyBeginsSpec) :=
  OpenClaim.holds_of_wide 4 Try.f4 rfl rfl rfl rfl rfl rfl rfl ⟨rfl, rfl, rfl, rfl, rfl⟩ rfl rfl rfl rfl rfl (by kernel_rfl) Try.func4 (by kernel_rfl)
    (of_decide_eq_true (by kernel_rfl)) (by unfold Func.isWrapper; first | (rw [if_pos (by decide +kernel)]; kernel_rfl) | (rw [if_neg (by decide +kernel)]; exact ⟨rfl, rfl⟩))
    (fun os started H enc _ => lifted os started H enc)
theorem proved : Rows.BuddyBeginsSaid := over
end Go.Proofs.Ytcmmoemmlellbaa.buddyBegins
namespace Go.Proofs.Ytcmmoemmlellbaa
theorem buddyBegins_holds : Rows.BuddyBeginsSaid := buddyBegins.proved
end Go.Proofs.Ytcmmoemmlellbaa
