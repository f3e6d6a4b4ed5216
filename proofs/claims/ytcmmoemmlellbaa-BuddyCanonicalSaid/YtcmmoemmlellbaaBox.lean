/- A zone in a variable of the call's own: storing a whole zone there, loading it, and handing it back as a result. Conditions: none. -/
import Derived.Test.YtcmmoemmlellbaaLib
import Derived.Lib.Hide
namespace Go.Proofs.Ytcmmoemmlellbaa
open Go.RowKit

def zcells (z : Zh) (s : Nat → Value) : Array Value := #[.int .i64 z.nd, .int .i64 z.kd, .int .i64 z.st, .int .i64 z.ct, .int .i64 z.mn, s 0, s 1, s 2, s 3, s 4]
def nilS : Nat → Value := fun _ => .slice none 0 0
def z0 : Zh := ⟨0, 0, 0, 0, 0⟩
/-- block B holds the zone -/
abbrev boxed (w : World) (B : Nat) (z : Zh) (s : Nat → Value) : Prop :=
  w.heap[B]? = some (.cells #[.int .i64 z.nd, .int .i64 z.kd, .int .i64 z.st, .int .i64 z.ct, .int .i64 z.mn, s 0, s 1, s 2, s 3, s 4] 25 (0, 0))
def slices (s : Nat → Value) : Prop := ∀ k, k ≤ 4 → ∃ a n c, s k = .slice a n c
theorem slices_nil : slices nilS := fun _ _ => ⟨_, _, _, rfl⟩

theorem zone_one {z : Zh} {s : Nat → Value} (h : slices s) : (#[.int .i64 z.nd, .int .i64 z.kd, .int .i64 z.st, .int .i64 z.ct, .int .i64 z.mn, s 0, s 1, s 2, s 3, s 4] : Array Value).all (·.oneCell') = true := by
  obtain ⟨a0, n0, c0, h0⟩ := h 0 (by omega)
  obtain ⟨a1, n1, c1, h1⟩ := h 1 (by omega)
  obtain ⟨a2, n2, c2, h2⟩ := h 2 (by omega)
  obtain ⟨a3, n3, c3, h3⟩ := h 3 (by omega)
  obtain ⟨a4, n4, c4, h4⟩ := h 4 (by omega)
  rw [h0, h1, h2, h3, h4]
  simp [Value.oneCell']

theorem setRow_keeps (w : World) (g : Nat) (cs : Array Value) : Keeps (· = g) w (w.setRow g cs) := ⟨rfl, rfl, rfl, by simp, fun k _ hp => setRow_other w g k _ hp⟩

theorem zone_info : (Try.prog.info? 25).map (·.size) = some 10 := by kernel_rfl
theorem zone_under : ∃ fs, Try.prog.underlying 25 = some (.struct fs) := ⟨_, Try.underlying25⟩

/-- a whole zone is stored into a variable of the call's own -/
theorem store_zone {ops : Array Oper} {rest : List Oper} {o : Oper} {a : Act} {w : World} {Q : Exit → Act → World → Prop} (hgd : o.guard = none) (x y : Operand) (ho : o.op = .store 25 x y)
    (g : Nat) (z' : Zh) (s' : Nat → Value) (z : Zh) (s : Nat → Value) (hx : a.eval x = .pointer (some ⟨g, 0, none⟩)) (hy : a.eval y = zv z s) (hg : boxed w g z' s') (h1 : slices s)
    (h : ∀ w', boxed w' g z s → Keeps (· = g) w w' → wpList Try.prog ops Q rest (a.put o.dst undef) w') : wpList Try.prog ops Q (o :: rest) a w :=
  wpList_store_row hgd 25 x y ho g _ hx hy 25 _ hg zone_info rfl (zone_one h1) (h _ (setRow_heap w g _ _ _ _ hg) (setRow_keeps w g _))

/-- a whole zone is loaded from a variable -/
theorem load_zone {ops : Array Oper} {rest : List Oper} {o : Oper} {a : Act} {w : World} {Q : Exit → Act → World → Prop} (hgd : o.guard = none) (x : Operand) (ho : o.op = .load 25 x)
    (g : Nat) (z : Zh) (s : Nat → Value) (hx : a.eval x = .pointer (some ⟨g, 0, none⟩)) (hg : boxed w g z s)
    (h : wpList Try.prog ops Q rest (a.put o.dst (zv z s)) w) : wpList Try.prog ops Q (o :: rest) a w :=
  wpList_load_row hgd 25 x ho g hx 25 _ (0, 0) _ hg Try.underlying25 rfl zone_info h

theorem loadVar_zone {w : World} {g : Nat} {z : Zh} {s : Nat → Value} (hg : boxed w g z s) : (loadVar 25 ⟨g, 0, none⟩).run Try.prog w = .ok (zv z s) w :=
  run_loadVar_row w g 25 25 _ (0, 0) _ hg Try.underlying25 rfl zone_info

theorem results_zone {fn : Func} {p : Tmp} (h : fn.results = #[.cell p 25]) (tmps : Array Value) (w : World) (g : Nat) (z : Zh) (s : Nat → Value)
    (hp : tmps.getD p undef = .pointer (some ⟨g, 0, none⟩)) (hg : boxed w g z s) : (results fn tmps).run Try.prog w = .ok (zv z s) w :=
  results_cell_row h tmps w g 25 _ (0, 0) _ hp hg Try.underlying25 rfl zone_info

theorem results_zone2 {fn : Func} {p u : Tmp} (h : fn.results = #[.cell p 25, .tmp u]) (tmps : Array Value) (w : World) (g : Nat) (z : Zh) (s : Nat → Value)
    (hp : tmps.getD p undef = .pointer (some ⟨g, 0, none⟩)) (hg : boxed w g z s) : (results fn tmps).run Try.prog w = .ok (.tuple #[zv z s, tmps.getD u undef]) w := by
  rw [results_cell_tmp h, hp]
  simp only [asAddr, Sem.run_pure, Result.andThen_ok, loadVar_zone hg]

theorem results_zone3 {fn : Func} {p u v : Tmp} (h : fn.results = #[.cell p 25, .tmp u, .tmp v]) (tmps : Array Value) (w : World) (g : Nat) (z : Zh) (s : Nat → Value)
    (hp : tmps.getD p undef = .pointer (some ⟨g, 0, none⟩)) (hg : boxed w g z s) : (results fn tmps).run Try.prog w = .ok (.tuple #[zv z s, tmps.getD u undef, tmps.getD v undef]) w := by
  have e : (results fn tmps).run Try.prog w = ((asAddr (tmps.getD p undef)).run Try.prog w).andThen fun a w₁ => ((loadVar 25 a).run Try.prog w₁).andThen fun r w₂ => .ok (.tuple #[r, tmps.getD u undef, tmps.getD v undef]) w₂ := by
    simp only [results, h]
    simp [Sem.run_bind, Result.andThen]
  rw [e, hp]
  simp only [asAddr, Sem.run_pure, Result.andThen_ok, loadVar_zone hg]

end Go.Proofs.Ytcmmoemmlellbaa
