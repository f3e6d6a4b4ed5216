/- Maps from int of the call's own, and what was evicted. Conditions: none. -/
import Derived.Test.YtbalmmaoiebppaaVm
import Derived.Maps.OwnSet
namespace Go.Proofs.Ytbalmmaoiebppaa
open Go.RowKit

theorem wf_of_fits {k : Int} (h : fits k) : (Lit.int .i64 k).wf = true := by
  have h1 := h.1; have h2 := h.2
  simp [Lit.wf, IntKind.min, IntKind.max, IntKind.signed, IntKind.bits]
  omega
theorem ikey (k : Int) : WideAt.IsKeyLit (.int .i64 k) := by simp [WideAt.IsKeyLit]
theorem ukey : Try.prog.underlying 3 = some (.int .i64) := Try.underlying3
theorem keyed : Maps.Keyed Try.prog 3 := Maps.int_keyed Try.underlying3

/-- block b holds the map f from int to int -/
def mapI (w : World) (b n : Nat) (f : Int → Option Int) : Prop :=
  ∃ D : DataW Unit, w.ownsMap Try.prog 3 (plainElem Try.prog 3) b n D ∧
    ∀ k : Int, fits k → Maps.has D (.int .i64 k) = (f k).isSome ∧ ∀ a, f k = some a → ∀ z, D.atKey (.int .i64 k) z = .lit (.int .i64 a)
/-- block b holds the set p of ints, as a map to bool -/
def mapB (w : World) (b n : Nat) (p : Int → Bool) : Prop :=
  ∃ D : DataW Unit, w.ownsMap Try.prog 3 (plainElem Try.prog 4) b n D ∧
    ∀ k : Int, fits k → Maps.has D (.int .i64 k) = p k ∧ (p k = true → ∀ z, D.atKey (.int .i64 k) z = .lit (.bool true))

theorem mapI.lt {w : World} {b n : Nat} {f : Int → Option Int} (h : mapI w b n f) : b < w.heap.size := by obtain ⟨D, h, _⟩ := h; exact h.lt
theorem mapB.lt {w : World} {b n : Nat} {f : Int → Bool} (h : mapB w b n f) : b < w.heap.size := by obtain ⟨D, h, _⟩ := h; exact h.lt
theorem mapI.obj {w : World} {b n : Nat} {f : Int → Option Int} (h : mapI w b n f) : ∃ es c, w.heap[b]? = some (.map es c) := by obtain ⟨D, ⟨es, c, h, _⟩, _⟩ := h; exact ⟨es, c, h⟩
theorem mapB.obj {w : World} {b n : Nat} {f : Int → Bool} (h : mapB w b n f) : ∃ es c, w.heap[b]? = some (.map es c) := by obtain ⟨D, ⟨es, c, h, _⟩, _⟩ := h; exact ⟨es, c, h⟩
theorem mapI.same {w w' : World} {b n : Nat} {f : Int → Option Int} (h : mapI w b n f) (hb : w'.heap[b]? = w.heap[b]?) : mapI w' b n f := by
  obtain ⟨D, ⟨es, c, h1, h2⟩, h3⟩ := h; exact ⟨D, ⟨es, c, hb.trans h1, h2⟩, h3⟩
theorem mapB.same {w w' : World} {b n : Nat} {f : Int → Bool} (h : mapB w b n f) (hb : w'.heap[b]? = w.heap[b]?) : mapB w' b n f := by
  obtain ⟨D, ⟨es, c, h1, h2⟩, h3⟩ := h; exact ⟨D, ⟨es, c, hb.trans h1, h2⟩, h3⟩
theorem mapI.keeps {P : Nat → Prop} {w w' : World} {b n : Nat} {f : Int → Option Int} (h : mapI w b n f) (hk : Keeps P w w') (hp : ¬ P b) : mapI w' b n f := h.same (hk.block b h.lt hp)
theorem mapB.keeps {P : Nat → Prop} {w w' : World} {b n : Nat} {f : Int → Bool} (h : mapB w b n f) (hk : Keeps P w w') (hp : ¬ P b) : mapB w' b n f := h.same (hk.block b h.lt hp)
theorem mapI_made (w : World) : mapI (w.alloc (.map #[] 0)) w.heap.size 0 (fun _ => none) :=
  ⟨.map [], World.ownsMap_made w _ _ _, fun k _ => ⟨rfl, fun a ha => by cases ha⟩⟩
theorem mapB_made (w : World) : mapB (w.alloc (.map #[] 0)) w.heap.size 0 (fun _ => false) :=
  ⟨.map [], World.ownsMap_made w _ _ _, fun k _ => ⟨rfl, fun ha => by cases ha⟩⟩

theorem keeps_of_grown {w w' : World} {b : Nat} (h : w.grownBy w' (some b)) : Keeps (· = b) w w' :=
  ⟨h.os, h.tape, h.output, h.size, fun k hk hp => h.block k hk fun e => hp (by injection e)⟩

section
variable {ops : Array Oper} {rest : List Oper} {o : Oper} {a : Act} {w : World} {Q : Exit → Act → World → Prop}

theorem wpList_getI (hg : o.guard = none) (m x : Operand) (hop : o.op = Op.lookup 45 m x true) (b n : Nat) (f : Int → Option Int) (hm : a.eval m = .map (some b)) (h : mapI w b n f) (k : Int) (hx : a.eval x = .int .i64 k) (hk : fits k)
    (hK : wpList Try.prog ops Q rest (a.put o.dst (.tuple #[.int .i64 ((f k).getD 0), .bool (f k).isSome])) w) : wpList Try.prog ops Q (o :: rest) a w := by
  obtain ⟨D, hD, hf⟩ := h
  refine wpList_lookup_own_ok_int w hg m x _ hop 3 3 .i64 keyed Try.underlying45 ukey (Try.zeroValue3 _) b n D hm hD _ (.int .i64 k) hx (Maps.keyOf_int_mk ukey (wf_of_fits hk)) fun c hat _ => ?_
  obtain ⟨h1, h2⟩ := hf k hk
  rw [h1]
  cases hfk : f k with
  | none =>
    rw [hfk] at h1
    rw [Maps.atKey_of_not_has h1] at hat
    injection hat with hat; injection hat with _ hat
    rw [hfk] at hK; subst hat; exact hK
  | some v =>
    rw [h2 v hfk] at hat
    injection hat with hat; injection hat with _ hat
    rw [hfk] at hK; subst hat; exact hK

theorem plainElem_bool_inv {v : Value} {z : DataW Unit × List MemPlace} {x : Bool} (h : plainElem Try.prog 4 v = some z) (hz : z.1 = .lit (.bool x)) : v = .bool x := by
  unfold plainElem at h
  rw [Try.underlying4] at h
  cases v <;> simp at h
  subst h; injection hz with hz; injection hz with hz; rw [hz]

theorem wpList_getB (hg : o.guard = none) (m x : Operand) (hop : o.op = Op.lookup 48 m x false) (b n : Nat) (p : Int → Bool) (hm : a.eval m = .map (some b)) (h : mapB w b n p) (k : Int) (hx : a.eval x = .int .i64 k) (hk : fits k)
    (hK : wpList Try.prog ops Q rest (a.put o.dst (.bool (p k))) w) : wpList Try.prog ops Q (o :: rest) a w := by
  obtain ⟨D, hD, hf⟩ := h
  obtain ⟨h1, h2⟩ := hf k hk
  refine wpList_plain hg fun K' hK' => ?_
  obtain ⟨v, ps, hrun, hv⟩ := hD.lookup keyed Try.underlying48 (Try.zeroValue4 w) (plainElem_bool Try.underlying4 false) (key := .int .i64 k) (Maps.keyOf_int_mk ukey (wf_of_fits hk))
  have hvv : v = .bool (p k) := by
    refine plainElem_bool_inv hv ?_
    cases hp : p k with
    | false => rw [hp] at h1; exact Maps.atKey_of_not_has h1 _
    | true => exact h2 hp _
  subst hvv
  unfold Oper.wp
  simp [execOp, hop, hm, hx, hrun, Result.andThen]
  exact hK' _ _ hK

theorem wpList_setI (hg : o.guard = none) (m x v : Operand) (hop : o.op = Op.mapUpdate 45 m x v) (b n : Nat) (f : Int → Option Int) (hm : a.eval m = .map (some b)) (h : mapI w b n f) (hn : n < 100000) (k y : Int) (hx : a.eval x = .int .i64 k) (hv : a.eval v = .int .i64 y) (hk : fits k) (hy : fits y)
    (hK : ∀ w', mapI w' b (n + 1) (fun j => if j = k then some y else f j) → Keeps (· = b) w w' → wpList Try.prog ops Q rest (a.put o.dst undef) w') : wpList Try.prog ops Q (o :: rest) a w := by
  obtain ⟨D, hD, hf⟩ := h
  refine wpList_mapUpdate_own w hg m x v _ hop 3 3 keyed Try.underlying45 _ b n D hm hD (by unfold maxLen; omega) _ _ (.int .i64 k) hx hv (Maps.keyOf_int_mk ukey (wf_of_fits hk)) (.lit (.int .i64 y)) [] (plainElem_int ukey (wf_of_fits hy)) fun w' h1 h2 => hK w' ⟨_, h1, fun j hj => ?_⟩ (keeps_of_grown h2)
  dsimp only
  by_cases e : j = k
  · subst e
    rw [if_pos rfl]
    exact ⟨Maps.has_put_same (hD.isMap) (ikey _) _, fun a ha z => by injection ha with ha; subst ha; exact Maps.atKey_put_same hD.isMap (ikey _) _ _⟩
  · rw [if_neg e]
    have hne : (Lit.int .i64 j) ≠ .int .i64 k := fun h => e (by injection h)
    rw [Maps.has_put_other hne]
    exact ⟨(hf j hj).1, fun a ha z => by rw [Maps.atKey_put_other hne]; exact (hf j hj).2 a ha z⟩

theorem wpList_setB (hg : o.guard = none) (m x v : Operand) (hop : o.op = Op.mapUpdate 48 m x v) (b n : Nat) (p : Int → Bool) (hm : a.eval m = .map (some b)) (h : mapB w b n p) (hn : n < 100000) (k : Int) (hx : a.eval x = .int .i64 k) (hv : a.eval v = .bool true) (hk : fits k)
    (hK : ∀ w', mapB w' b (n + 1) (fun j => if j = k then true else p j) → Keeps (· = b) w w' → wpList Try.prog ops Q rest (a.put o.dst undef) w') : wpList Try.prog ops Q (o :: rest) a w := by
  obtain ⟨D, hD, hf⟩ := h
  refine wpList_mapUpdate_own w hg m x v _ hop 3 4 keyed Try.underlying48 _ b n D hm hD (by unfold maxLen; omega) _ _ (.int .i64 k) hx hv (Maps.keyOf_int_mk ukey (wf_of_fits hk)) (.lit (.bool true)) [] (plainElem_bool Try.underlying4 true) fun w' h1 h2 => hK w' ⟨_, h1, fun j hj => ?_⟩ (keeps_of_grown h2)
  dsimp only
  by_cases e : j = k
  · subst e
    rw [if_pos rfl]
    exact ⟨Maps.has_put_same (hD.isMap) (ikey _) _, fun _ z => Maps.atKey_put_same hD.isMap (ikey _) _ _⟩
  · rw [if_neg e]
    have hne : (Lit.int .i64 j) ≠ .int .i64 k := fun h => e (by injection h)
    rw [Maps.has_put_other hne]
    exact ⟨(hf j hj).1, fun ha z => by rw [Maps.atKey_put_other hne]; exact (hf j hj).2 ha z⟩

theorem wpList_delB (hg : o.guard = none) (m x : Operand) (hop : o.op = Op.call { callee := Callee.builtin Builtin.delete, args := #[m, x], argTypes := #[48, 3] }) (b n : Nat) (p : Int → Bool) (hm : a.eval m = .map (some b)) (h : mapB w b n p) (k : Int) (hx : a.eval x = .int .i64 k) (hk : fits k)
    (hK : ∀ w', mapB w' b n (fun j => if j = k then false else p j) → Keeps (· = b) w w' → wpList Try.prog ops Q rest (a.put o.dst (.tuple #[])) w') : wpList Try.prog ops Q (o :: rest) a w := by
  obtain ⟨D, hD, hf⟩ := h
  refine wpList_delete_own w hg m x _ _ hop 4 keyed Try.underlying48 _ b n D hm hD _ (.int .i64 k) hx (Maps.keyOf_int_mk ukey (wf_of_fits hk)) fun w' h1 h2 => hK w' ⟨_, h1, fun j hj => ?_⟩ (keeps_of_grown h2.grown)
  dsimp only
  by_cases e : j = k
  · subst e
    rw [if_pos rfl]
    exact ⟨Maps.has_del_same, fun ha => by cases ha⟩
  · rw [if_neg e]
    have hne : (Lit.int .i64 j) ≠ .int .i64 k := fun h => e (by injection h)
    rw [Maps.has_del_other hne]
    exact ⟨(hf j hj).1, fun ha z => by rw [Maps.atKey_del_other hne]; exact (hf j hj).2 ha z⟩
end

/-- the number of evictions when p was evicted last -/
def lstR : List Int → Int → Option Int
  | [], _ => none
  | x :: r, p => if p = x then some (r.length + 1 : Nat) else lstR r p
def lst (g : List Int) (p : Int) : Option Int := lstR g.reverse p
theorem lst_nil : lst [] = fun _ => none := rfl
theorem lst_snoc (g : List Int) (x : Int) : lst (g ++ [x]) = fun j => if j = x then some ((g.length + 1 : Nat) : Int) else lst g j := by
  funext j; unfold lst; rw [List.reverse_append]; simp [lstR]
theorem lstR_range : ∀ (l : List Int) (p a : Int), lstR l p = some a → 1 ≤ a ∧ a ≤ l.length
  | [], _, _, h => by cases h
  | x :: r, p, a, h => by
    unfold lstR at h
    split at h
    · injection h with h; subst h; simp; omega
    · have := lstR_range r p a h; simp; omega
theorem lst_range {g : List Int} {p a : Int} (h : lst g p = some a) : 1 ≤ a ∧ a ≤ g.length := by
  have := lstR_range _ _ _ h; simpa using this
/-- the refault distance -/
def dst (g : List Int) (p : Int) : Int := match lst g p with | none => -2 | some a => (g.length : Nat) - a
theorem dst_fits (g : List Int) (p : Int) (h : g.length ≤ 100000) : -2 ≤ dst g p ∧ dst g p ≤ 100000 := by
  unfold dst
  cases e : lst g p with
  | none => simp
  | some a => have := lst_range e; simp only []; omega

/-- the record of evictions: its box, its map -/
structure hist (w : World) (base bx bm n : Nat) (gone : List Int) : Prop where
  hx : base ≤ bx
  hm : base ≤ bm
  box : w.heap[bx]? = some (.cells #[.int .i64 (gone.length : Nat), .map (some bm)] 47 (0, 0))
  map : mapI w bm n (lst gone)
theorem hist.keeps {P : Nat → Prop} {w w' : World} {base bx bm n : Nat} {gone : List Int} (h : hist w base bx bm n gone) (hk : Keeps P w w') (h1 : ¬ P bx) (h2 : ¬ P bm) : hist w' base bx bm n gone :=
  ⟨h.hx, h.hm, (hk.block bx (lt_of_block h.box) h1).trans h.box, h.map.keeps hk h2⟩
theorem hist.ne {w : World} {base bx bm n : Nat} {gone : List Int} (h : hist w base bx bm n gone) : bx ≠ bm := fun e => by
  obtain ⟨es, c, h1⟩ := h.map.obj
  have h2 := h.box
  rw [e, h1] at h2; cases h2
end Go.Proofs.Ytbalmmaoiebppaa
