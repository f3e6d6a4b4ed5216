/- The memory of Play: the steps, the blocks that are held, and the zone's lists. Conditions: none. -/
import Derived.Test.YtcmmoemmlellbaaFe
import Derived.Test.YtcmmoemmlellbaaAw
import Derived.Test.YtcmmoemmlellbaaPm
import Derived.OwnWalk
import Derived.Deep.RegionHeld3
import Derived.Lib.SmallJoins
import Derived.Maps.AppendAt
namespace Go.Proofs.Ytcmmoemmlellbaa
open Go.RowKit

/-- a whole zone is stored, as a step of a region that draws its order -/
theorem step_store_zone {ops : Array Oper} {o : Oper} {a : Act} {w : World} {K : Act → World → Prop} {Q : Exit → Act → World → Prop} {E : Prop} (hgd : o.guard = none) (x y : Operand) (ho : o.op = .store 25 x y)
    (g : Nat) (z' : Zh) (s' : Nat → Value) (z : Zh) (s : Nat → Value) (hx : a.eval x = .pointer (some ⟨g, 0, none⟩)) (hy : a.eval y = zv z s) (hg : boxed w g z' s') (h1 : slices s)
    (h : ∀ w', boxed w' g z s → Keeps (· = g) w w' → K (a.put o.dst undef) w') : if Region.wanted o (yielded ops a.tmps) = true then Oper.wp Try.prog o a w K Q else E := by
  rw [if_pos (by simp [Region.wanted, hgd])]
  exact wp_store_row 25 x y ho g _ hx hy 25 _ hg zone_info rfl (zone_one h1) (h _ (setRow_heap w g _ _ _ _ hg) (setRow_keeps w g _))

/-- an operation that yields in every world that meets S is taken first; its slot is said -/
theorem wpAnyH_takeD {ops : Array Oper} {Q : Exit → Act → World → Prop} {md : Region.Mode} {S : World → Prop} (i : Nat) (d : Option Tmp) (v : Value) {oi : Oper} {fuel : Nat} {listed : Array Bool} {a : Act} {w : World} (hi : ops[i]? = some oi) (hd : oi.dst = d)
    (hs : Region.noSelect ops = true) (hf : Region.free md ops listed i = true) (hr : (Region.ready md ops listed).contains i = true)
    (hQ : ∀ c a w, Q (.panic c) (a.put oi.dst v) w → Q (.panic c) a w) (hy : YieldsIf Try.prog ops S oi v a) (hS : S w)
    (h : wpAnyH Try.prog md ops Q S fuel (listed.setIfInBounds i true) (a.put d v) w) : wpAnyH Try.prog md ops Q S (fuel + 1) listed a w :=
  wpAnyH_take hi hs hf hr hQ hy hS (by rw [hd]; exact h)

theorem farZ.keeps {P : Nat → Prop} {w w' : World} {base : Nat} {s : Nat → Value} {L : FL} (h : farZ w base s L) (hk : Keeps P w w') (hP : ∀ b, base ≤ b → ¬ P b) : farZ w' base s L := fun k hk' => by
  obtain ⟨g, hg⟩ := h k hk'; exact ⟨g, hg.keeps hk fun b hb => hP b (by subst hb; exact hg.lt.1)⟩
theorem farZ.below {w w' : World} {base : Nat} {s : Nat → Value} {L : FL} (h : farZ w base s L) (hb : Below w.heap.size w w') : farZ w' base s L := h.keeps (P := fun _ => False) (Keeps.of_below hb) fun _ _ => id
theorem farZ.lower {w : World} {base base' : Nat} {s : Nat → Value} {L : FL} (h : farZ w base s L) (hb : base' ≤ base) : farZ w base' s L := fun k hk' => by
  obtain ⟨g, hg⟩ := h k hk'; exact ⟨g, hg.base_le hb⟩

/-- append, as a step of a region that draws its order, and where the new slice lies -/
theorem step_append_at {P : Program} {ops : Array Oper} {o : Oper} {a : Act} {w : World} {K : Act → World → Prop} {Q : Exit → Act → World → Prop} {E : Prop} (hgd : o.guard = none) (s x : Operand) (t : TypeId)
    (ho : o.op = .call { callee := .builtin .append, args := #[s, x], argTypes := #[t, t] })
    (base : Nat) (e : TypeId) (i : TypeInfo) (z : Value) (size bytes : Nat) (ht : P.underlying t = some (.slice e)) (hi : P.info? e = some i) (hz : i.zero = some z)
    (hsize : i.size = size) (hby : i.bytes = bytes) (hzs : z.cells.size = size) (hsz : 0 < size)
    (v : Value) (n : Nat) (xs : List Value) (hs : a.eval s = v) (hown : w.ownsRow base e size v n xs)
    (ad : Addr) (m c : Nat) (news : List Value) (hx : a.eval x = .slice (some ad) m c) (hl : news.length = m * size) (hnews : ∀ j u, news[j]? = some u → w.cell? (ad.add j) = some u) (h1 : ∀ u ∈ news, u.oneCell' = true)
    (h63 : n + m ≤ maxLen) (hbytes : (n + m) * bytes ≤ 140737488355328) (hbase : base ≤ w.heap.size)
    (h : ∀ v' w', w'.ownsRow base e size v' (n + m) (xs ++ news) → w.grownBy w' v.ownBlock → (v'.ownBlock = v.ownBlock ∨ v'.ownBlock = some w.heap.size) → K (a.put o.dst v') w') :
    if Region.wanted o (yielded ops a.tmps) = true then Oper.wp P o a w K Q else E := by
  rw [if_pos (by simp [Region.wanted, hgd])]
  obtain ⟨v', w', hr, h2, h3, _, h5⟩ := run_append_own_at (P := P) w base t o.type e i z size bytes ht hi hz hsize hby hzs hsz v n xs hown ad m c news hl hnews h1 h63 hbytes hbase
  unfold Oper.wp execOp
  simp only [ho, resolve, invoke, builtin, Sem.run_bind, Sem.run_pure, Result.andThen_ok, List.map_toArray, List.map_cons, List.map_nil, hs, hx, hr]
  exact h v' w' h2 h3 h5

/-- a step: give, order, pick -/
abbrev OpM := Bool × Int × Int
def opCells (x : OpM) : List Value := [.bool x.1, .int .u8 x.2.1, .int .u8 x.2.2]
def opsAt (w : World) (v : Value) (l : List OpM) : Prop := ∃ a c, v = .slice a l.length c ∧ ∀ i x, l[i]? = some x → (0 ≤ x.2.1 ∧ x.2.1 < 256 ∧ 0 ≤ x.2.2 ∧ x.2.2 < 256) ∧
  ∃ b o, a = some ⟨b, o, none⟩ ∧ w.cell? ⟨b, o + i * 3, none⟩ = some (.bool x.1) ∧ w.cell? ⟨b, o + i * 3 + 1, none⟩ = some (.int .u8 x.2.1) ∧ w.cell? ⟨b, o + i * 3 + 2, none⟩ = some (.int .u8 x.2.2)

def cellsH (H : List (Int × Nat)) : List Value := H.flatMap fun h => [.int .i64 h.1, .int .i64 (h.2 : Int)]
theorem cellsH_len (H : List (Int × Nat)) : (cellsH H).length = H.length * 2 := by
  induction H with
  | nil => rfl
  | cons h H ih => simp [cellsH] at *; omega
theorem cellsH_append (A B : List (Int × Nat)) : cellsH (A ++ B) = cellsH A ++ cellsH B := by simp [cellsH]
theorem cellsH_cons (h : Int × Nat) (B : List (Int × Nat)) : cellsH (h :: B) = .int .i64 h.1 :: .int .i64 (h.2 : Int) :: cellsH B := by simp [cellsH]
theorem cellsH_one {H : List (Int × Nat)} {u : Value} (h : u ∈ cellsH H) : u.oneCell' = true := by
  simp only [cellsH, List.mem_flatMap] at h
  obtain ⟨a, _, h⟩ := h
  simp at h
  rcases h with rfl | rfl <;> rfl

abbrev ownsH (w : World) (base : Nat) (v : Value) (H : List (Int × Nat)) : Prop := w.ownsRow base 48 2 v H.length (cellsH H)

theorem ownsRow_keepH {w w' : World} {base n k : Nat} {e : TypeId} {v : Value} {xs : List Value} (h : w.ownsRow base e k v n xs) (hb : ∀ b, v.ownBlock = some b → w'.heap[b]? = w.heap[b]?) : w'.ownsRow base e k v n xs := by
  refine ⟨h.1, ?_⟩
  rcases h.2 with h0 | ⟨g, cap, cur, rfl, hg, hh, h1, h2, h3, h4⟩
  · exact .inl h0
  · exact .inr ⟨g, cap, cur, rfl, hg, (hb g rfl).trans hh, h1, h2, h3, h4⟩

/-- the blocks that are held and the zone's lists lie apart, and not in block B -/
structure PM (w : World) (base B : Nat) (s : Nat → Value) (L : FL) (v : Value) (H : List (Int × Nat)) : Prop where
  held : ownsH w base v H
  notB : v.ownBlock ≠ some B
  lists : ∀ k, k ≤ 4 → ∃ g, own w base g (s k) (L k) ∧ ∀ b, g = some b → v.ownBlock ≠ some b ∧ b ≠ B

theorem ownsH.form {w : World} {base : Nat} {v : Value} {H : List (Int × Nat)} (h : ownsH w base v H) : ∃ a c, v = .slice a H.length c := by
  rcases h.2 with ⟨rfl, h0⟩ | ⟨g, cap, cur, rfl, _⟩
  · rw [h0]; exact ⟨_, _, rfl⟩
  · exact ⟨_, _, rfl⟩

/-- a slice of the blocks that are held, taken apart -/
theorem ownsH.parts {w : World} {base : Nat} {v : Value} {A B : List (Int × Nat)} {h : Int × Nat} (o : ownsH w base v (A ++ h :: B)) : ∃ g cap, v = .slice (some ⟨g, 0, none⟩) (A ++ h :: B).length cap ∧ base ≤ g ∧ g < w.heap.size ∧ A.length + 1 + B.length ≤ cap ∧ cap ≤ maxLen ∧
    w.cell? ⟨g, A.length * 2, none⟩ = some (.int .i64 h.1) ∧ w.cell? ⟨g, A.length * 2 + 1, none⟩ = some (.int .i64 (h.2 : Int)) ∧
    (∀ (j : Nat) u, (cellsH A)[j]? = some u → w.cell? ⟨g, j, none⟩ = some u) ∧ (∀ (j : Nat) u, (cellsH B)[j]? = some u → w.cell? ⟨g, (A.length + 1) * 2 + j, none⟩ = some u) := by
  rcases o.2 with ⟨_, h0⟩ | ⟨g, cap, cur, hv, hb, hh, h1, h2, h3, h4⟩
  · simp at h0
  · have hc : ∀ (j : Nat) u, (cellsH (A ++ h :: B))[j]? = some u → w.cell? ⟨g, j, none⟩ = some u := fun j u hu => by
      rw [cell_of_block hh]
      have h5 : (cur.toList.take ((A ++ h :: B).length * 2))[j]? = some u := by rw [h4]; exact hu
      rw [List.getElem?_take] at h5
      split at h5
      · rwa [Array.getElem?_toList] at h5
      · cases h5
    have hA := cellsH_len A
    refine ⟨g, cap, hv, hb, lt_of_block hh, by simp at h1; omega, h2, hc _ _ ?_, hc _ _ ?_, fun j u hu => hc j u ?_, fun j u hu => hc _ u ?_⟩
    · rw [cellsH_append, cellsH_cons, ← hA, List.getElem?_append_right (Nat.le_refl _), Nat.sub_self]; rfl
    · rw [cellsH_append, cellsH_cons, ← hA, List.getElem?_append_right (by omega), Nat.add_sub_cancel_left]; rfl
    · rw [cellsH_append, List.getElem?_append_left (by have := (List.getElem?_eq_some_iff.1 hu).1; exact this)]; exact hu
    · rw [cellsH_append, cellsH_cons, List.getElem?_append_right (by omega), show (A.length + 1) * 2 + j - (cellsH A).length = j + 2 by omega]; exact hu

section
variable {w w' : World} {base B : Nat} {s s' : Nat → Value} {L L' : FL} {v v' : Value} {H H' : List (Int × Nat)}
theorem PM.rdZ (p : PM w base B s L v H) : rdZ w s L := fun k hk => by obtain ⟨g, hg, _⟩ := p.lists k hk; exact hg.rd
theorem PM.slices (p : PM w base B s L v H) : slices s := fun k hk => by obtain ⟨g, hg, _⟩ := p.lists k hk; exact hg.form

theorem PM.keeps {P : Nat → Prop} (p : PM w base B s L v H) (hk : Keeps P w w') (hP : ∀ b, base ≤ b → b ≠ B → ¬ P b) : PM w' base B s L v H :=
  ⟨ownsRow_keepH p.held fun b hb => hk.block b (p.held.lt b hb).2 (hP b (p.held.lt b hb).1 fun e => p.notB (e ▸ hb)), p.notB,
   fun k hk' => by obtain ⟨g, hg, hn⟩ := p.lists k hk'; exact ⟨g, hg.keeps hk fun b hb => hP b (by subst hb; exact hg.lt.1) (hn b hb).2, hn⟩⟩
theorem PM.below (p : PM w base B s L v H) (hb : Below w.heap.size w w') : PM w' base B s L v H := p.keeps (P := fun _ => False) (Keeps.of_below hb) fun _ _ _ => id
theorem PM.start (h : farZ w base s L) (hB : w.heap.size ≤ B) : PM w base B s L (.slice none 0 0) [] :=
  ⟨World.ownsRow_nil w base _ 2, by simp [Value.ownBlock], fun k hk => by obtain ⟨g, hg⟩ := h k hk; exact ⟨g, hg, fun b hb => ⟨by simp [Value.ownBlock], by subst hb; have := hg.lt; omega⟩⟩⟩
/-- another block is avoided: a new one -/
theorem PM.fresh {B' : Nat} (p : PM w base B s L v H) (hB : w.heap.size ≤ B') : PM w base B' s L v H :=
  ⟨p.held, fun h => by have := (p.held.lt _ h).2; omega, fun k hk => by obtain ⟨g, hg, hn⟩ := p.lists k hk; exact ⟨g, hg, fun b hb => ⟨(hn b hb).1, by subst hb; have := hg.lt; omega⟩⟩⟩
theorem PM.lower {base' : Nat} (p : PM w base B s L v H) (hb : base' ≤ base) : PM w base' B s L v H :=
  ⟨⟨p.held.1, p.held.2.imp id fun ⟨g, cap, cur, h1, h2, h3⟩ => ⟨g, cap, cur, h1, Nat.le_trans hb h2, h3⟩⟩, p.notB, fun k hk => by obtain ⟨g, hg, hn⟩ := p.lists k hk; exact ⟨g, hg.base_le hb, hn⟩⟩

/-- the zone is another one, made in a call -/
theorem PM.zone (p : PM w base B s L v H) (hb : Below w.heap.size w w') (h : farZ w' w.heap.size s' L') (hbase : base ≤ w.heap.size) (hB : B < w.heap.size) : PM w' base B s' L' v H :=
  ⟨(p.below hb).held, p.notB, fun k hk => by
    obtain ⟨g, hg⟩ := h k hk
    refine ⟨g, hg.base_le hbase, fun b hgb => ?_⟩
    subst hgb
    have h2 := hg.lt.1
    refine ⟨fun hvb => ?_, by omega⟩
    have h1 := (p.held.lt b hvb).2
    omega⟩

/-- other blocks are held -/
theorem PM.append (p : PM w base B s L v H) (ho : ownsH w' base v' H') (hg : ∀ b, b < w.heap.size → v.ownBlock ≠ some b → w'.heap[b]? = w.heap[b]?) (hat : ∀ b, v'.ownBlock = some b → v.ownBlock = some b ∨ w.heap.size ≤ b) (hB : B < w.heap.size) : PM w' base B s L v' H' :=
  ⟨ho, fun h => by
    rcases hat B h with h1 | h1
    · exact p.notB h1
    · omega,
   fun k hk => by
    obtain ⟨g, hgo, hne⟩ := p.lists k hk
    refine ⟨g, ?_, fun b hb => ⟨fun h => ?_, (hne b hb).2⟩⟩
    · cases g with
      | none => exact hgo
      | some b =>
        obtain ⟨h1, o, c, C, h2, h3, h4, h5, h6⟩ := hgo
        exact ⟨h1, o, c, C, h2, h3, h4, (hg b (lt_of_block h5) (hne b rfl).1).trans h5, h6⟩
    · rcases hat b h with h1 | h1
      · exact (hne b hb).1 h1
      · subst hb
        have := hgo.lt.2
        omega⟩
end

/-- a block is laid, and another is held -/
theorem PM.grow {w w' : World} {base B : Nat} {s : Nat → Value} {L : FL} {v v' : Value} {H H' : List (Int × Nat)} {A : Obj} (p : PM w base B s L v H) (hB : B < w.heap.size) (hbase : base ≤ w.heap.size) (ho : ownsH w' base v' H') (hg : (w.alloc A).grownBy w' v.ownBlock)
    (hat : v'.ownBlock = v.ownBlock ∨ v'.ownBlock = some (w.alloc A).heap.size) : PM w' base B s L v' H' ∧ w'.heap[B]? = w.heap[B]? ∧ Below base w w' := by
  have hs : (w.alloc A).heap.size = w.heap.size + 1 := by simp
  have hlow : ∀ b, b < w.heap.size → v.ownBlock ≠ some b → w'.heap[b]? = w.heap[b]? := fun b hb hne => (hg.block b (by omega) fun e => hne e.symm).trans (heap_alloc_old w A hb)
  refine ⟨p.append ho hlow (fun b hb => ?_) hB, hlow B hB p.notB, ⟨hg.os, hg.tape, hg.output, by have := hg.size; omega, fun b hb => hlow b (by omega) fun e => ?_⟩⟩
  · rcases hat with h | h
    · exact .inl (h ▸ hb)
    · rw [h] at hb; injection hb with hb; right; omega
  · have := (p.held.lt b e).1; omega

/-- what was there is as it was, and v lies in a new block -/
structure HStep (w w' : World) (v : Value) : Prop where
  bel : Below w.heap.size w w'
  new : ∀ b, v.ownBlock = some b → w.heap.size ≤ b
theorem HStep.low {w w' : World} {v : Value} (h : HStep w w' v) (b : Nat) (hb : b < w.heap.size) : w'.heap[b]? = w.heap[b]? := h.bel.block b hb
theorem HStep.one {w wx w' : World} {v : Value} {A : Obj} (hg : wx.grownBy w' (Value.slice (some ⟨w.heap.size, 0, none⟩) 0 0).ownBlock) (hat : v.ownBlock = (Value.slice (some ⟨w.heap.size, 0, none⟩) 0 0).ownBlock ∨ v.ownBlock = some wx.heap.size)
    (hx : wx = (w.alloc A).drew := by rfl) : HStep w w' v := by
  subst hx
  have hs : (w.alloc A).drew.heap.size = w.heap.size + 1 := by show (w.alloc A).heap.size = _; simp
  refine ⟨⟨hg.os, hg.tape, hg.output, by have := hg.size; omega, fun b hb => (hg.block b (by omega) fun e => ?_).trans (heap_alloc_old w A hb)⟩, fun b hb => ?_⟩
  · simp only [Value.ownBlock, Option.some.injEq] at e; omega
  · rcases hat with h | h
    · rw [h] at hb; simp only [Value.ownBlock, Option.some.injEq] at hb; omega
    · rw [h] at hb; injection hb with hb; omega
theorem HStep.two {w w' w2 : World} {v v2 : Value} (h : HStep w w' v) (hg : w'.grownBy w2 v.ownBlock) (hat : v2.ownBlock = v.ownBlock ∨ v2.ownBlock = some w'.heap.size) : HStep w w2 v2 := by
  have hs := h.bel.size
  refine ⟨h.bel.trans ⟨hg.os, hg.tape, hg.output, hg.size, fun b hb => hg.block b (by omega) fun e => ?_⟩, fun b hb => ?_⟩
  · have := h.new b e.symm; omega
  · rcases hat with h1 | h1
    · exact h.new b (h1 ▸ hb)
    · rw [h1] at hb; injection hb with hb; omega
end Go.Proofs.Ytcmmoemmlellbaa
