/- Words for how a slice of integers lies in memory, and append onto one that is the call's own. Conditions: none. -/
import Derived.Test.YtbalmmaoiebppaaProg
import Derived.WalkKit
import Derived.WalkSpells
import Derived.WalkLawsBesides
import Derived.Lib.RowBridge
import Derived.Lib.Hide
import Derived.ArgAppend
import Derived.OwnWalk
namespace Go.Proofs.Ytbalmmaoiebppaa
open Go.RowKit

/-- the slice value v reads in w as the integers xs -/
def rd (w : World) (v : Value) (xs : List Int) : Prop :=
  (xs = [] ∧ ∃ a c, v = .slice a 0 c) ∨
  ∃ b o c, v = .slice (some ⟨b, o, none⟩) xs.length c ∧ xs ≠ [] ∧ xs.length ≤ c ∧ c ≤ 9223372036854775807 ∧ ∀ j, j < xs.length → w.cell? ⟨b, o + j, none⟩ = some (.int .i64 (xs.getD j 0))

theorem rd.below {w w' : World} {v : Value} {xs : List Int} (h : rd w v xs) (hb : Below w.heap.size w w') : rd w' v xs := by
  rcases h with h | ⟨b, o, c, rfl, hne, hc, hm, hcell⟩
  · exact .inl h
  · refine .inr ⟨b, o, c, rfl, hne, hc, hm, fun j hj => ?_⟩
    have h1 := hcell j hj
    rw [hb.cell (p := ⟨b, o + j, none⟩) ?_, h1]
    have : w.heap[b]? ≠ none := by
      intro hn; unfold World.cell? at h1; simp only [hn] at h1; exact absurd h1 (by simp)
    show b < w.heap.size
    exact Nat.lt_of_not_le fun hle => this (Array.getElem?_eq_none hle)

theorem rd.split {w : World} {v : Value} {xs : List Int} (h : rd w v xs) : ∃ a c, v = .slice a xs.length c ∧ xs.length ≤ 9223372036854775807 ∧
    ∀ i, i < xs.length → ∃ b o, a = some ⟨b, o, none⟩ ∧ ∀ j, j < xs.length → w.cell? ⟨b, o + j, none⟩ = some (.int .i64 (xs.getD j 0)) := by
  rcases h with ⟨rfl, a, c, rfl⟩ | ⟨b, o, c, rfl, _, hc, hm, hcell⟩
  · exact ⟨a, c, rfl, by simp, fun i hi => by simp at hi⟩
  · exact ⟨_, c, rfl, by omega, fun i _ => ⟨b, o, rfl, hcell⟩⟩

/-- numbers that fit -/
def fits (n : Int) : Prop := -9223372036854775808 ≤ n ∧ n ≤ 9223372036854775807
theorem ret_bool {a b : Bool} (h : a = b) : Ending.returned (.bool a) = .returned (.bool b) := by rw [h]
theorem ret_int {k : IntKind} {a b : Int} (h : a = b) : Ending.returned (.int k a) = .returned (.int k b) := by rw [h]

/-- the world w' is w but for the blocks of which P holds, and for new ones -/
structure Keeps (P : Nat → Prop) (w w' : World) : Prop where
  os : w'.os = w.os
  tape : w'.tape = w.tape
  output : w'.output = w.output
  size : w.heap.size ≤ w'.heap.size
  block : ∀ k, k < w.heap.size → ¬ P k → w'.heap[k]? = w.heap[k]?

theorem Keeps.refl (P : Nat → Prop) (w : World) : Keeps P w w := ⟨rfl, rfl, rfl, Nat.le_refl _, fun _ _ _ => rfl⟩
theorem Keeps.trans {P : Nat → Prop} {a b c : World} (h : Keeps P a b) (k : Keeps P b c) : Keeps P a c :=
  ⟨k.os.trans h.os, k.tape.trans h.tape, k.output.trans h.output, Nat.le_trans h.size k.size, fun i hi hp => (k.block i (Nat.lt_of_lt_of_le hi h.size) hp).trans (h.block i hi hp)⟩
theorem Keeps.mono {P Q : Nat → Prop} {w w' : World} (h : Keeps P w w') (hq : ∀ k, k < w.heap.size → P k → Q k) : Keeps Q w w' :=
  ⟨h.os, h.tape, h.output, h.size, fun k hk hn => h.block k hk fun hp => hn (hq k hk hp)⟩
theorem Keeps.of_below {P : Nat → Prop} {w w' : World} (h : Below w.heap.size w w') : Keeps P w w' := ⟨h.os, h.tape, h.output, h.size, fun k hk _ => h.block k hk⟩
theorem Keeps.to_below {P : Nat → Prop} {B : Nat} {w w' : World} (h : Keeps P w w') (hB : B ≤ w.heap.size) (hP : ∀ k, k < B → ¬ P k) : Below B w w' :=
  ⟨h.os, h.tape, h.output, h.size, fun k hk => h.block k (by omega) (hP k hk)⟩
theorem Below.drewN' {B : Nat} {a w : World} (h : Below B a w) (n : Nat) : Below B a (w.drewN n) := ⟨h.os, h.tape, h.output, h.size, h.block⟩
theorem cell_of_block {w : World} {b : Nat} {C : Array Value} {e : TypeId} {fz : Nat × Nat} (h : w.heap[b]? = some (.cells C e fz)) (j : Nat) : w.cell? ⟨b, j, none⟩ = C[j]? := by
  unfold World.cell?; simp only [h]; simp
theorem frozen_of_block {w : World} {b : Nat} {C : Array Value} {e : TypeId} (h : w.heap[b]? = some (.cells C e (0, 0))) (j : Nat) : w.frozen? ⟨b, j, none⟩ = false := by
  unfold World.frozen?; simp only [h]; simp
theorem lt_of_block {w : World} {b : Nat} {o : Obj} (h : w.heap[b]? = some o) : b < w.heap.size := (Array.getElem?_eq_some_iff.1 h).1

theorem heap_setCell_at {w : World} {b : Nat} {C : Array Value} {e : TypeId} {fz : Nat × Nat} (h : w.heap[b]? = some (.cells C e fz)) (j : Nat) (v : Value) :
    (w.setCell ⟨b, j, none⟩ v).heap[b]? = some (.cells (C.setIfInBounds j v) e fz) := by
  simp only [World.setCell, Array.getElem?_modify, if_true, h, Option.map_some]; simp

theorem setCells_block {g : Nat} {e : TypeId} : ∀ (vs : List Value) (o : Nat) (w : World) (C : Array Value), w.heap[g]? = some (.cells C e (0, 0)) → o + vs.length ≤ C.size →
    ∃ C', (w.setCells g o vs).heap[g]? = some (.cells C' e (0, 0)) ∧ C'.size = C.size ∧ ∀ j, C'[j]? = if o ≤ j ∧ j < o + vs.length then vs[j - o]? else C[j]?
  | [], o, w, C, h, _ => ⟨C, h, rfl, fun j => by rw [if_neg]; simp only [List.length_nil]; omega⟩
  | v :: r, o, w, C, h, hl => by
    have h2 := heap_setCell_at h o v
    simp only [List.length_cons] at hl
    obtain ⟨C', h3, h4, h5⟩ := setCells_block r (o + 1) (w.setCell ⟨g, o, none⟩ v) _ h2 (by simp; omega)
    refine ⟨C', h3, by rw [h4]; simp, fun j => ?_⟩
    rw [h5, List.length_cons]
    by_cases h1 : j = o
    · subst h1; rw [if_neg (by omega), if_pos (by omega), Array.getElem?_setIfInBounds, if_pos rfl, if_pos (by omega)]; simp
    · by_cases h6 : o + 1 ≤ j ∧ j < o + 1 + r.length
      · rw [if_pos h6, if_pos (by omega), show j - o = (j - (o + 1)) + 1 by omega]; simp
      · rw [if_neg h6, if_neg (by omega), Array.getElem?_setIfInBounds, if_neg (by omega)]

theorem setCells_keeps (g : Nat) : ∀ (vs : List Value) (o : Nat) (w : World), Keeps (· = g) w (w.setCells g o vs)
  | [], _, w => Keeps.refl _ w
  | v :: r, o, w => by
    have h : Keeps (· = g) w (w.setCell ⟨g, o, none⟩ v) := ⟨rfl, rfl, rfl, by simp [World.setCell], fun k _ hp => Below.heap_setCell w ⟨g, o, none⟩ v k hp⟩
    exact h.trans (setCells_keeps g r (o + 1) _)

/-- v reads as xs and lies in block g, from base on, all its room writable; or it has no room -/
def own (w : World) (base : Nat) (g : Option Nat) (v : Value) (xs : List Int) : Prop :=
  match g with
  | none => xs = [] ∧ ∃ a, v = .slice a 0 0
  | some b => base ≤ b ∧ ∃ o c C, v = .slice (some ⟨b, o, none⟩) xs.length c ∧ xs.length ≤ c ∧ c ≤ 9223372036854775807 ∧ w.heap[b]? = some (.cells C 3 (0, 0)) ∧ o + c ≤ C.size ∧
      ∀ j, j < xs.length → C[o + j]? = some (.int .i64 (xs.getD j 0))

theorem own.rd {w : World} {base : Nat} {g : Option Nat} {v : Value} {xs : List Int} (h : own w base g v xs) : rd w v xs := by
  cases g with
  | none => obtain ⟨rfl, a, rfl⟩ := h; exact .inl ⟨rfl, a, 0, rfl⟩
  | some b =>
    obtain ⟨_, o, c, C, rfl, hl, hm, hh, hs, hc⟩ := h
    by_cases he : xs = []
    · subst he; exact .inl ⟨rfl, _, c, rfl⟩
    · exact .inr ⟨b, o, c, rfl, he, hl, hm, fun j hj => by rw [cell_of_block hh]; exact hc j hj⟩

theorem own.keeps {P : Nat → Prop} {w w' : World} {base : Nat} {g : Option Nat} {v : Value} {xs : List Int} (h : own w base g v xs) (hk : Keeps P w w') (hg : ∀ b, g = some b → ¬ P b) : own w' base g v xs := by
  cases g with
  | none => exact h
  | some b =>
    obtain ⟨hb, o, c, C, rfl, hl, hm, hh, hs, hc⟩ := h
    exact ⟨hb, o, c, C, rfl, hl, hm, by rw [hk.block b (lt_of_block hh) (hg b rfl)]; exact hh, hs, hc⟩

theorem own.base_le {w : World} {base base' : Nat} {g : Option Nat} {v : Value} {xs : List Int} (h : own w base g v xs) (hb : base' ≤ base) : own w base' g v xs := by
  cases g with
  | none => exact h
  | some b => exact ⟨Nat.le_trans hb h.1, h.2⟩

theorem own.lt {w : World} {base b : Nat} {v : Value} {xs : List Int} (h : own w base (some b) v xs) : base ≤ b ∧ b < w.heap.size := by
  obtain ⟨hb, o, c, C, _, _, _, hh, _⟩ := h; exact ⟨hb, lt_of_block hh⟩

theorem own.form {w : World} {base : Nat} {g : Option Nat} {v : Value} {xs : List Int} (h : own w base g v xs) : ∃ a n c, v = .slice a n c := by
  cases g with
  | none => obtain ⟨_, a, rfl⟩ := h; exact ⟨_, _, _, rfl⟩
  | some b => obtain ⟨_, o, c, C, rfl, _⟩ := h; exact ⟨_, _, _, rfl⟩

theorem alloc_at (w : World) (o : Obj) : (w.alloc o).heap[w.heap.size]? = some o := by
  show (w.heap.push o)[w.heap.size]? = _
  simp
theorem zero_size (n : Nat) : (Builtin.zeroCells (Value.int .i64 0).cells n).size = n := by rw [size_zeroCells]; simp [Value.cells]
theorem getD_of_lt {xs : List Int} {j : Nat} (h : j < xs.length) : xs.getD j 0 = xs[j] := by simp [List.getD, List.getElem?_eq_getElem h]

theorem tail_len (l : List Int) : l.tail.length = l.length - 1 := by simp
theorem own_tail_none {w : World} {base b o c : Nat} {xs : List Int} (hlen : xs.length ≤ c) (h1 : xs ≠ []) (hc : c = 1) :
    Go.Proofs.Ytbalmmaoiebppaa.own w base none (.slice (some ⟨b, o, none⟩) 0 0) xs.tail := by
  have : 0 < xs.length := by cases xs <;> simp at *
  have h2 : xs.length - 1 = 0 := by omega
  exact ⟨List.length_eq_zero_iff.1 (by rw [tail_len]; exact h2), ⟨_, rfl⟩⟩
theorem own_tail_some {w : World} {base b o c : Nat} {C : Array Value} {xs : List Int} (hb : base ≤ b) (hlen : xs.length ≤ c) (hm : c ≤ 9223372036854775807) (hh : w.heap[b]? = some (.cells C 3 (0, 0))) (hs : o + c ≤ C.size)
    (hc : ∀ j, j < xs.length → C[o + j]? = some (.int .i64 (xs.getD j 0))) (h1 : xs ≠ []) :
    Go.Proofs.Ytbalmmaoiebppaa.own w base (some b) (.slice (some ⟨b, o + 1, none⟩) (xs.length - 1) (c - 1)) xs.tail := by
  have h0 : 0 < xs.length := by cases xs <;> simp at *
  refine ⟨hb, o + 1, c - 1, C, by rw [tail_len], by rw [tail_len]; omega, by omega, hh, by omega, fun j hj => ?_⟩
  rw [tail_len] at hj
  rw [show o + 1 + j = o + (j + 1) by omega, hc (j + 1) (by omega)]
  cases xs <;> simp at *

theorem getD_eq {l : List Int} {j : Nat} (h : j < l.length) : l.getD j 0 = l[j] := by simp [List.getD, List.getElem?_eq_getElem h]

/-- append of one number onto a slice that is the call's own: where the new slice lies -/
theorem wpList_push {ops : Array Oper} {rest : List Oper} {o : Oper} {a : Act} {w : World} {Q : Exit → Act → World → Prop} (hgd : o.guard = none) (s x : Operand)
    (ho : o.op = .call { callee := .builtin .append, args := #[s, x], argTypes := #[27, 27] })
    (base : Nat) (g : Option Nat) (v : Value) (xs : List Int) (hs : a.eval s = v) (hown : own w base g v xs) (B1 c : Nat) (y : Int) (hx : a.eval x = .slice (some ⟨B1, 0, none⟩) 1 c) (hc : w.cell? ⟨B1, 0, none⟩ = some (.int .i64 y)) (hl : xs.length ≤ 100000) (hbase : base ≤ w.heap.size)
    (h : ∀ a' n' c' g' w', own w' base g' (.slice a' n' c') (xs ++ [y]) → n' = xs.length + 1 → Keeps (fun k => g = some k) w w' → (∀ b, g' = some b → g = some b ∨ (w.heap.size ≤ b ∧ b < w'.heap.size)) → wpList Try.prog ops Q rest (a.put o.dst (.slice a' n' c')) w') : wpList Try.prog ops Q (o :: rest) a w := by
  have hinfo : (Try.prog.info? 3).map (fun i => (i.zero, i.size, i.bytes)) = some (some (.int .i64 0), 1, 8) := by kernel_rfl
  obtain ⟨i0, hi0, hiz0, hiz1, hiz2⟩ := info_parts hinfo
  have hnews : ∀ (j : Nat) u, [Value.int .i64 y][j]? = some u → w.cell? ((⟨B1, 0, none⟩ : Addr).add j) = some u := fun j u hu => by
    match j, hu with
    | 0, hu => simp at hu; subst hu; simpa [Addr.add] using hc
  have grow : ∀ v' w', w'.ownsRow w.heap.size 3 1 v' (xs.length + 1) (xs.map (Value.int .i64) ++ [.int .i64 y]) → w.grownBy w' none → wpList Try.prog ops Q rest (a.put o.dst v') w' := fun v' w' ho' hg' => by
    rcases ho'.2 with ⟨_, h0⟩ | ⟨g', cap, cur, rfl, hbg, hh, h1, h2, h3, h4⟩
    · omega
    · refine h _ _ _ (some g') w' ⟨Nat.le_trans hbase hbg, 0, cap, cur, by simp, by simp; omega, by unfold maxLen at h2; omega, hh, by omega, fun j hj => ?_⟩ rfl ⟨hg'.os, hg'.tape, hg'.output, hg'.size, fun k hk _ => hg'.block k hk (by simp)⟩ fun b hb => by injection hb with hb; subst hb; exact .inr ⟨hbg, lt_of_block hh⟩
      rw [Nat.zero_add]
      have h5 : (cur.toList.take ((xs.length + 1) * 1))[j]? = (xs.map (Value.int .i64) ++ [Value.int .i64 y])[j]? := by rw [h4]
      have hj' : j < xs.length + 1 := by simpa using hj
      rw [List.getElem?_take, if_pos (by omega), Array.getElem?_toList] at h5
      rw [h5, show xs.map (Value.int .i64) ++ [Value.int .i64 y] = (xs ++ [y]).map (Value.int .i64) by simp, List.getElem?_map, List.getD_eq_getElem?_getD, List.getElem?_eq_getElem hj]; rfl
  cases g with
  | none =>
    obtain ⟨rfl, ao, rfl⟩ := hown
    cases ao with
    | none => exact wpList_append_grows w hgd s x _ ho 3 i0 (.int .i64 0) 1 8 Try.underlying27 hi0 hiz0 hiz1 hiz2 rfl (by decide) none 0 0 [] hs (fun _ => ⟨rfl, rfl⟩) rfl (fun b hb => by cases hb) ⟨B1, 0, none⟩ 1 c [.int .i64 y] hx rfl hnews (fun u hu => by simp at hu; subst hu; rfl) (by omega) (by unfold maxLen; omega) (by omega) (fun v' w' h1 h2 => grow v' w' h1 h2)
    | some ad => exact wpList_append_grows w hgd s x _ ho 3 i0 (.int .i64 0) 1 8 Try.underlying27 hi0 hiz0 hiz1 hiz2 rfl (by decide) (some ad) 0 0 [] hs (fun h => by cases h) rfl (fun b hb j u hu => by simp at hu) ⟨B1, 0, none⟩ 1 c [.int .i64 y] hx rfl hnews (fun u hu => by simp at hu; subst hu; rfl) (by omega) (by unfold maxLen; omega) (by omega) (fun v' w' h1 h2 => grow v' w' h1 h2)
  | some b =>
    obtain ⟨hb, off, cap, C, rfl, hlc, hm, hh, hsz, hcl⟩ := hown
    have holds : ∀ (j : Nat) u, (xs.map (Value.int .i64))[j]? = some u → w.cell? ⟨b, off + j, none⟩ = some u := fun j u hu => by
      rw [cell_of_block hh]
      have hj : j < xs.length := by have := (List.getElem?_eq_some_iff.1 hu).1; simpa using this
      rw [hcl j hj, ← hu, List.getElem?_map, List.getD_eq_getElem?_getD, List.getElem?_eq_getElem hj]; rfl
    refine wpList_append_arg w hgd s x _ ho 3 i0 (.int .i64 0) 1 8 Try.underlying27 hi0 hiz0 hiz1 hiz2 rfl (by decide) b off xs.length cap (xs.map (Value.int .i64)) hs (by simp) holds ⟨B1, 0, none⟩ 1 c [.int .i64 y] hx rfl hnews (fun u hu => by simp at hu; subst hu; rfl)
      (fun hroom j hj => ?_) (by unfold maxLen; omega) (by omega) (fun hroom => ?_) (fun _ v' w' h1 h2 => grow v' w' h1 h2)
    · simp at hj
      subst hj
      refine ⟨?_, frozen_of_block hh _⟩
      rw [cell_of_block hh, Array.getElem?_eq_getElem (by omega)]; rfl
    · obtain ⟨C', k1, k2, k3⟩ := setCells_block [Value.int .i64 y] (off + xs.length * 1) w C hh (by simp; omega)
      refine h _ _ _ (some b) _ ⟨hb, off, cap, C', by simp, by simp; omega, hm, k1, by omega, fun j hj => ?_⟩ rfl ((setCells_keeps b _ _ _).mono fun k _ hk => by rw [hk]) fun b' hb' => .inl hb'
      have hj' : j < xs.length + 1 := by simpa using hj
      rw [k3]
      by_cases e : j = xs.length
      · subst e; rw [if_pos (by simp)]; simp [List.getD_eq_getElem?_getD]
      · rw [if_neg (by simp; omega), hcl j (by omega)]
        simp [List.getD_eq_getElem?_getD, List.getElem?_append_left (show j < xs.length by omega)]
end Go.Proofs.Ytbalmmaoiebppaa
