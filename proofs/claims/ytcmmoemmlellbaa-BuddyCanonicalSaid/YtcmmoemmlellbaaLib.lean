/- Slices of integers in memory of the call's own, and the library's functions on them (BinarySearch, Clone, Delete, Insert) said in these words. Conditions: the lists are sorted where they are searched, and short. -/
import Derived.Test.YtcmmoemmlellbaaMem
import Derived.Test.YtcmmoemmlellbaaShelf
import Derived.Lib.RowBridge
namespace Go.Proofs.Ytcmmoemmlellbaa
open Go.RowKit

/-- the world w' is w but for the blocks of which P holds, and for new ones -/
structure Keeps (P : Nat → Prop) (w w' : World) : Prop where
  os : w'.os = w.os
  tape : w'.tape = w.tape
  output : w'.output = w.output
  size : w.heap.size ≤ w'.heap.size
  block : ∀ k, k < w.heap.size → ¬ P k → w'.heap[k]? = w.heap[k]?

theorem Keeps.refl (P : Nat → Prop) (w : World) : Keeps P w w := ⟨rfl, rfl, rfl, Nat.le_refl _, fun _ _ _ => rfl⟩
theorem Keeps.trans {P : Nat → Prop} {a b c : World} (h : Keeps P a b) (k : Keeps P b c) : Keeps P a c :=
  ⟨k.os.trans h.os, k.tape.trans h.tape, k.output.trans h.output, Nat.le_trans h.size k.size, fun i hi hp => (k.block i (Nat.lt_of_lt_of_le hi h.size) hp).trans (h.block i hi hp)⟩
theorem Keeps.mono {P Q : Nat → Prop} {w w' : World} (h : Keeps P w w') (hq : ∀ k, k < w.heap.size → P k → Q k) : Keeps Q w w' :=
  ⟨h.os, h.tape, h.output, h.size, fun k hk hn => h.block k hk fun hp => hn (hq k hk hp)⟩
theorem Keeps.of_below {P : Nat → Prop} {w w' : World} (h : Below w.heap.size w w') : Keeps P w w' := ⟨h.os, h.tape, h.output, h.size, fun k hk _ => h.block k hk⟩
theorem Keeps.to_below {P : Nat → Prop} {B : Nat} {w w' : World} (h : Keeps P w w') (hB : B ≤ w.heap.size) (hP : ∀ k, k < B → ¬ P k) : Below B w w' :=
  ⟨h.os, h.tape, h.output, h.size, fun k hk => h.block k (by omega) (hP k hk)⟩
theorem Below.drewN' {B : Nat} {a w : World} (h : Below B a w) (n : Nat) : Below B a (w.drewN n) := ⟨h.os, h.tape, h.output, h.size, h.block⟩
theorem cell_of_block {w : World} {b : Nat} {C : Array Value} {e : TypeId} {fz : Nat × Nat} (h : w.heap[b]? = some (.cells C e fz)) (j : Nat) : w.cell? ⟨b, j, none⟩ = C[j]? := by
  unfold World.cell?; simp only [h]; simp
theorem frozen_of_block {w : World} {b : Nat} {C : Array Value} {e : TypeId} (h : w.heap[b]? = some (.cells C e (0, 0))) (j : Nat) : w.frozen? ⟨b, j, none⟩ = false := by
  unfold World.frozen?; simp only [h]; simp
theorem lt_of_block {w : World} {b : Nat} {o : Obj} (h : w.heap[b]? = some o) : b < w.heap.size := (Array.getElem?_eq_some_iff.1 h).1

theorem heap_setCell_at {w : World} {b : Nat} {C : Array Value} {e : TypeId} {fz : Nat × Nat} (h : w.heap[b]? = some (.cells C e fz)) (j : Nat) (v : Value) :
    (w.setCell ⟨b, j, none⟩ v).heap[b]? = some (.cells (C.setIfInBounds j v) e fz) := by
  simp only [World.setCell, Array.getElem?_modify, if_true, h, Option.map_some]; simp

theorem setCells_block {g : Nat} {e : TypeId} : ∀ (vs : List Value) (o : Nat) (w : World) (C : Array Value), w.heap[g]? = some (.cells C e (0, 0)) → o + vs.length ≤ C.size →
    ∃ C', (w.setCells g o vs).heap[g]? = some (.cells C' e (0, 0)) ∧ C'.size = C.size ∧ ∀ j, C'[j]? = if o ≤ j ∧ j < o + vs.length then vs[j - o]? else C[j]?
  | [], o, w, C, h, _ => ⟨C, h, rfl, fun j => by rw [if_neg]; simp only [List.length_nil]; omega⟩
  | v :: r, o, w, C, h, hl => by
    have h2 := heap_setCell_at h o v
    simp only [List.length_cons] at hl
    obtain ⟨C', h3, h4, h5⟩ := setCells_block r (o + 1) (w.setCell ⟨g, o, none⟩ v) _ h2 (by simp; omega)
    refine ⟨C', h3, by rw [h4]; simp, fun j => ?_⟩
    rw [h5, List.length_cons]
    by_cases h1 : j = o
    · subst h1; rw [if_neg (by omega), if_pos (by omega), Array.getElem?_setIfInBounds, if_pos rfl, if_pos (by omega)]; simp
    · by_cases h6 : o + 1 ≤ j ∧ j < o + 1 + r.length
      · rw [if_pos h6, if_pos (by omega), show j - o = (j - (o + 1)) + 1 by omega]; simp
      · rw [if_neg h6, if_neg (by omega), Array.getElem?_setIfInBounds, if_neg (by omega)]

theorem setCells_keeps (g : Nat) : ∀ (vs : List Value) (o : Nat) (w : World), Keeps (· = g) w (w.setCells g o vs)
  | [], _, w => Keeps.refl _ w
  | v :: r, o, w => by
    have h : Keeps (· = g) w (w.setCell ⟨g, o, none⟩ v) := ⟨rfl, rfl, rfl, by simp [World.setCell], fun k _ hp => Below.heap_setCell w ⟨g, o, none⟩ v k hp⟩
    exact h.trans (setCells_keeps g r (o + 1) _)

/-- v reads as xs and lies in block g, from base on, all its room writable; or it has no room -/
def own (w : World) (base : Nat) (g : Option Nat) (v : Value) (xs : List Int) : Prop :=
  match g with
  | none => xs = [] ∧ ∃ a, v = .slice a 0 0
  | some b => base ≤ b ∧ ∃ o c C, v = .slice (some ⟨b, o, none⟩) xs.length c ∧ xs.length ≤ c ∧ c ≤ 9223372036854775807 ∧ w.heap[b]? = some (.cells C 3 (0, 0)) ∧ o + c ≤ C.size ∧
      ∀ j, j < xs.length → C[o + j]? = some (.int .i64 (xs.getD j 0))

theorem own.rd {w : World} {base : Nat} {g : Option Nat} {v : Value} {xs : List Int} (h : own w base g v xs) : rd w v xs := by
  cases g with
  | none => obtain ⟨rfl, a, rfl⟩ := h; exact .inl ⟨rfl, a, 0, rfl⟩
  | some b =>
    obtain ⟨_, o, c, C, rfl, hl, hm, hh, hs, hc⟩ := h
    by_cases he : xs = []
    · subst he; exact .inl ⟨rfl, _, c, rfl⟩
    · exact .inr ⟨b, o, c, rfl, he, hl, hm, fun j hj => by rw [cell_of_block hh]; exact hc j hj⟩

theorem own.keeps {P : Nat → Prop} {w w' : World} {base : Nat} {g : Option Nat} {v : Value} {xs : List Int} (h : own w base g v xs) (hk : Keeps P w w') (hg : ∀ b, g = some b → ¬ P b) : own w' base g v xs := by
  cases g with
  | none => exact h
  | some b =>
    obtain ⟨hb, o, c, C, rfl, hl, hm, hh, hs, hc⟩ := h
    exact ⟨hb, o, c, C, rfl, hl, hm, by rw [hk.block b (lt_of_block hh) (hg b rfl)]; exact hh, hs, hc⟩

theorem own.base_le {w : World} {base base' : Nat} {g : Option Nat} {v : Value} {xs : List Int} (h : own w base g v xs) (hb : base' ≤ base) : own w base' g v xs := by
  cases g with
  | none => exact h
  | some b => exact ⟨Nat.le_trans hb h.1, h.2⟩

theorem own.lt {w : World} {base b : Nat} {v : Value} {xs : List Int} (h : own w base (some b) v xs) : base ≤ b ∧ b < w.heap.size := by
  obtain ⟨hb, o, c, C, _, _, _, hh, _⟩ := h; exact ⟨hb, lt_of_block hh⟩

theorem own.form {w : World} {base : Nat} {g : Option Nat} {v : Value} {xs : List Int} (h : own w base g v xs) : ∃ a n c, v = .slice a n c := by
  cases g with
  | none => obtain ⟨_, a, rfl⟩ := h; exact ⟨_, _, _, rfl⟩
  | some b => obtain ⟨_, o, c, C, rfl, _⟩ := h; exact ⟨_, _, _, rfl⟩

/-- slices.BinarySearch of an ascending slice -/
theorem search_any (v : Value) (xs : List Int) (x : Int) (w : World) (h : rd w v xs) (hs : xs.Pairwise (· < ·)) (hl : xs.length ≤ 100000) :
    Calls Try.prog 43 #[v, .int .i64 x] w fun e w' => e = .returned (.tuple #[.int .i64 (pos xs x : Nat), .bool (xs.contains x)]) ∧ Below w.heap.size w w' := by
  rcases h with ⟨rfl, a, c, rfl⟩ | ⟨b, o, c, rfl, _, _, _, hc⟩
  · refine (Try.slices_BinarySearch_int_empty a c x w).mono fun e w' h => ?_
    obtain ⟨rfl, rfl⟩ := h
    exact ⟨rfl, Below.refl _ _⟩
  · refine (Try.slices_BinarySearch_int b o xs.length c xs x w (Nat.le_refl _) (by omega) hc (by rw [List.take_length]; exact hs.imp (by intro a b h; omega))).mono fun e w' h => ?_
    obtain ⟨rfl, q, rfl⟩ := h
    rw [List.take_length]
    exact ⟨rfl, Below.drewN' (Below.refl _ _) q⟩

/-- slices.Clone -/
theorem clone_any (v : Value) (xs : List Int) (w : World) (h : rd w v xs) (hl : xs.length ≤ 100000) :
    Calls Try.prog 59 #[v] w fun e w' => ∃ v' g, e = .returned v' ∧ own w' w.heap.size g v' xs ∧ Below w.heap.size w w' := by
  rcases h with ⟨rfl, a, c, rfl⟩ | ⟨b, o, c, rfl, hne, _, _, hc⟩
  · cases a with
    | none =>
      refine (Try.slices_Clone_int_nil 0 c w).mono fun e w' h => ?_
      obtain ⟨rfl, rfl⟩ := h
      exact ⟨_, none, rfl, ⟨rfl, _, rfl⟩, Below.refl _ _⟩
    | some a =>
      refine (Try.slices_Clone_int_zero a c w).mono fun e w' h => ?_
      obtain ⟨v', rfl, ho, hn, hb⟩ := h
      obtain ⟨_, h | ⟨g, cap, cur, rfl, hg, hh, hn, hcap, hsz, hcur⟩⟩ := ho
      · exact (hn h.1).elim
      · exact ⟨_, some g, rfl, ⟨hg, 0, cap, cur, rfl, hn, hcap, hh, by omega, fun j hj => by simp at hj⟩, hb⟩
  · refine (Try.slices_Clone_int b o xs.length c xs w (Nat.le_refl _) (by omega) hc).mono fun e w' h => ?_
    obtain ⟨v', rfl, ho, hn, hb⟩ := h
    obtain ⟨_, h | ⟨g, cap, cur, rfl, hg, hh, hn, hcap, hsz, hcur⟩⟩ := ho
    · exact (hn h.1).elim
    · refine ⟨_, some g, rfl, ⟨hg, 0, cap, cur, rfl, hn, hcap, hh, by omega, fun j hj => ?_⟩, hb⟩
      have : cur.toList[j]? = some (.int .i64 (xs.getD j 0)) := by
        have h1 : (cur.toList.take (xs.length * 1))[j]? = some (.int .i64 (xs.getD j 0)) := by
          rw [hcur]; simp [List.getD, List.getElem?_eq_getElem hj]
        rw [List.getElem?_take] at h1
        split at h1
        · exact h1
        · exact absurd h1 (by simp)
      rw [Nat.zero_add]; simpa using this

theorem alloc_at (w : World) (o : Obj) : (w.alloc o).heap[w.heap.size]? = some o := by
  show (w.heap.push o)[w.heap.size]? = _
  simp
theorem zero_size (n : Nat) : (Builtin.zeroCells (Value.int .i64 0).cells n).size = n := by rw [size_zeroCells]; simp [Value.cells]
theorem getD_of_lt {xs : List Int} {j : Nat} (h : j < xs.length) : xs.getD j 0 = xs[j] := by simp [List.getD, List.getElem?_eq_getElem h]

/-- slices.Delete of one element -/
theorem delete_any (v : Value) (xs : List Int) (i : Nat) (w : World) (base : Nat) (g : Option Nat) (h : own w base g v xs) (hi : i < xs.length) :
    Calls Try.prog 53 #[v, .int .i64 i, .int .i64 ((i : Int) + 1)] w fun e w' => ∃ v', e = .returned v' ∧ own w' base g v' (xs.take i ++ xs.drop (i + 1)) ∧ Keeps (fun k => g = some k) w w' := by
  cases g with
  | none => obtain ⟨rfl, _⟩ := h; simp at hi
  | some b =>
    obtain ⟨hb, o, c, C, rfl, hl, hm, hh, hs, hc⟩ := h
    have hH : Go.Sort.Holds (Value.int .i64) w b o xs.toArray := by
      intro j hj
      simp only [List.size_toArray] at hj
      refine ⟨?_, frozen_of_block hh _⟩
      rw [cell_of_block hh, hc j hj, getD_of_lt hj]
      simp [hj]
    rw [show ((i : Int) + 1) = ((i + 1 : Nat) : Int) by omega]
    refine (Try.slices_Delete_int b o c i (i + 1) xs w hH hl hm (by omega) (by omega)).mono fun e w' h => ?_
    obtain ⟨rfl, q, rfl⟩ := h
    have hlen : (xs.take i ++ xs.drop (i + 1) ++ List.replicate (i + 1 - i) (0 : Int)).length = xs.length := by simp; omega
    rw [Lib.putRow_eq_setCells (Value.int .i64) w b o xs.toArray _ q hH (by simpa using hlen)]
    obtain ⟨C', h1, h2, h3⟩ := setCells_block ((xs.take i ++ xs.drop (i + 1) ++ List.replicate (i + 1 - i) (0 : Int)).map (Value.int .i64)) o (w.drewN q) C hh (by rw [List.length_map, hlen]; omega)
    refine ⟨_, rfl, ⟨hb, o, c, C', ?_, by simp; omega, hm, h1, by omega, fun j hj => ?_⟩, ?_⟩
    · congr 1; simp; omega
    · rw [h3, if_pos (by rw [List.length_map, hlen]; simp at hj; omega), show o + j - o = j by omega, List.getElem?_map, List.getElem?_append_left hj]
      simp [List.getD, List.getElem?_eq_getElem hj]
    · have hk := setCells_keeps b ((xs.take i ++ xs.drop (i + 1) ++ List.replicate (i + 1 - i) (0 : Int)).map (Value.int .i64)) o (w.drewN q)
      exact (Keeps.of_below (Below.drewN' (Below.refl _ w) q)).trans (hk.mono fun k _ hk => by rw [hk])

theorem grownCap_le (w : World) (n o : Nat) (e : TypeId) (h : n ≤ 200000) : n ≤ grownCap w n o e ∧ grownCap w n o e ≤ 9223372036854775807 := by
  unfold grownCap Question.cut
  have := Nat.mod_lt (w.tape w.drawn (.appendCap n o e)) (show 2 ^ 63 - n > 0 by omega)
  simp only
  omega

theorem getD_ins {xs : List Int} {i j : Nat} {x : Int} (hi : i ≤ xs.length) : (xs.take i ++ x :: xs.drop i).getD j 0 = if j < i then xs.getD j 0 else if j = i then x else xs.getD (j - 1) 0 := by
  simp only [List.getD]
  by_cases h : j < i
  · rw [if_pos h, List.getElem?_append_left (by simp; omega), List.getElem?_take, if_pos h]
  · rw [if_neg h, List.getElem?_append_right (by simp; omega), List.length_take, Nat.min_eq_left hi]
    by_cases h2 : j = i
    · subst h2; simp
    · rw [if_neg h2, show j - i = (j - i - 1) + 1 by omega, List.getElem?_cons_succ, List.getElem?_drop, show i + (j - i - 1) = j - 1 by omega]

/-- slices.Insert of one element -/
theorem insert_any (v : Value) (xs : List Int) (i : Nat) (x : Int) (w : World) (base vb vc : Nat) (g : Option Nat) (h : own w base g v xs) (hi : i ≤ xs.length) (hl : xs.length ≤ 100000)
    (hvb : w.heap[vb]? = some (.cells #[.int .i64 x] 3 (0, 0))) (hne : g ≠ some vb) (hbase : base ≤ w.heap.size) :
    Calls Try.prog 51 #[v, .int .i64 i, .slice (some ⟨vb, 0, none⟩) 1 vc] w fun e w' => ∃ v' g', e = .returned v' ∧ own w' base g' v' (xs.take i ++ x :: xs.drop i) ∧ Keeps (fun k => g = some k) w w' ∧
      ∀ b, g' = some b → g = some b ∨ (w.heap.size ≤ b ∧ b < w'.heap.size) := by
  have hvs : ∀ (j : Nat) (u : Value), [Value.int .i64 x][j]? = some u → w.cell? ⟨vb, 0 + j, none⟩ = some u := by
    intro j u hj
    match j with
    | 0 => simp at hj; subst hj; rw [cell_of_block hvb]; simp
    | j + 1 => simp at hj
  have h1v : ∀ u ∈ [Value.int .i64 x], u.oneCell' = true := by intro u hu; simp at hu; subst hu; rfl
  have h1c : ∀ u ∈ xs.map (Value.int .i64), u.oneCell' = true := by intro u hu; obtain ⟨y, _, rfl⟩ := List.mem_map.1 hu; rfl
  have hlen : (xs.take i ++ x :: xs.drop i).length = xs.length + 1 := by simp; omega
  -- a new row
  have new_row : ∀ (n : Nat) (C : Array Value) (w1 : World), w1.heap[w.heap.size]? = some (.cells C 3 (0, 0)) → C.size = grownCap w (xs.length + 1) n 3 →
      (∀ j, j < xs.length + 1 → C[j]? = some (.int .i64 ((xs.take i ++ x :: xs.drop i).getD j 0))) →
      own w1 base (some w.heap.size) (.slice (some ⟨w.heap.size, 0, none⟩) (xs.length + 1) (grownCap w (xs.length + 1) n 3)) (xs.take i ++ x :: xs.drop i) := by
    intro n C w1 h1 h2 h3
    have hg := grownCap_le w (xs.length + 1) n 3 (by omega)
    exact ⟨hbase, 0, _, C, by rw [hlen], by omega, hg.2, h1, by omega, fun j hj => by rw [Nat.zero_add]; exact h3 j (by omega)⟩
  have eGrow : ∀ (n : Nat) (a : Option Addr), i = xs.length → (a = none → xs.length = 0) → (∀ b, a = some b → ∀ (j : Nat) u, (xs.map (Value.int .i64))[j]? = some u → w.cell? (b.add j) = some u) → xs.length ≤ n → n < xs.length + 1 →
      Calls Try.prog 51 #[.slice a xs.length n, .int .i64 i, .slice (some ⟨vb, 0, none⟩) 1 vc] w fun e w' => ∃ v' g', e = .returned v' ∧ own w' base g' v' (xs.take i ++ x :: xs.drop i) ∧ Keeps (fun k => g = some k) w w' ∧
      ∀ b, g' = some b → g = some b ∨ (w.heap.size ≤ b ∧ b < w'.heap.size) := by
    intro n a hin hnil hcs h1 h2
    subst hin
    refine (Any2.slices_Insert_int_end_grow Try.laysNm221 a xs.length n vb 0 1 vc (xs.map (Value.int .i64)) [.int .i64 x] w (by omega) h1 h2 (by omega) (by simp) rfl hnil hcs hvs h1v).mono fun e w' h => ?_
    obtain ⟨rfl, rfl⟩ := h
    refine ⟨_, _, rfl, new_row n _ _ (alloc_at w.drew _) ?_ ?_, Keeps.of_below ((Below.refl _ _).drew.alloc (Nat.le_refl _) _), fun b hb => .inr ?_⟩
    · have hg := grownCap_le w (xs.length + 1) n 3 (by omega)
      have hz : ∀ n, (Builtin.zeroCells (Value.int .i64 0).cells n).size = n := zero_size
      simp only [Array.size_append, hz, List.size_toArray, List.length_append, List.length_map, List.length_cons, List.length_nil]
      show _ + (grownCap w (xs.length + 1) n 3 - _) = _
      omega
    · intro j hj
      rw [getD_ins hi]
      rw [Array.getElem?_append_left (by simp; omega)]
      by_cases h3 : j < xs.length
      · rw [if_pos (by omega)]; simp [List.getElem?_append_left, h3, List.getD]
      · rw [if_neg (by omega), if_pos (by omega)]; simp [show j = xs.length by omega]
    · simp only [Option.some.injEq] at hb; subst hb; exact ⟨Nat.le_refl _, lt_of_block (alloc_at w.drew _)⟩
  cases g with
  | none =>
    obtain ⟨rfl, a, rfl⟩ := h
    exact eGrow 0 a (by simpa using hi) (fun _ => rfl) (fun b _ j u hj => by simp at hj) (Nat.le_refl _) (by simp)
  | some b =>
    obtain ⟨hb, o, c, C, rfl, hlc, hm, hh, hs, hc⟩ := h
    have hbv : vb ≠ b := fun e => hne (by rw [e])
    have hcs : ∀ (j : Nat) u, (xs.map (Value.int .i64))[j]? = some u → w.cell? ⟨b, o + j, none⟩ = some u := by
      intro j u hj
      rw [List.getElem?_map] at hj
      have hjl : j < xs.length := by
        by_cases h : j < xs.length
        · exact h
        · rw [List.getElem?_eq_none (by omega)] at hj; simp at hj
      rw [cell_of_block hh, hc j hjl, getD_of_lt hjl]
      rw [List.getElem?_eq_getElem hjl] at hj
      simpa using hj
    have hsome : ∀ j, j < c → (w.cell? ⟨b, o + j, none⟩).isSome = true := by
      intro j hj; rw [cell_of_block hh]; simp; omega
    by_cases hroom : xs.length + 1 ≤ c
    · by_cases hin : i = xs.length
      · subst hin
        refine (Any2.slices_Insert_int_end_room Try.laysNm221 b o xs.length c vb 0 1 vc [.int .i64 x] w (by omega) hroom hm rfl (fun j hj => by rw [Nat.add_assoc]; exact hsome _ (by omega)) (fun j _ => frozen_of_block hh _) hvs h1v).mono fun e w' h => ?_
        obtain ⟨rfl, rfl⟩ := h
        obtain ⟨C', h1, h2, h3⟩ := setCells_block [.int .i64 x] (o + xs.length) w C hh (by simp; omega)
        refine ⟨_, some b, rfl, ⟨hb, o, c, C', by rw [hlen], by omega, hm, h1, by omega, fun j hj => ?_⟩, (setCells_keeps b _ _ w).mono (fun k _ hk => by rw [hk]), fun b' hb' => .inl hb'⟩
        rw [h3, getD_ins hi]
        by_cases h4 : j < xs.length
        · rw [if_neg (by simp; omega), if_pos h4]; exact hc j (by omega)
        · rw [if_pos (by simp; omega), if_neg h4, if_pos (by omega)]; simp [show j = xs.length by omega]
      · refine (Any2.slices_Insert_int_shift Try.laysNm221 b o xs.length c i vb 0 1 vc (xs.map (Value.int .i64)) [.int .i64 x] w (by omega) (by omega) hroom hm hbv (by simp) rfl hcs (fun j hj => hsome j (by omega)) (fun j _ => frozen_of_block hh _) hvs h1c h1v 3 3 1 C.size
          (by unfold World.shape?; simp [hvb]) (by unfold World.shape?; simp [hh]) (by omega) (frozen_of_block hvb _) (frozen_of_block hvb _)).mono fun e w' h => ?_
        obtain ⟨rfl, rfl⟩ := h
        obtain ⟨C1, h1, h2, h3⟩ := setCells_block ((xs.map (Value.int .i64)).drop i) (o + (i + 1)) w.drew C hh (by simp; omega)
        obtain ⟨C2, h4, h5, h6⟩ := setCells_block [.int .i64 x] (o + i) _ C1 h1 (by simp; omega)
        refine ⟨_, some b, rfl, ⟨hb, o, c, C2, by rw [hlen], by omega, hm, h4, by omega, fun j hj => ?_⟩, ?_, fun b' hb' => .inl hb'⟩
        · rw [h6, getD_ins hi]
          by_cases h7 : j < i
          · rw [if_neg (by simp; omega), if_pos h7, h3, if_neg (by simp; omega)]; exact hc j (by omega)
          · by_cases h8 : j = i
            · subst h8; rw [if_pos (by simp), if_neg h7, if_pos rfl]; simp
            · rw [if_neg (by simp; omega), if_neg h7, if_neg h8, h3, if_pos (by simp; omega), List.getElem?_drop, List.getElem?_map, show i + (o + j - (o + (i + 1))) = j - 1 by omega, List.getElem?_eq_getElem (by omega), getD_of_lt (by omega)]; rfl
        · exact (Keeps.of_below (Below.refl _ w).drew).trans (((setCells_keeps b _ _ w.drew).trans (setCells_keeps b _ _ _)).mono fun k _ hk => by rw [hk])
    · by_cases hin : i = xs.length
      · refine eGrow c _ hin (fun e => by simp at e) (fun a ha j u hj => ?_) hlc (by omega)
        simp at ha; subst ha
        rw [Addr.add_lit]; exact hcs j u hj
      · refine (Any2.slices_Insert_int_grow Try.laysNm221 b o xs.length c i vb 0 1 vc (xs.map (Value.int .i64)) [.int .i64 x] w (by omega) (by omega) hlc (by omega) (by omega) (by simp) rfl hcs hvs h1c h1v).mono fun e w' h => ?_
        obtain ⟨rfl, rfl⟩ := h
        have hg := grownCap_le w (xs.length + 1) c 3 (by omega)
        generalize hC0 : (((xs.map (Value.int .i64)).take i).toArray ++ Builtin.zeroCells (Value.int .i64 0).cells (xs.length + 1 - i) ++ Builtin.zeroCells (Value.int .i64 0).cells (grownCap w (xs.length + 1) c (Try.laysNm221_ren.t 3) - (xs.length + 1))) = C0
        have hsz : C0.size = grownCap w (xs.length + 1) c 3 := by
          have hg' : xs.length + 1 ≤ grownCap w (xs.length + 1) c (Try.laysNm221_ren.t 3) := hg.1
          rw [← hC0]
          simp only [Array.size_append, zero_size, List.size_toArray, List.length_take, List.length_map]
          show _ = grownCap w (xs.length + 1) c (Try.laysNm221_ren.t 3); omega
        have hpre : ∀ j, j < i → C0[j]? = some (.int .i64 (xs.getD j 0)) := by
          intro j hj
          rw [← hC0, Array.append_assoc, Array.getElem?_append_left (by simp; omega)]
          simp [List.getElem?_take, hj, List.getElem?_eq_getElem (show j < xs.length by omega), List.getD]
        have h0 : ((w.alloc (.cells C0 3)).drew).heap[w.heap.size]? = some (.cells C0 3 (0, 0)) := alloc_at w _
        obtain ⟨C1, h1, h2, h3⟩ := setCells_block [.int .i64 x] i _ C0 h0 (by simp; omega)
        obtain ⟨C2, h4, h5, h6⟩ := setCells_block ((xs.map (Value.int .i64)).drop i) (i + 1) (((w.alloc (.cells C0 3)).drew.setCells w.heap.size i [.int .i64 x]).drew) C1 h1 (by simp; omega)
        refine ⟨_, some w.heap.size, rfl, new_row c C2 _ h4 (by omega) (fun j hj => ?_), ?_, fun b' hb' => .inr ?_⟩
        · rw [h6, getD_ins hi]
          by_cases h7 : j < i
          · rw [if_neg (by simp; omega), if_pos h7, h3, if_neg (by simp; omega)]; exact hpre j h7
          · by_cases h8 : j = i
            · subst h8; rw [if_neg (by intro h; omega), if_neg h7, if_pos rfl, h3, if_pos (by simp)]; simp
            · rw [if_pos (by simp; omega), if_neg h7, if_neg h8, List.getElem?_drop, List.getElem?_map, show i + (j - (i + 1)) = j - 1 by omega, List.getElem?_eq_getElem (by omega), getD_of_lt (by omega)]; rfl
        · have hk1 := (setCells_keeps w.heap.size [Value.int .i64 x] i (w.alloc (.cells C0 3)).drew)
          have hk2 := (setCells_keeps w.heap.size ((xs.map (Value.int .i64)).drop i) (i + 1) (((w.alloc (.cells C0 3)).drew.setCells w.heap.size i [.int .i64 x]).drew))
          have hb1 : Below w.heap.size w (w.alloc (.cells C0 3)).drew := ((Below.refl _ w).alloc (Nat.le_refl _) _).drew
          have hb2 := hb1.trans (hk1.to_below (B := w.heap.size) hb1.size (fun k hk => by omega))
          have hb3 := hb2.drew.trans (hk2.to_below (B := w.heap.size) hb2.drew.size (fun k hk => by omega))
          exact Keeps.of_below hb3
        · simp at hb'; subst hb'
          exact ⟨Nat.le_refl _, lt_of_block h4⟩

theorem pos_lt {l : List Int} {x : Int} (h : x ∈ l) : pos l x < l.length := by
  unfold pos
  have := List.countP_le_length (p := (· < x)) (l := l)
  rcases Nat.lt_or_ge (l.countP (· < x)) l.length with h1 | h1
  · exact h1
  · have h2 := List.countP_eq_length.1 (Nat.le_antisymm this h1) x h
    simp at h2
theorem pos_le (l : List Int) (x : Int) : pos l x ≤ l.length := List.countP_le_length

/-- the deletion of an element that is there -/
theorem delete_at (v : Value) (xs : List Int) (x : Int) (w : World) (base : Nat) (g : Option Nat) (h : own w base g v xs) (hi : x ∈ xs) :
    Calls Try.prog 53 #[v, .int .i64 (pos xs x : Nat), .int .i64 ((pos xs x : Int) + 1)] w fun e w' => ∃ a n c, e = .returned (.slice a n c) ∧ own w' base g (.slice a n c) (delAt xs x) ∧ Keeps (fun k => g = some k) w w' :=
  (delete_any v xs (pos xs x) w base g h (pos_lt hi)).mono fun e w' h => by
    obtain ⟨v', rfl, ho, hk⟩ := h
    obtain ⟨a, n, c, rfl⟩ := ho.form
    exact ⟨a, n, c, rfl, ho, hk⟩

/-- the insertion of an element where it belongs -/
theorem insert_at (v : Value) (xs : List Int) (x : Int) (w : World) (base vb vc : Nat) (g : Option Nat) (h : own w base g v xs) (hl : xs.length ≤ 100000)
    (hvb : w.heap[vb]? = some (.cells #[.int .i64 x] 3 (0, 0))) (hne : g ≠ some vb) (hbase : base ≤ w.heap.size) :
    Calls Try.prog 51 #[v, .int .i64 (pos xs x : Nat), .slice (some ⟨vb, 0, none⟩) 1 vc] w fun e w' => ∃ a n c g', e = .returned (.slice a n c) ∧ own w' base g' (.slice a n c) (insAt xs x) ∧ Keeps (fun k => g = some k) w w' ∧
      ∀ b, g' = some b → g = some b ∨ (w.heap.size ≤ b ∧ b < w'.heap.size) :=
  (insert_any v xs (pos xs x) x w base vb vc g h (pos_le _ _) hl hvb hne hbase).mono fun e w' h => by
    obtain ⟨v', g', rfl, ho, hk, hg⟩ := h
    obtain ⟨a, n, c, rfl⟩ := ho.form
    exact ⟨a, n, c, g', rfl, ho, hk, hg⟩

end Go.Proofs.Ytcmmoemmlellbaa
