/- Slices of integers that are the call's own: append and cut as runs, and the library's calls. Conditions: the numbers fit. -/
import Derived.Test.YtbalmmaoiebppaaVa
import Derived.Lib.SmallJoins
import Derived.Maps.AppendAt
namespace Go.Proofs.Ytbalmmaoiebppaa
open Go.RowKit

theorem run_push (w : World) (ty : TypeId) (base : Nat) (g : Option Nat) (v : Value) (xs : List Int) (hown : own w base g v xs) (B1 c : Nat) (y : Int) (hc : w.cell? ⟨B1, 0, none⟩ = some (.int .i64 y)) (hl : xs.length ≤ 100000) (hbase : base ≤ w.heap.size) :
    ∃ a' n' c' g' w', (Builtin.append_ #[27, 27] ty #[v, .slice (some ⟨B1, 0, none⟩) 1 c]).run Try.prog w = .ok (.slice a' n' c') w' ∧ own w' base g' (.slice a' n' c') (xs ++ [y]) ∧ n' = xs.length + 1 ∧ Keeps (fun k => g = some k) w w' ∧ (∀ b, g' = some b → g = some b ∨ (w.heap.size ≤ b ∧ b < w'.heap.size)) := by
  have hinfo : (Try.prog.info? 3).map (fun i => (i.zero, i.size, i.bytes)) = some (some (.int .i64 0), 1, 8) := by kernel_rfl
  obtain ⟨i0, hi0, hiz0, hiz1, hiz2⟩ := info_parts hinfo
  have hnews : ∀ (j : Nat) u, [Value.int .i64 y][j]? = some u → w.cell? ((⟨B1, 0, none⟩ : Addr).add j) = some u := fun j u hu => by
    match j, hu with
    | 0, hu => simp at hu; subst hu; simpa [Addr.add] using hc
  have h1c : ∀ u ∈ [Value.int .i64 y], u.oneCell' = true := fun u hu => by simp at hu; subst hu; rfl
  have grow : ∀ v' w', (Builtin.append_ #[27, 27] ty #[v, .slice (some ⟨B1, 0, none⟩) 1 c]).run Try.prog w = .ok v' w' → w'.ownsRow w.heap.size 3 1 v' (xs.length + 1) (xs.map (Value.int .i64) ++ [.int .i64 y]) → w.grownBy w' none →
      ∃ a' n' c' g' w', (Builtin.append_ #[27, 27] ty #[v, .slice (some ⟨B1, 0, none⟩) 1 c]).run Try.prog w = .ok (.slice a' n' c') w' ∧ own w' base g' (.slice a' n' c') (xs ++ [y]) ∧ n' = xs.length + 1 ∧ Keeps (fun k => g = some k) w w' ∧ (∀ b, g' = some b → g = some b ∨ (w.heap.size ≤ b ∧ b < w'.heap.size)) := fun v' w' hrun ho' hg' => by
    rcases ho'.2 with ⟨_, h0⟩ | ⟨g', cap, cur, rfl, hbg, hh, h1, h2, h3, h4⟩
    · omega
    · refine ⟨_, _, _, some g', w', hrun, ⟨Nat.le_trans hbase hbg, 0, cap, cur, by simp, by simp; omega, by unfold maxLen at h2; omega, hh, by omega, fun j hj => ?_⟩, rfl, ⟨hg'.os, hg'.tape, hg'.output, hg'.size, fun k hk _ => hg'.block k hk (by simp)⟩, fun b hb => by injection hb with hb; subst hb; exact .inr ⟨hbg, lt_of_block hh⟩⟩
      rw [Nat.zero_add]
      have h5 : (cur.toList.take ((xs.length + 1) * 1))[j]? = (xs.map (Value.int .i64) ++ [Value.int .i64 y])[j]? := by rw [h4]
      have hj' : j < xs.length + 1 := by simpa using hj
      rw [List.getElem?_take, if_pos (by omega), Array.getElem?_toList] at h5
      rw [h5, show xs.map (Value.int .i64) ++ [Value.int .i64 y] = (xs ++ [y]).map (Value.int .i64) by simp, List.getElem?_map, List.getD_eq_getElem?_getD, List.getElem?_eq_getElem hj]; rfl
  cases g with
  | none =>
    obtain ⟨rfl, ao, rfl⟩ := hown
    cases ao with
    | none =>
      obtain ⟨v', w', hrun, r1, r2, _⟩ := run_append_own (P := Try.prog) w w.heap.size 27 ty 3 i0 (.int .i64 0) 1 8 Try.underlying27 hi0 hiz0 hiz1 hiz2 rfl (by decide) (.slice none 0 0) 0 [] (World.ownsRow_nil w _ _ 1) ⟨B1, 0, none⟩ 1 c [.int .i64 y] rfl hnews h1c (by unfold maxLen; omega) (by omega) (Nat.le_refl _)
      exact grow v' w' hrun r1 r2
    | some ad =>
      obtain ⟨v', w', hrun, r1, r2⟩ := run_append_arg_grows (P := Try.prog) w 27 ty 3 i0 (.int .i64 0) 1 8 Try.underlying27 hi0 hiz0 hiz1 hiz2 rfl (by decide) ad 0 0 [] rfl (fun j u hu => by simp at hu) ⟨B1, 0, none⟩ 1 c [.int .i64 y] rfl hnews (by omega) (by unfold maxLen; omega) (by omega)
      exact grow v' w' hrun r1 r2
  | some b =>
    obtain ⟨hb, off, cap, C, rfl, hlc, hm, hh, hsz, hcl⟩ := hown
    have holds : ∀ (j : Nat) u, (xs.map (Value.int .i64))[j]? = some u → w.cell? ⟨b, off + j, none⟩ = some u := fun j u hu => by
      rw [cell_of_block hh]
      have hj : j < xs.length := by have := (List.getElem?_eq_some_iff.1 hu).1; simpa using this
      rw [hcl j hj, ← hu, List.getElem?_map, List.getD_eq_getElem?_getD, List.getElem?_eq_getElem hj]; rfl
    by_cases hr : xs.length + 1 ≤ cap
    · have hrun := run_append_room_cells (P := Try.prog) w 27 ty 3 i0 Try.underlying27 hi0 b off xs.length cap ⟨B1, 0, none⟩ 1 c [.int .i64 y] (by rw [hiz1]; rfl) hnews h1c hr (fun j hj => by
          simp at hj
          subst hj
          rw [hiz1, cell_of_block hh, Array.getElem?_eq_getElem (by omega)]; rfl) (fun j hj => frozen_of_block hh _)
      rw [hiz1] at hrun
      obtain ⟨C', k1, k2, k3⟩ := setCells_block [Value.int .i64 y] (off + xs.length * 1) w C hh (by simp; omega)
      refine ⟨_, _, _, some b, _, hrun, ⟨hb, off, cap, C', by simp, by simp; omega, hm, k1, by omega, fun j hj => ?_⟩, rfl, ((setCells_keeps b _ _ _).mono fun k _ hk => by rw [hk]), fun b' hb' => .inl hb'⟩
      have hj' : j < xs.length + 1 := by simpa using hj
      rw [k3]
      by_cases e : j = xs.length
      · subst e; rw [if_pos (by simp)]; simp [List.getD_eq_getElem?_getD]
      · rw [if_neg (by simp; omega), hcl j (by omega)]
        simp [List.getD_eq_getElem?_getD, List.getElem?_append_left (show j < xs.length by omega)]
    · obtain ⟨v', w', hrun, r1, r2⟩ := run_append_arg_grows (P := Try.prog) w 27 ty 3 i0 (.int .i64 0) 1 8 Try.underlying27 hi0 hiz0 hiz1 hiz2 rfl (by decide) ⟨b, off, none⟩ xs.length cap (xs.map (Value.int .i64)) (by simp) (fun j u hj => by rw [Addr.add_lit]; exact holds j u hj) ⟨B1, 0, none⟩ 1 c [.int .i64 y] rfl hnews (by omega) (by unfold maxLen; omega) (by omega)
      exact grow v' w' hrun r1 r2

/-- append of one number, as a step of a region that draws its order -/
theorem step_push {ops : Array Oper} {o : Oper} {a : Act} {w : World} {K : Act → World → Prop} {Q : Exit → Act → World → Prop} {E : Prop} (hgd : o.guard = none) (s x : Operand)
    (ho : o.op = .call { callee := .builtin .append, args := #[s, x], argTypes := #[27, 27] })
    (base : Nat) (g : Option Nat) (v : Value) (xs : List Int) (hs : a.eval s = v) (hown : own w base g v xs) (B1 c : Nat) (y : Int) (hx : a.eval x = .slice (some ⟨B1, 0, none⟩) 1 c) (hc : w.cell? ⟨B1, 0, none⟩ = some (.int .i64 y)) (hl : xs.length ≤ 100000) (hbase : base ≤ w.heap.size)
    (h : ∀ a' n' c' g' w', own w' base g' (.slice a' n' c') (xs ++ [y]) → n' = xs.length + 1 → Keeps (fun k => g = some k) w w' → (∀ b, g' = some b → g = some b ∨ (w.heap.size ≤ b ∧ b < w'.heap.size)) → K (a.put o.dst (.slice a' n' c')) w') :
    if Region.wanted o (yielded ops a.tmps) = true then Oper.wp Try.prog o a w K Q else E := by
  rw [if_pos (by simp [Region.wanted, hgd])]
  obtain ⟨a', n', c', g', w', hr, h1, h2, h3, h4⟩ := run_push w o.type base g v xs hown B1 c y hc hl hbase
  unfold Oper.wp execOp
  simp only [ho, resolve, invoke, builtin, Sem.run_bind, Sem.run_pure, Result.andThen_ok, List.map_toArray, List.map_cons, List.map_nil, hs, hx, hr]
  exact h a' n' c' g' w' h1 h2 h3 h4

theorem own.head {w : World} {base : Nat} {g : Option Nat} {v : Value} {xs : List Int} (h : own w base g v xs) (hne : xs ≠ []) : ∃ b o c, g = some b ∧ v = .slice (some ⟨b, o, none⟩) xs.length c ∧ w.cell? ⟨b, o, none⟩ = some (.int .i64 (xs.headD 0)) := by
  cases g with
  | none => exact absurd h.1 hne
  | some b =>
    obtain ⟨hb, o, c, C, rfl, hl, hm, hh, hs, hc⟩ := h
    refine ⟨b, o, c, rfl, rfl, ?_⟩
    have h0 : 0 < xs.length := List.length_pos_iff.2 hne
    rw [cell_of_block hh, ← Nat.add_zero o, hc 0 h0]
    cases xs with
    | nil => simp at h0
    | cons x r => rfl

/-- a slice without its first element -/
theorem run_tail (w : World) (base : Nat) (g : Option Nat) (v : Value) (xs : List Int) (hown : own w base g v xs) (hne : xs ≠ []) :
    ∃ a' n' c' g', (Instr.slice 27 v (some (.int .i64 1)) none none).run Try.prog w = .ok (.slice a' n' c') w ∧ own w base g' (.slice a' n' c') xs.tail ∧ n' = xs.length - 1 ∧ ∀ b, g' = some b → g = some b := by
  cases g with
  | none => exact absurd hown.1 hne
  | some b =>
    obtain ⟨hb, o, c, C, rfl, hl, hm, hh, hs, hc⟩ := hown
    have h0 : 0 < xs.length := List.length_pos_iff.2 hne
    have hc1 : 1 ≤ c := by omega
    have hrun : (Instr.slice 27 (.slice (some ⟨b, o, none⟩) xs.length c) (some (.int .i64 1)) none none).run Try.prog w = .ok (.slice (some (if c = 1 then ⟨b, o, none⟩ else ⟨b, o + 1, none⟩)) (xs.length - 1) (c - 1)) w := by
      have hlt : ¬ xs.length < 1 := by omega
      have e2 : ((xs.length : Int)).toNat = xs.length := by omega
      by_cases e : c = 1
      · have hx1 : xs.length = 1 := by omega
        rw [hx1, e]
        go_simp
      · rw [if_neg e]
        go_simp
        intro hx
        exfalso
        omega
    by_cases e : c = 1
    · have hx1 : xs.length - 1 = 0 := by omega
      rw [if_pos e, hx1, show c - 1 = 0 by omega] at hrun
      exact ⟨_, _, _, none, hrun, own_tail_none hl hne e, by omega, fun b hb => by cases hb⟩
    · rw [if_neg e] at hrun
      exact ⟨_, _, _, some b, hrun, own_tail_some hb hl hm hh hs hc hne, rfl, fun b hb => hb⟩

theorem contains_any (v : Value) (xs : List Int) (x : Int) (w : World) (h : rd w v xs) :
    Calls Try.prog 30 #[v, .int .i64 x] w fun e w' => e = .returned (.bool (xs.contains x)) ∧ w' = w := by
  rcases h with ⟨rfl, a, c, rfl⟩ | ⟨b, o, c, rfl, hne, h1, h2, hc⟩
  · exact Try.slices_Contains_int_empty a c x w
  · have := Try.slices_Contains_int b o xs.length c xs x w (Nat.le_refl _) (by omega) hc
    rwa [List.take_length] at this
theorem index_any (v : Value) (xs : List Int) (x : Int) (w : World) (h : rd w v xs) :
    Calls Try.prog 31 #[v, .int .i64 x] w fun e w' => e = .returned (.int .i64 (Lib.idxOf xs x)) ∧ w' = w := by
  rcases h with ⟨rfl, a, c, rfl⟩ | ⟨b, o, c, rfl, hne, h1, h2, hc⟩
  · exact Try.slices_Index_int_empty a c x w
  · have := Try.slices_Index_int b o xs.length c xs x w (Nat.le_refl _) (by omega) hc
    rwa [List.take_length] at this

theorem clone_any (v : Value) (xs : List Int) (w : World) (h : rd w v xs) (hl : xs.length ≤ 100000) :
    Calls Try.prog 33 #[v] w fun e w' => ∃ v' g, e = .returned v' ∧ own w' w.heap.size g v' xs ∧ Below w.heap.size w w' := by
  rcases h with ⟨rfl, a, c, rfl⟩ | ⟨b, o, c, rfl, hne, _, _, hc⟩
  · cases a with
    | none =>
      refine (Try.slices_Clone_int_nil 0 c w).mono fun e w' h => ?_
      obtain ⟨rfl, rfl⟩ := h
      exact ⟨_, none, rfl, ⟨rfl, _, rfl⟩, Below.refl _ _⟩
    | some a =>
      refine (Try.slices_Clone_int_zero a c w).mono fun e w' h => ?_
      obtain ⟨v', rfl, ho, hn, hb⟩ := h
      obtain ⟨_, h | ⟨g, cap, cur, rfl, hg, hh, hn, hcap, hsz, hcur⟩⟩ := ho
      · exact (hn h.1).elim
      · exact ⟨_, some g, rfl, ⟨hg, 0, cap, cur, rfl, hn, hcap, hh, by omega, fun j hj => by simp at hj⟩, hb⟩
  · refine (Try.slices_Clone_int b o xs.length c xs w (Nat.le_refl _) (by omega) hc).mono fun e w' h => ?_
    obtain ⟨v', rfl, ho, hn, hb⟩ := h
    obtain ⟨_, h | ⟨g, cap, cur, rfl, hg, hh, hn, hcap, hsz, hcur⟩⟩ := ho
    · exact (hn h.1).elim
    · refine ⟨_, some g, rfl, ⟨hg, 0, cap, cur, rfl, hn, hcap, hh, by omega, fun j hj => ?_⟩, hb⟩
      have : cur.toList[j]? = some (.int .i64 (xs.getD j 0)) := by
        have h1 : (cur.toList.take (xs.length * 1))[j]? = some (.int .i64 (xs.getD j 0)) := by
          rw [hcur]; simp [List.getD, List.getElem?_eq_getElem hj]
        rw [List.getElem?_take] at h1
        split at h1
        · exact h1
        · exact absurd h1 (by simp)
      rw [Nat.zero_add]; simpa using this

/-- slices.Delete of one element -/
theorem delete_any (v : Value) (xs : List Int) (i : Nat) (w : World) (base : Nat) (g : Option Nat) (h : own w base g v xs) (hi : i < xs.length) :
    Calls Try.prog 32 #[v, .int .i64 i, .int .i64 ((i : Int) + 1)] w fun e w' => ∃ v', e = .returned v' ∧ own w' base g v' (xs.take i ++ xs.drop (i + 1)) ∧ Keeps (fun k => g = some k) w w' := by
  cases g with
  | none => obtain ⟨rfl, _⟩ := h; simp at hi
  | some b =>
    obtain ⟨hb, o, c, C, rfl, hl, hm, hh, hs, hc⟩ := h
    have hH : Go.Sort.Holds (Value.int .i64) w b o xs.toArray := by
      intro j hj
      simp only [List.size_toArray] at hj
      refine ⟨?_, frozen_of_block hh _⟩
      rw [cell_of_block hh, hc j hj, getD_of_lt hj]
      simp [hj]
    rw [show ((i : Int) + 1) = ((i + 1 : Nat) : Int) by omega]
    refine (Try.slices_Delete_int b o c i (i + 1) xs w hH hl hm (by omega) (by omega)).mono fun e w' h => ?_
    obtain ⟨rfl, q, rfl⟩ := h
    have hlen : (xs.take i ++ xs.drop (i + 1) ++ List.replicate (i + 1 - i) (0 : Int)).length = xs.length := by simp; omega
    rw [Lib.putRow_eq_setCells (Value.int .i64) w b o xs.toArray _ q hH (by simpa using hlen)]
    obtain ⟨C', h1, h2, h3⟩ := setCells_block ((xs.take i ++ xs.drop (i + 1) ++ List.replicate (i + 1 - i) (0 : Int)).map (Value.int .i64)) o (w.drewN q) C hh (by rw [List.length_map, hlen]; omega)
    refine ⟨_, rfl, ⟨hb, o, c, C', ?_, by simp; omega, hm, h1, by omega, fun j hj => ?_⟩, ?_⟩
    · congr 1; simp; omega
    · rw [h3, if_pos (by rw [List.length_map, hlen]; simp at hj; omega), show o + j - o = j by omega, List.getElem?_map, List.getElem?_append_left hj]
      simp [List.getD, List.getElem?_eq_getElem hj]
    · have hk := setCells_keeps b ((xs.take i ++ xs.drop (i + 1) ++ List.replicate (i + 1 - i) (0 : Int)).map (Value.int .i64)) o (w.drewN q)
      exact (Keeps.of_below (Below.drewN' (Below.refl _ w) q)).trans (hk.mono fun k _ hk => by rw [hk])

end Go.Proofs.Ytbalmmaoiebppaa
