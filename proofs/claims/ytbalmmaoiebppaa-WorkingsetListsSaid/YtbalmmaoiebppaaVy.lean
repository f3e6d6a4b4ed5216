/- slices.Sorted(slices.Values(s)): walked. Conditions: the slice is short. -/
import Derived.Test.YtbalmmaoiebppaaVq
import Derived.RangeFuncBox
import Derived.RangeFuncLeaves
import Derived.Shelf.Abstract
import Derived.WalkKit
import Derived.OwnWalkIn
import Derived.TacticsInMore
import Derived.LoopNIn
import Derived.LoopIn
import Derived.Maps.AppendAt
namespace Go.Proofs.Ytbalmmaoiebppaa
open Go.RowKit Go.Shelf

attribute [local go_sem] Oper.semAt_some

/-- what has come when k rounds are over -/
def upto (f : Nat → Int) (k : Nat) : List Int := (List.range k).map f
theorem upto_succ (f : Nat → Int) (k : Nat) : upto f (k + 1) = upto f k ++ [f k] := by simp [upto, List.range_succ]
theorem upto_length (f : Nat → Int) (k : Nat) : (upto f k).length = k := by simp [upto]
theorem upto_all (zs : List Int) : upto (fun j => zs[j]?.getD 0) zs.length = zs := by
  apply List.ext_getElem
  · simp [upto]
  · intro i h1 h2
    simp [upto, h2]

set_option maxRecDepth 100000 in
set_option maxHeartbeats 2000000 in
/-- the iterator over a slice, for every loop body that keeps what lay below n₀ -/
theorem values1_in (F : Fence) (n : Nat) (h7 : F.fn 43) (hro : F.round = none) (hn : 1 ≤ n) (l Bs n₀ b off len cap : Nat) (zs : List Int) (hreach : len * 8 ≤ 140737488351232) (hb : b < n₀) (J Jx : List Int → World → Prop)
    (hY : ∀ pre x W, J pre W → pre.length < len → YieldAt F (n - 1) Try.prog l #[.int .i64 x] W fun e W' =>
      (e = .returned (.bool true) ∧ J (pre ++ [x]) W' ∧ Below n₀ W W') ∨ (e = .returned (.bool false) ∧ Jx (pre ++ [x]) W'))
    (W : World) (hBs : W.cell? ⟨Bs, 0, none⟩ = some (.slice (some ⟨b, off, none⟩) len cap)) (hc : ∀ j, j < len → W.cell? ⟨b, off + j, none⟩ = some (.int .i64 (zs[j]?.getD 0))) (h0 : J [] W) :
    CallsIn F n Try.prog 43 #[.func (.yield l) #[] #[], .pointer (some ⟨Bs, 0, none⟩)] W fun e W' => (∃ v, e = .returned v) ∧
      ((∃ ys, ys = upto (fun j => zs[j]?.getD 0) len ∧ J ys W') ∨ (∃ pre, Jx pre W')) := by
  refine callsIn_of_wp Try.func43 rfl h7 ?_ hro
  simp only [Try.ntmps43, List.size_toArray, List.length_cons, List.length_nil, Nat.reduceAdd, Nat.reduceSub, Array.replicate_succ, Array.replicate_zero, List.push_toArray, List.append_toArray, List.nil_append, List.cons_append]
  gi_wp2
  gi_loopw [7] (fun i wr => ∃ k : Nat, k ≤ len ∧ i = .int .i64 k ∧ J (upto (fun j => zs[j]?.getD 0) k) wr ∧ Below n₀ W wr)
    (fun i _ => len - (intOf i).toNat)
  case atStart => exact ⟨0, Nat.zero_le _, rfl, h0, Below.refl _ _⟩
  case round =>
    obtain ⟨k, hk, rfl, hJs, hnx⟩ := hrel
    have hcx : k < len → wr.cell? ⟨b, off + k, none⟩ = some (.int .i64 (zs[k]?.getD 0)) := fun h => (hnx.cell (p := ⟨b, off + k, none⟩) hb).trans (hc k h)
    by_cases hlt : k < len
    · obtain ⟨fn, tmps, assign, body, hy, hR⟩ := hY _ (zs[k]?.getD 0) wr hJs (by rw [upto_length]; exact hlt)
      have hcx' := hcx hlt
      gi_wp2
      refine hR.mono ?_
      rintro e W3 (⟨rfl, hJ3, hk3⟩ | ⟨rfl, hJx3⟩)
      · gi_wp2
        go_roundw
        case rel => exact ⟨k + 1, by omega, by simp, by rw [upto_succ]; exact hJ3, hnx.trans hk3⟩
        case measure => simp [intOf]; omega
      · gi_wp2
        refine bodyPost_ret (results_none rfl _ _ _) rfl ?_
        exact ⟨⟨_, rfl⟩, .inr ⟨_, hJx3⟩⟩
    · obtain rfl : k = len := by omega
      gi_wp2
      go_end0
      exact ⟨⟨_, rfl⟩, .inl ⟨_, rfl, hJs⟩⟩

set_option maxRecDepth 100000 in
set_option maxHeartbeats 1000000 in
/-- .. at an empty slice: no round -/
theorem values1_none_in (F : Fence) (n : Nat) (h7 : F.fn 43) (hro : F.round = none) (l Bs c : Nat) (a : Option Addr) (J : List Int → World → Prop) (W : World) (hBs : W.cell? ⟨Bs, 0, none⟩ = some (.slice a 0 c)) (h0 : J [] W) :
    CallsIn F n Try.prog 43 #[.func (.yield l) #[] #[], .pointer (some ⟨Bs, 0, none⟩)] W fun e W' => (∃ v, e = .returned v) ∧ J [] W' := by
  refine callsIn_of_wp Try.func43 rfl h7 ?_ hro
  simp only [Try.ntmps43, List.size_toArray, List.length_cons, List.length_nil, Nat.reduceAdd, Nat.reduceSub, Array.replicate_succ, Array.replicate_zero, List.push_toArray, List.append_toArray, List.nil_append, List.cons_append]
  gi_wp2
  gi_loopw [7] (fun i wr => i = .int .i64 0 ∧ J [] wr) (fun _ _ => 0)
  case atStart => exact ⟨rfl, h0⟩
  case round =>
    obtain ⟨rfl, hJs⟩ := hrel
    gi_wp2
    go_end0
    exact ⟨⟨_, rfl⟩, hJs⟩

/-- what slices.Values hands back: all of zs, in order -/
theorem values_stops (F : Fence) (n : Nat) (h7 : F.fn 43) (hro : F.round = none) (hn : 1 ≤ n) (Bs n₀ : Nat) (sv : Value) (zs : List Int) (hreach : zs.length * 8 ≤ 140737488351232) (w : World) (hBs : Bs < w.heap.size) (hn₀ : n₀ ≤ w.heap.size) (w0 : World) (hw0 : w0.heap.size = n₀) (hb0 : Below n₀ w0 w)
    (hc : w.cell? ⟨Bs, 0, none⟩ = some sv) (hI : rd w0 sv zs) :
    SeqStopsK F n Try.prog 43 #[.pointer (some ⟨Bs, 0, none⟩)] (fun x : Int => #[Value.int .i64 x]) (Below n₀) (fun ys => ys = zs) (fun _ => True) zs.length w := fun l J Jx W hW _ _ hY h0 => by
  have hc' := (hW.cell (p := ⟨Bs, 0, none⟩) hBs).trans hc
  have hbw : Below n₀ w0 W := hb0.trans (hW.mono hn₀)
  rcases hI with ⟨rfl, a, c, rfl⟩ | ⟨b, off, cap, rfl, _, _, _, hcs⟩
  · exact (values1_none_in F n h7 hro l Bs c a J W hc' h0).mono fun e W' ⟨he, hj⟩ => ⟨he, .inl ⟨_, rfl, hj⟩⟩
  · have hcs' : ∀ j, j < zs.length → W.cell? ⟨b, off + j, none⟩ = some (.int .i64 (zs[j]?.getD 0)) := fun j hj => by
      have h1 := hcs j hj
      rw [hbw.cell (p := ⟨b, off + j, none⟩) (by rw [← hw0]; exact block_lt_of_cell h1), h1, List.getD_eq_getElem?_getD]
    by_cases hz : zs.length = 0
    · obtain rfl : zs = [] := List.length_eq_zero_iff.1 hz
      exact (values1_none_in F n h7 hro l Bs cap _ J W hc' h0).mono fun e W' ⟨he, hj⟩ => ⟨he, .inl ⟨_, rfl, hj⟩⟩
    · have hb : b < n₀ := by rw [← hw0]; exact block_lt_of_cell (hcs 0 (by omega))
      refine (values1_in F n h7 hro hn l Bs n₀ b off zs.length cap zs hreach hb J Jx hY W hc' hcs' h0).mono ?_
      rintro e W' ⟨he, ⟨ys, rfl, hj⟩ | ⟨pre, hj⟩⟩
      · exact ⟨he, .inl ⟨_, upto_all zs, hj⟩⟩
      · exact ⟨he, .inr ⟨_, trivial, hj⟩⟩

theorem infoI : (Try.prog.info? 3).map (fun i => (i.zero, i.size, i.bytes)) = some (some (.int .i64 0), 1, 8) := by kernel_rfl

set_option maxRecDepth 100000 in
set_option maxHeartbeats 2000000 in
/-- slices.AppendSeq(nil, slices.Values(s)) -/
theorem appendSeq_in (F : Fence) (n : Nat) (h44 : F.fn 44) (h43 : F.fn 43) (hro : F.round = none) (hn : 3 ≤ n) (Bs : Nat) (sv : Value) (zs : List Int) (w : World) (hBs : w.cell? ⟨Bs, 0, none⟩ = some sv) (hI : rd w sv zs) (hl : zs.length ≤ 100000) :
    CallsIn F n Try.prog 44 #[.slice none 0 0, .func (.func 43) #[] #[.pointer (some ⟨Bs, 0, none⟩)]] w fun e W' => ∃ v, e = .returned v ∧ W'.ownsRow w.heap.size 3 1 v zs.length (zs.map (Value.int .i64)) ∧ Below w.heap.size w W' := by
  have h1 : 1 ≤ n := by omega
  obtain ⟨i0, hi, hz0, hz1, hz2⟩ := info_parts infoI
  have hBl : Bs < w.heap.size := block_lt_of_cell hBs
  refine callsIn_of_wp_marks Try.func44 rfl h44 ?_ hro
  simp only [Try.ntmps44, List.size_toArray, List.length_cons, List.length_nil, Nat.reduceAdd, Nat.reduceSub, Array.replicate_succ, Array.replicate_zero, List.push_toArray, List.append_toArray, List.nil_append, List.cons_append]
  gi_wp2
  have bO := Boxed.new w 27 (.slice none 0 0)
  have hB0 : Below w.heap.size w (w.alloc (.cells #[.slice none 0 0] 27)) := (Below.refl _ w).alloc (Nat.le_refl _) _
  have hcb : (w.alloc (.cells #[.slice none 0 0] 27)).cell? ⟨Bs, 0, none⟩ = some sv := (hB0.cell (p := ⟨Bs, 0, none⟩) hBl).trans hBs
  refine wpIn_rangeFunc_ownG hro h1 (gf := 43) (lb := #[.pointer (some ⟨Bs, 0, none⟩)]) rfl h43 (enters_of Try.func43 (by kernel_rfl) rfl)
    (values_stops F (n - 1) h43 hro (by omega) Bs w.heap.size sv zs (by omega) (w.alloc (.cells #[.slice none 0 0] 27)) (by simp; omega) (by simp) w rfl hB0 hcb hI) belowK_t (belowK_b (by simp)) (Below.refl _ _) (fun _ => rfl)
    (fun (pre : List Int) W => (∃ v, Boxed W w.heap.size 27 v ∧ W.ownsRow w.heap.size 3 1 v pre.length (pre.map (Value.int .i64)) ∧ True) ∧ Below w.heap.size w W)
    (fun _ _ _ => False)
    (OwnFrom.and (Own.from (holdsRow_own w.heap.size w.heap.size 27 3 1 (fun (pre : List Int) => pre.length) (fun (pre : List Int) => pre.map (Value.int .i64)) (fun _ _ => True)) _) (ownFrom_below (Nat.le_refl _) (by simp)))
    (fun _ _ _ _ _ hs _ _ => hs)
    ⟨⟨_, bO, World.ownsRow_nil _ _ _ _, trivial⟩, hB0⟩
    (fun x => { tmps := #[.slice none 0 0, .func (.func 43) #[] #[.pointer (some ⟨Bs, 0, none⟩)], .pointer (some ⟨w.heap.size, 0, none⟩), undef, .slice none 0 0, .int .i64 x, .func (.func 43) #[] #[.pointer (some ⟨Bs, 0, none⟩)], .int .i64 x, undef, undef, undef, undef, undef], defers := [] }) ?assign ?body ?done ?stop
  case assign =>
    intro l x W K hK
    gi_wp2
    exact hK
  case body =>
    rintro l pre x W ⟨⟨v, hv, hrow, _⟩, hB⟩ hlt
    have hc := hv.cell
    gi_wp2_with (gi_at_builtin; refine wpListIn_append_own _ rfl _ _ 27 rfl w.heap.size 3 i0 (.int .i64 0) 1 8 Try.underlying27 hi hz0 hz1 hz2 rfl (by decide) _ _ _ rfl (hrow.alloc _) ⟨W.heap.size, 0, none⟩ 1 1 [.int .i64 x] rfl rfl (cell_one_new _ _ _) (by simp [Value.oneCell']) (by unfold maxLen; omega) (by omega) (by have := hB.size; simp; omega) ?_; intro v' w1 hown' hgrow _; obtain ⟨g', cap', rfl⟩ := ownsRow_succ hown'; obtain ⟨hv1, hv2, hr2, hk2, hb2⟩ := hv.appended (by decide) hrow hB.size (Nat.le_refl _) hown' hgrow; have hc1 := hv1.cell; have hf1 := hv1.frozen)
    exact ⟨hk2.from _, hb2, ⟨_, hv2, by simpa using hr2, trivial⟩, hB.trans hb2⟩
  case done =>
    rintro D ys W hD rfl ⟨⟨v, hv, hrow, _⟩, hB⟩ hK
    have hc := hv.cell
    gi_wp2
    refine ⟨by simp, .inl ⟨_, _, rfl, run_takeDeferred hK, ?_⟩⟩
    exact ⟨_, results_tmp rfl _ _ _, v, rfl, ownsRow_putObj hrow _ hK rfl, hB.trans (belowK_b (w := w) (Nat.le_refl _) W D _ _ (by simp at hD; omega) hK rfl rfl)⟩
  case stop =>
    rintro D c pre W _ _ h _
    exact h.elim

theorem appendSeq_any (Bs : Nat) (sv : Value) (zs : List Int) (w : World) (hBs : w.cell? ⟨Bs, 0, none⟩ = some sv) (hI : rd w sv zs) (hl : zs.length ≤ 100000) :
    Calls Try.prog 44 #[.slice none 0 0, .func (.func 43) #[] #[.pointer (some ⟨Bs, 0, none⟩)]] w fun e W' => ∃ v, e = .returned v ∧ W'.ownsRow w.heap.size 3 1 v zs.length (zs.map (Value.int .i64)) ∧ Below w.heap.size w W' :=
  (callsIn_wide (n := 6)).1 (appendSeq_in Fence.wide 6 trivial trivial rfl (by omega) Bs sv zs w hBs hI hl)

def sortL (l : List Int) : List Int := l.mergeSort fun x y => decide (x ≤ y)
theorem sortL_len (l : List Int) : (sortL l).length = l.length := by unfold sortL; exact (List.mergeSort_perm l _).length_eq
open Go.Sort in
/-- slices.Sort -/
theorem sort_any (v : Value) (xs : List Int) (w : World) (base : Nat) (g : Option Nat) (h : own w base g v xs) (hl : xs.length ≤ 100000) :
    Calls Try.prog 42 #[v] w fun e w' => e = .returned (.tuple #[]) ∧ Go.Proofs.Ytbalmmaoiebppaa.rd w' v (sortL xs) ∧ Keeps (fun k => g = some k) w w' := by
  cases g with
  | none =>
    obtain ⟨rfl, a, rfl⟩ := h
    refine (Try.slices_Sort_int_none a 0 w).mono fun e w' h => ?_
    obtain ⟨rfl, rfl⟩ := h
    exact ⟨rfl, .inl ⟨by simp [sortL], _, _, rfl⟩, Keeps.refl _ _⟩
  | some b =>
    obtain ⟨hb, o, c, C, rfl, hlc, hm, hh, hs, hc⟩ := h
    have hH : Go.Sort.Holds (Value.int .i64) w b o xs.toArray := by
      intro j hj
      simp only [List.size_toArray] at hj
      refine ⟨?_, frozen_of_block hh _⟩
      rw [cell_of_block hh, hc j hj, getD_of_lt hj]
      simp [hj]
    have hlt := lt_of_block hh
    refine (Try.slices_Sort_int b o c xs w hH hlt (by omega)).mono fun e w' h => ?_
    obtain ⟨rfl, n, os, rfl⟩ := h
    have hlen := sortL_len xs
    have hH2 : Go.Sort.Holds (Value.int .i64) (Sort.ahead w n) b o xs.toArray := hH
    refine ⟨rfl, ?_, ⟨rfl, rfl, rfl, ?_, fun k hk hn => ?_⟩⟩
    · by_cases he : xs = []
      · subst he; exact .inl ⟨by simp [sortL], _, _, rfl⟩
      · refine .inr ⟨b, o, c, by rw [hlen], fun e => he (List.length_eq_zero_iff.1 (by rw [← hlen, e]; rfl)), by omega, hm, fun j hj => ?_⟩
        have h1 := cell?_putRow (Value.int .i64) (Sort.ahead w n) b o xs.toArray (sortL xs).toArray hH2 (by simp [hlen]) j (by simpa using hj)
        refine (cell?_grow _ os ⟨b, o + j, none⟩ (by simpa [putRow, mapBlock, Sort.ahead] using hlt)).trans (h1.trans ?_)
        rw [getD_of_lt hj]; simp [hj]
    · show w.heap.size ≤ (grow _ os).heap.size
      rw [size_grow]; simp [putRow, mapBlock, Sort.ahead]
    · refine (heap_grow_old _ os (by simpa [putRow, mapBlock, Sort.ahead] using hk)).trans ?_
      have : b ≠ k := fun e => hn (by rw [e])
      simp [putRow, mapBlock, Sort.ahead, Array.getElem?_modify, this]
/-- the call's own slice reads as the numbers -/
abbrev ownI (w : World) (base : Nat) (v : Value) (xs : List Int) : Prop := w.ownsRow base 3 1 v xs.length (xs.map (Value.int .i64))
theorem ownI.keep {w w' : World} {base : Nat} {v : Value} {xs : List Int} (h : ownI w base v xs) (hb : Below w.heap.size w w') : ownI w' base v xs := by
  refine ⟨h.1, ?_⟩
  rcases h.2 with h0 | ⟨g, cap, cur, rfl, hg, hh, h3⟩
  · exact .inl h0
  · exact .inr ⟨g, cap, cur, rfl, hg, (hb.block g (lt_of_block hh)).trans hh, h3⟩
theorem ownI.own {w : World} {base : Nat} {v : Value} {xs : List Int} (h : ownI w base v xs) : ∃ g, Go.Proofs.Ytbalmmaoiebppaa.own w base g v xs := by
  rcases h.2 with ⟨rfl, h0⟩ | ⟨g, cap, cur, rfl, hg, hh, h1, h2, h3, h4⟩
  · exact ⟨none, List.length_eq_zero_iff.1 h0, _, rfl⟩
  · refine ⟨some g, hg, 0, cap, cur, rfl, h1, by unfold maxLen at h2; omega, hh, by omega, fun j hj => ?_⟩
    rw [Nat.zero_add]
    have h5 : (cur.toList.take (xs.length * 1))[j]? = (xs.map (Value.int .i64))[j]? := by rw [h4]
    rw [List.getElem?_take, if_pos (by omega), Array.getElem?_toList, List.getElem?_map] at h5
    rw [h5, List.getD_eq_getElem?_getD, List.getElem?_eq_getElem hj]; rfl


set_option maxHeartbeats 1000000 in
theorem collect_any (Bs : Nat) (sv : Value) (zs : List Int) (w : World) (hBs : w.cell? ⟨Bs, 0, none⟩ = some sv) (hI : rd w sv zs) (hl : zs.length ≤ 100000) :
    Calls Try.prog 41 #[.func (.func 43) #[] #[.pointer (some ⟨Bs, 0, none⟩)]] w fun e W' => ∃ v, e = .returned v ∧ W'.ownsRow w.heap.size 3 1 v zs.length (zs.map (Value.int .i64)) ∧ Below w.heap.size w W' := by
  have HB := Lib.hid hBs
  have HR := Lib.hid hI
  clear hBs hI
  go_enter Try.func41, Try.ntmps41
  go_wp2_with (go_at_call 44; refine (appendSeq_any Bs sv zs w HB.out HR.out hl).mono ?_; rintro e w1 ⟨v, rfl, ho, hb⟩; have HO := Lib.hid ho; have HBL := Lib.hid hb; clear ho hb)
  go_ret
  exact ⟨v, rfl, HO.out, HBL.out⟩

set_option maxHeartbeats 1000000 in
theorem sorted_any (Bs : Nat) (sv : Value) (zs : List Int) (w : World) (hBs : w.cell? ⟨Bs, 0, none⟩ = some sv) (hI : rd w sv zs) (hl : zs.length ≤ 100000) :
    Calls Try.prog 39 #[.func (.func 43) #[] #[.pointer (some ⟨Bs, 0, none⟩)]] w fun e W' => ∃ v, e = .returned v ∧ Go.Proofs.Ytbalmmaoiebppaa.rd W' v (sortL zs) ∧ Below w.heap.size w W' := by
  have HB := Lib.hid hBs
  have HR := Lib.hid hI
  clear hBs hI
  go_enter Try.func39, Try.ntmps39
  go_wp2_with (first | (go_at_call 41; refine (collect_any Bs sv zs w HB.out HR.out hl).mono ?_; rintro e w1 ⟨v, rfl, ho, hb⟩; (obtain ⟨g, hg⟩ := ownI.own ho); have HO := Lib.hid hg; have HBL := Lib.hid hb; clear ho hb hg) | (go_at_call 42; refine (sort_any v zs w1 w.heap.size g HO.out hl).mono ?_; rintro e w2 ⟨rfl, hr2, hk2⟩; have HR2 := Lib.hid hr2; have hb2 := HBL.out.trans (hk2.to_below HBL.out.size fun k hk e => (by have := HO.out; rw [e] at this; have := this.lt; omega)); clear hr2 hk2))
  go_ret
  exact ⟨v, rfl, HR2.out, hb2⟩

set_option maxHeartbeats 1000000 in
theorem values_any (a : Option Addr) (n c : Nat) (w : World) :
    Calls Try.prog 40 #[.slice a n c] w fun e w' => e = .returned (.func (.func 43) #[] #[.pointer (some ⟨w.heap.size, 0, none⟩)]) ∧ w' = w.alloc (.cells #[.slice a n c] 27) := by
  go_enter Try.func40, Try.ntmps40
  go_wp2
  go_ret
  exact ⟨rfl, rfl⟩
end Go.Proofs.Ytbalmmaoiebppaa
