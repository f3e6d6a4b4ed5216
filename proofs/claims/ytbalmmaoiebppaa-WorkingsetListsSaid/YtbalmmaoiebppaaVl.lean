/- The program's two lists: activate and evict, walked. Conditions: the lists are short. -/
import Derived.Test.YtbalmmaoiebppaaVh
import Derived.BigQuiet
namespace Go.Proofs.Ytbalmmaoiebppaa
open Go.RowKit

/-- the page that is evicted, and the lists without it -/
def evP (I A : List Int) : Int := if I = [] then A.headD 0 else I.headD 0
def evI (I : List Int) : List Int := I.tail
def evA (I A : List Int) : List Int := if I = [] then A.tail else A

theorem own_len {w : World} {base : Nat} {g : Option Nat} {a : Option Addr} {n c : Nat} {xs : List Int} (h : own w base g (.slice a n c) xs) : n = xs.length := by
  cases g with
  | none => obtain ⟨rfl, a', h2⟩ := h; injection h2
  | some b => obtain ⟨_, o, c, C, h2, _⟩ := h; injection h2

set_option maxHeartbeats 1000000 in
theorem levict_any (w : World) (base bc : Nat) (vi va : Value) (gi ga : Option Nat) (I A : List Int) (bound : Int) (h : lsts w base bc vi va gi ga I A bound) (hne : I ≠ [] ∨ A ≠ []) (hl : I.length ≤ 50000 ∧ A.length ≤ 50000) :
    Calls Try.prog 35 #[.pointer (some ⟨bc, 0, none⟩)] w fun e w' => e = .returned (.int .i64 (evP I A)) ∧
      ∃ vi' va' gi' ga', lsts w' base bc vi' va' gi' ga' (evI I) (evA I A) bound ∧ Keeps (· = bc) w w' ∧ (∀ b, gi' = some b → gi = some b) ∧ (∀ b, ga' = some b → ga = some b) := by
  obtain ⟨c0, c1, c2, cf⟩ := h.cells
  have f0 := cf 0
  have f1 := cf 1
  clear cf
  have HH := Lib.hid h; clear h
  obtain ⟨ai, ni, ci, hvi⟩ := HH.out.oi.form
  by_cases hi : I = []
  · have hA : A ≠ [] := by rcases hne with h | h; exact absurd hi h; exact h
    obtain ⟨b, o, c, hg, hv, hcell⟩ := HH.out.oa.head hA
    obtain ⟨a', n', c', g', hrun, ho, rfl, hg'⟩ := run_tail w base ga va A HH.out.oa hA
    have h0 : (0 : Int) < (A.length : Int) := by have := List.length_pos_iff.2 hA; omega
    have hni : ni = 0 := by
      have h1 := HH.out.oi
      rw [hvi] at h1
      rw [own_len h1, hi]; rfl
    have HI : Hid (A.headD 0 = evP I A ∧ evI I = I ∧ evA I A = A.tail) := ⟨by unfold evP; rw [if_pos hi], by unfold evI; rw [hi]; rfl, by unfold evA; rw [if_pos hi]⟩
    have HO := Lib.hid ho
    have HG := Lib.hid hg'
    obtain ⟨x, hx⟩ : ∃ x, x = A.headD 0 := ⟨_, rfl⟩
    rw [← hx] at hcell HI
    subst hni
    rw [hv] at hrun c1
    rw [hvi] at c0
    clear hi hx hA hne ho hv hvi hg hg'
    go_enter Try.func35, Try.ntmps35
    go_wp2
    go_ret
    refine ⟨ret_int HI.out.1, vi, .slice a' (A.length - 1) c', gi, g', ?_⟩
    rw [HI.out.2.1, HI.out.2.2]
    obtain ⟨h1, h2⟩ := HH.out.setA (w1 := w) (Keeps.refl _ _) HO.out fun b hb => .inl (HG.out b hb)
    exact ⟨h1, setCell_keeps _ _ _ _, fun _ => id, HG.out⟩
  · obtain ⟨b, o, c, hg, hv, hcell⟩ := HH.out.oi.head hi
    obtain ⟨a', n', c', g', hrun, ho, rfl, hg'⟩ := run_tail w base gi vi I HH.out.oi hi
    have h0 : (0 : Int) < (I.length : Int) := by have := List.length_pos_iff.2 hi; omega
    have HI : Hid (I.headD 0 = evP I A ∧ evI I = I.tail ∧ evA I A = A) := ⟨by unfold evP; rw [if_neg hi], rfl, by unfold evA; rw [if_neg hi]⟩
    have HO := Lib.hid ho
    have HG := Lib.hid hg'
    obtain ⟨x, hx⟩ : ∃ x, x = I.headD 0 := ⟨_, rfl⟩
    rw [← hx] at hcell HI
    rw [hv] at hrun c0
    clear hi hx hne ho hv hvi hg hg'
    go_enter Try.func35, Try.ntmps35
    go_wp2
    go_ret
    refine ⟨ret_int HI.out.1, .slice a' (I.length - 1) c', va, g', ga, ?_⟩
    rw [HI.out.2.1, HI.out.2.2]
    obtain ⟨h1, h2⟩ := HH.out.setI (w1 := w) (Keeps.refl _ _) HO.out fun b hb => .inl (HG.out b hb)
    exact ⟨h1, setCell_keeps _ _ _ _, HG.out, fun _ => id⟩

/-- the lists after a page was put at the end of the active one -/
def actI (I A : List Int) (bound p : Int) : List Int := if bound < (A ++ [p]).length then I ++ [(A ++ [p]).headD 0] else I
def actA (A : List Int) (bound p : Int) : List Int := if bound < (A ++ [p]).length then (A ++ [p]).tail else A ++ [p]

set_option maxRecDepth 100000 in
set_option maxHeartbeats 2000000 in
theorem lactivate_any (w : World) (base bc : Nat) (vi va : Value) (gi ga : Option Nat) (I A : List Int) (bound p : Int) (h : lsts w base bc vi va gi ga I A bound) (hp : fits p) (hl : I.length ≤ 50000 ∧ A.length ≤ 50000) (hb : 0 ≤ bound ∧ bound ≤ 50000) (hbase : base ≤ w.heap.size) :
    Calls Try.prog 34 #[.pointer (some ⟨bc, 0, none⟩), .int .i64 p] w fun e w' => e = .returned (.tuple #[]) ∧
      ∃ vi' va' gi' ga', lsts w' base bc vi' va' gi' ga' (actI I A bound p) (actA A bound p) bound ∧ Keeps (fun k => k = bc ∨ gi = some k ∨ ga = some k) w w' ∧ (∀ b, gi' = some b → gi = some b ∨ w.heap.size ≤ b) ∧ (∀ b, ga' = some b → ga = some b ∨ w.heap.size ≤ b) := by
  obtain ⟨c0, c1, c2, cf⟩ := h.cells
  have f1 := cf 1
  clear cf
  obtain ⟨hl1, hl2⟩ := hl
  obtain ⟨hb1, hb2⟩ := hb
  have HH := Lib.hid h; clear h
  obtain ⟨w0, hw0⟩ : ∃ w0, w0 = w.alloc (.cells #[.int .i64 p] 3) := ⟨_, rfl⟩
  have hbel0 : Below w.heap.size w w0 := by rw [hw0]; exact (Below.refl _ w).alloc (Nat.le_refl _) _
  have HH0 : Hid (lsts w0 base bc vi va gi ga I A bound) := HH.out.below hbel0
  have HC0 : Hid (w0.cell? ⟨w.heap.size, 0, none⟩ = some (.int .i64 p)) := by show _ = _; rw [hw0, cell_of_block (heap_alloc_new w _)]; simp
  have hs0 : w.heap.size ≤ w0.heap.size := hbel0.size
  have HW0 := Lib.hid hw0; clear hw0
  go_enter Try.func34, Try.ntmps34
  go_upto_region 1 with (at_builtin; rw [← HW0.out]; refine wpList_push rfl _ _ rfl base ga va A rfl HH0.out.oa _ _ p rfl HC0.out (by omega) (by omega) ?_; intro a1 n1 c1' g1 w1 ho1 hn1 hk1 hg1; subst hn1; have HO1 := Lib.hid ho1; have HK1 := Lib.hid hk1; have HG1 := Lib.hid hg1; (obtain ⟨d0, d1, d2, df⟩ : w1.cell? ⟨bc, 0, none⟩ = some vi ∧ w1.cell? ⟨bc, 1, none⟩ = some va ∧ w1.cell? ⟨bc, 2, none⟩ = some (.int .i64 bound) ∧ w1.frozen? ⟨bc, 1, none⟩ = false := (by have h1 := (hk1.block bc (lt_of_block HH0.out.box) HH0.out.nea).trans HH0.out.box; refine ⟨?_, ?_, ?_, frozen_of_block h1 _⟩ <;> (rw [cell_of_block h1]; simp))); clear ho1 hk1 hg1)
  obtain ⟨w2, hw2⟩ : ∃ w2, w2 = w1.setCell ⟨bc, 1, none⟩ (.slice a1 (A.length + 1) c1') := ⟨_, rfl⟩
  have HS : Hid (lsts w2 base bc vi (.slice a1 (A.length + 1) c1') gi g1 I (A ++ [p]) bound ∧ Keeps (fun k => k = bc ∨ ga = some k) w0 w2) := by
    have := HH0.out.setA HK1.out HO1.out fun b hb => (HG1.out b hb).imp id fun h => h.1
    rw [← hw2] at this; exact this
  rw [← hw2]
  clear hw2 d0 d1 d2 df f1 c0 c1 c2
  obtain ⟨hS, hK⟩ := HS.out
  have HK := Lib.hid hK
  have HL := Lib.hid hS
  have hne : A ++ [p] ≠ [] := by simp
  obtain ⟨b, o, c, hg, hv, hcell⟩ := hS.oa.head hne
  have hlen : (A ++ [p]).length = A.length + 1 := by simp
  rw [hlen] at hv
  injection hv with hv1 _ hv3
  subst hv1 hv3
  obtain ⟨d0, d1, d2, df⟩ := hS.cells
  have f0 := df 0
  have f1 := df 1
  obtain ⟨x, hx⟩ : ∃ x, x = (A ++ [p]).headD 0 := ⟨_, rfl⟩
  rw [← hx] at hcell
  have HX := Lib.hid hx
  have HG := Lib.hid hg
  have hsz2 : w0.heap.size ≤ w2.heap.size := hK.size
  clear hS hK HS hne hx hg df hlen
  by_cases hbd : bound < (A.length : Int) + 1
  · have hgt : decide ((A.length : Int) + 1 > bound) = true := by simpa using hbd
    have HA : Hid (actI I A bound p = I ++ [x] ∧ actA A bound p = (A ++ [p]).tail) := by
      have e : bound < ((A ++ [p]).length : Int) := by simp; omega
      exact ⟨by unfold actI; rw [if_pos e, HX.out], by unfold actA; rw [if_pos e]⟩
    go_quiet (fail)
    go_upto_region 2 with fail
    obtain ⟨wx, hwx⟩ : ∃ wx, wx = (w2.drewN (nq + 1)).alloc (.cells #[.int .i64 x] 3) := ⟨_, rfl⟩
    have hbx : Below w2.heap.size w2 wx := by rw [hwx]; exact (Below.drewN' (Below.refl _ w2) (nq + 1)).alloc (Nat.le_refl _) _
    have HOI : Hid (own wx base gi vi I) := (HL.out.below hbx).oi
    have HBX : Hid (wx.heap[bc]? = some (.cells #[vi, .slice (some ⟨b, o, none⟩) (A.length + 1) c1', .int .i64 bound] 53 (0, 0))) := (HL.out.below hbx).box
    have HCX : Hid (wx.cell? ⟨w2.heap.size, 0, none⟩ = some (.int .i64 x)) := by show _ = _; rw [hwx]; exact (cell_of_block (b := w2.heap.size) (heap_alloc_new (w2.drewN (nq + 1)) _) 0).trans (by simp)
    have hszx : w2.heap.size ≤ wx.heap.size := hbx.size
    have c0x : ((w2.drewN (nq + 1)).alloc (.cells #[.int .i64 x] 3)).cell? ⟨bc, 0, none⟩ = some vi := by rw [← hwx, cell_of_block HBX.out]; simp
    have HWX := Lib.hid hwx; clear hwx
    go_region_law (rw [← HWX.out]; refine step_push rfl (.tmp 28) (.tmp 35) rfl base gi vi I (by simp [Act.eval, Act.put]) HOI.out w2.heap.size 1 x (by simp [Act.eval, Act.put]) HCX.out (by omega) (by omega) ?_; intro a3 n3 c3 g3 w4 ho3 hn3 hk3 hg3; subst hn3; have HO3 := Lib.hid ho3; have HK3 := Lib.hid hk3; have HG3 := Lib.hid hg3; (obtain ⟨d0, d1, df⟩ : w4.cell? ⟨bc, 0, none⟩ = some vi ∧ w4.cell? ⟨bc, 1, none⟩ = some (.slice (some ⟨b, o, none⟩) (A.length + 1) c1') ∧ w4.frozen? ⟨bc, 0, none⟩ = false := (by have h1 := (hk3.block bc (lt_of_block HBX.out) (HOI.out.ne_box HBX.out (by decide))).trans HBX.out; refine ⟨?_, ?_, frozen_of_block h1 _⟩ <;> (rw [cell_of_block h1]; simp))); clear ho3 hk3 hg3)
    all_goals
      obtain ⟨w5, hw5⟩ : ∃ w5, w5 = w4.setCell ⟨bc, 0, none⟩ (.slice a3 (I.length + 1) c3) := ⟨_, rfl⟩
      have HL5 : Hid (lsts w5 base bc (.slice a3 (I.length + 1) c3) (.slice (some ⟨b, o, none⟩) (A.length + 1) c1') g3 g1 (I ++ [x]) (A ++ [p]) bound ∧ Keeps (fun k => k = bc ∨ gi = some k) wx w5) := by
        have := (HL.out.below hbx).setI HK3.out HO3.out fun b hb => (HG3.out b hb).imp id fun h => h.1
        rw [← hw5] at this; exact this
      rw [← hw5]
      clear hw5 d0 d1 df
      obtain ⟨a', n', c', g', hrun, ho, -, hg'⟩ := run_tail w5 base g1 _ (A ++ [p]) HL5.out.1.oa (by simp)
      obtain ⟨d0, d1, d2, df⟩ := HL5.out.1.cells
      have f1 := df 1
      have HO5 := Lib.hid ho
      have HG5 := Lib.hid hg'
      clear df ho hg'
      go_wp2_with fail
      go_end0
      rw [HA.out.1, HA.out.2]
      obtain ⟨h1, h2⟩ := HL5.out.1.setA (w1 := w5) (Keeps.refl _ _) HO5.out fun b hb => .inl (HG5.out b hb)
      refine ⟨rfl, _, _, g3, g', h1, (Keeps.of_below hbel0).trans ((HK.out.mono fun k _ hk => hk.imp id .inr).trans ((Keeps.of_below hbx).trans ((HL5.out.2.mono fun k _ hk => hk.imp id .inl).trans ((setCell_keeps _ _ _ _).mono fun k _ hk => .inl hk)))), fun b hb => (HG3.out b hb).imp id fun h => by omega, fun b hb => (HG1.out b (HG5.out b hb)).imp id fun h => by omega⟩
  · have hgt : decide ((A.length : Int) + 1 > bound) = false := by simpa using hbd
    have HA : Hid (actI I A bound p = I ∧ actA A bound p = A ++ [p]) := by
      have e : ¬ bound < ((A ++ [p]).length : Int) := by simp; omega
      exact ⟨by unfold actI; rw [if_neg e], by unfold actA; rw [if_neg e]⟩
    go_quiet (fail)
    go_wp2_with fail
    go_end0
    rw [HA.out.1, HA.out.2]
    refine ⟨rfl, vi, _, gi, g1, HL.out.below (Below.drewN' (Below.refl _ _) _), (Keeps.of_below hbel0).trans ((HK.out.mono fun k _ hk => hk.imp id .inr).trans (Keeps.of_below (Below.drewN' (Below.refl _ _) _))), fun b hb => .inl hb, fun b hb => (HG1.out b hb).imp id fun h => by omega⟩
end Go.Proofs.Ytbalmmaoiebppaa
