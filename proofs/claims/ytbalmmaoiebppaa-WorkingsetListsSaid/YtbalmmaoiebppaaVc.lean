/- The reference's cache: without, activate, evict, walked. Conditions: the lists are short. -/
import Derived.Test.YtbalmmaoiebppaaVt
import Derived.Lib.Hide
namespace Go.Proofs.Ytbalmmaoiebppaa
open Go.RowKit

abbrev cv (vi va vg : Value) (bd : Int) : Value := .agg #[vi, va, vg, .int .i64 bd]
/-- block B holds the cache -/
abbrev boxC (w : World) (B : Nat) (vi va vg : Value) (bd : Int) : Prop := w.heap[B]? = some (.cells #[vi, va, vg, .int .i64 bd] 58 (0, 0))
def isSl (v : Value) : Prop := ∃ a n c, v = .slice a n c
theorem cache_one {vi va vg : Value} {bd : Int} (h1 : isSl vi) (h2 : isSl va) (h3 : isSl vg) : (#[vi, va, vg, .int .i64 bd] : Array Value).all (·.oneCell') = true := by
  obtain ⟨a0, n0, c0, rfl⟩ := h1
  obtain ⟨a1, n1, c1, rfl⟩ := h2
  obtain ⟨a2, n2, c2, rfl⟩ := h3
  simp [Value.oneCell']
theorem setRow_keeps (w : World) (g : Nat) (cs : Array Value) : Keeps (· = g) w (w.setRow g cs) := ⟨rfl, rfl, rfl, by simp, fun k _ hp => setRow_other w g k _ hp⟩
theorem cache_info : (Try.prog.info? 58).map (·.size) = some 4 := by kernel_rfl
theorem store_cache {ops : Array Oper} {rest : List Oper} {o : Oper} {a : Act} {w : World} {Q : Exit → Act → World → Prop} (hgd : o.guard = none) (x y : Operand) (ho : o.op = .store 58 x y)
    (g : Nat) (vi' va' vg' : Value) (bd' : Int) (vi va vg : Value) (bd : Int) (hx : a.eval x = .pointer (some ⟨g, 0, none⟩)) (hy : a.eval y = cv vi va vg bd) (hg : boxC w g vi' va' vg' bd') (h1 : isSl vi) (h2 : isSl va) (h3 : isSl vg)
    (h : ∀ w', boxC w' g vi va vg bd → Keeps (· = g) w w' → wpList Try.prog ops Q rest (a.put o.dst undef) w') : wpList Try.prog ops Q (o :: rest) a w :=
  wpList_store_row hgd 58 x y ho g _ hx hy 58 _ hg cache_info rfl (cache_one h1 h2 h3) (h _ (setRow_heap w g _ _ _ _ hg) (setRow_keeps w g _))
theorem load_cache {ops : Array Oper} {rest : List Oper} {o : Oper} {a : Act} {w : World} {Q : Exit → Act → World → Prop} (hgd : o.guard = none) (x : Operand) (ho : o.op = .load 58 x)
    (g : Nat) (vi va vg : Value) (bd : Int) (hx : a.eval x = .pointer (some ⟨g, 0, none⟩)) (hg : boxC w g vi va vg bd)
    (h : wpList Try.prog ops Q rest (a.put o.dst (cv vi va vg bd)) w) : wpList Try.prog ops Q (o :: rest) a w :=
  wpList_load_row hgd 58 x ho g hx 58 _ (0, 0) _ hg Try.underlying58 rfl cache_info h
theorem results_cache {fn : Func} {p : Tmp} (h : fn.results = #[.cell p 58]) (tmps : Array Value) (w : World) (g : Nat) (vi va vg : Value) (bd : Int)
    (hp : tmps.getD p undef = .pointer (some ⟨g, 0, none⟩)) (hg : boxC w g vi va vg bd) : (results fn tmps).run Try.prog w = .ok (cv vi va vg bd) w :=
  results_cell_row h tmps w g 58 _ (0, 0) _ hp hg Try.underlying58 rfl cache_info
theorem boxC.cells {w : World} {B : Nat} {vi va vg : Value} {bd : Int} (h : boxC w B vi va vg bd) : w.cell? ⟨B, 0, none⟩ = some vi ∧ w.cell? ⟨B, 1, none⟩ = some va ∧ w.cell? ⟨B, 2, none⟩ = some vg ∧ w.cell? ⟨B, 3, none⟩ = some (.int .i64 bd) ∧ ∀ j, w.frozen? ⟨B, j, none⟩ = false :=
  ⟨by rw [cell_of_block h]; simp, by rw [cell_of_block h]; simp, by rw [cell_of_block h]; simp, by rw [cell_of_block h]; simp, fun j => frozen_of_block h j⟩
theorem boxC.setI {w : World} {B : Nat} {vi va vg v : Value} {bd : Int} (h : boxC w B vi va vg bd) : boxC (w.setCell ⟨B, 0, none⟩ v) B v va vg bd := by unfold boxC; rw [heap_setCell_at h]; simp
theorem boxC.setA {w : World} {B : Nat} {vi va vg v : Value} {bd : Int} (h : boxC w B vi va vg bd) : boxC (w.setCell ⟨B, 1, none⟩ v) B vi v vg bd := by unfold boxC; rw [heap_setCell_at h]; simp
theorem boxC.setG {w : World} {B : Nat} {vi va vg v : Value} {bd : Int} (h : boxC w B vi va vg bd) : boxC (w.setCell ⟨B, 2, none⟩ v) B vi va v bd := by unfold boxC; rw [heap_setCell_at h]; simp
theorem boxC.keeps {P : Nat → Prop} {w w' : World} {B : Nat} {vi va vg : Value} {bd : Int} (h : boxC w B vi va vg bd) (hk : Keeps P w w') (hp : ¬ P B) : boxC w' B vi va vg bd := (hk.block B (lt_of_block h) hp).trans h

theorem remP_snoc (l : List Int) (x p : Int) : remP (l ++ [x]) p = if x = p then remP l p else remP l p ++ [x] := by
  unfold remP; rw [List.filter_append]; by_cases h : x = p <;> simp [h]
theorem remP_id {l : List Int} {p : Int} (h : p ∉ l) : remP l p = l := List.filter_eq_self.2 fun x hx => by simp; intro e; exact h (e ▸ hx)

set_option maxRecDepth 100000 in
set_option maxHeartbeats 2000000 in
theorem without_any (v : Value) (xs : List Int) (p : Int) (w : World) (h : rd w v xs) (hp : fits p) (hl : xs.length ≤ 50000) :
    Calls Try.prog 36 #[v, .int .i64 p] w fun e w' => ∃ v' g, e = .returned v' ∧ own w' w.heap.size g v' (remP xs p) ∧ Below w.heap.size w w' := by
  obtain ⟨a, c, rfl, hlen, hcell⟩ := h.split
  have HC := Lib.hid hcell
  clear h hcell
  go_enter Try.func36, Try.ntmps36
  go_wp2_with fail
  go_loopg [5, 6] xs.length (fun n s5 s6 wr => ∃ (k : Nat) (g : Option Nat), s6 = .int .i64 k ∧ k ≤ xs.length ∧ Hid (n = xs.length - k) ∧ Hid (own wr w.heap.size g s5 (remP (xs.take k) p)) ∧ Below w.heap.size w wr)
  case atStart => exact ⟨0, none, rfl, by omega, rfl, ⟨rfl, _, rfl⟩, Below.refl _ _⟩
  case round =>
    obtain ⟨k, g, rfl, hk, hn, ho, hbl⟩ := hrel
    by_cases hlt : k < xs.length
    · have hlti : (k : Int) < (xs.length : Int) := by omega
      obtain ⟨b, o, rfl, hcl⟩ := HC.out k hlt
      have hc0 := hcl k hlt
      have hci := (hbl.cell (block_lt_of_cell hc0)).trans hc0
      have HLE : Hid ((remP (xs.take k) p).length ≤ 50000) := by
        have h1 : (remP (xs.take k) p).length ≤ (xs.take k).length := List.length_filter_le _ _
        show _ ≤ _
        rw [List.length_take] at h1; omega
      obtain ⟨y, hy⟩ : ∃ y, y = xs.getD k 0 := ⟨_, rfl⟩
      have HST : Hid (remP (xs.take (k + 1)) p = if y = p then remP (xs.take k) p else remP (xs.take k) p ++ [y]) := by rw [hy]; show _ = _; rw [take_snoc hlt, remP_snoc]
      rw [← hy] at hc0 hci
      obtain ⟨ao, no, co, rfl⟩ := ho.out.form
      clear hcl hy
      by_cases he : y = p
      · have hd : (y != p) = false := by simpa using he
        have HS : Hid (remP (xs.take (k + 1)) p = remP (xs.take k) p) := by show _ = _; rw [HST.out, if_pos he]
        clear he HST
        go_wp2_with fail
        go_roundg (xs.length - (k + 1))
        case rel => exact ⟨k + 1, g, by go_num, by omega, rfl, by
          show own _ _ _ _ _
          rw [HS.out]; exact ho.out, hbl⟩
        case measure => have := hn.out; omega
      · have hd : (y != p) = true := by simpa using he
        have HS : Hid (remP (xs.take (k + 1)) p = remP (xs.take k) p ++ [y]) := by show _ = _; rw [HST.out, if_neg he]
        clear he HST
        obtain ⟨w0, hw0⟩ : ∃ w0, w0 = wr.alloc (.cells #[.int .i64 y] 3) := ⟨_, rfl⟩
        have hbel0 : Below wr.heap.size wr w0 := by rw [hw0]; exact (Below.refl _ wr).alloc (Nat.le_refl _) _
        have HO0 : Hid (own w0 w.heap.size g (.slice ao no co) (remP (xs.take k) p)) := ho.out.keeps (P := fun _ => False) (Keeps.of_below hbel0) (fun _ _ => id)
        have HC0 : Hid (w0.cell? ⟨wr.heap.size, 0, none⟩ = some (.int .i64 y)) := by show _ = _; rw [hw0, cell_of_block (heap_alloc_new wr _)]; simp
        have hb0 : Below w.heap.size w w0 := hbl.trans (hbel0.mono hbl.size)
        have hs0 := hb0.size
        have HW0 := Lib.hid hw0; clear hw0
        go_wp2_with (at_builtin; rw [← HW0.out]; refine wpList_push rfl _ _ rfl w.heap.size g _ _ rfl HO0.out _ _ y rfl HC0.out (by have := HLE.out; omega) (by omega) ?_; intro a1 n1 c1 g1 w1 ho1 hn1 hk1 hg1; have HO1 := Lib.hid ho1; have hb1 := hk1.low hb0 fun k hk e => (by have := HO0.out; rw [e] at this; have := this.lt; omega); clear ho1 hn1 hk1 hg1)
        go_roundg (xs.length - (k + 1))
        case rel => exact ⟨k + 1, g1, by go_num, by omega, rfl, by
          show own _ _ _ _ _
          rw [HS.out]; exact HO1.out, hb1⟩
        case measure => have := hn.out; omega
    · have HN : Hid (remP xs p = remP (xs.take k) p) := by show _ = _; rw [List.take_of_length_le (by omega)]
      go_wp2_with fail
      go_ret
      exact ⟨_, g, rfl, by rw [HN.out]; exact ho.out, hbl⟩

/-- blocks that may turn: those of g, and new ones -/
abbrev KP (w : World) (g : Option Nat) : Nat → Prop := fun k => g = some k ∨ w.heap.size ≤ k
theorem Keeps.old {w w' : World} {g : Option Nat} (h : Keeps (KP w g) w w') : Keeps (fun k => g = some k) w w' := h.mono fun k hk h1 => h1.elim id fun h2 => by omega

/-- what activate hands back -/
def CAct (base n0 : Nat) (gi : Option Nat) (vg : Value) (bd : Int) (I2 A2 : List Int) (w : World) (e : Ending) (w' : World) : Prop :=
  ∃ vi' va' gi' ga', e = .returned (cv vi' va' vg bd) ∧ own w' base gi' vi' I2 ∧ own w' n0 ga' va' A2 ∧ (∀ b, gi' = some b → ga' ≠ some b) ∧ Keeps (fun k => gi = some k) w w' ∧ (∀ b, gi' = some b → gi = some b ∨ w.heap.size ≤ b)
theorem CAct.intro {base n0 : Nat} {gi : Option Nat} {vg : Value} {bd : Int} {I2 A2 : List Int} {w : World} {e : Ending} {w' : World} (vi' va' : Value) (gi' ga' : Option Nat) (h0 : e = .returned (cv vi' va' vg bd)) (h1 : own w' base gi' vi' I2) (h2 : own w' n0 ga' va' A2) (h3 : ∀ b, gi' = some b → ga' ≠ some b) (h4 : Keeps (fun k => gi = some k) w w') (h5 : ∀ b, gi' = some b → gi = some b ∨ w.heap.size ≤ b) : CAct base n0 gi vg bd I2 A2 w e w' := ⟨vi', va', gi', ga', h0, h1, h2, h3, h4, h5⟩
/-- what evict hands back -/
def CEv (base : Nat) (gi ga gg : Option Nat) (bd : Int) (I2 A2 G2 : List Int) (w : World) (e : Ending) (w' : World) : Prop :=
  ∃ vi' va' vg' gi' ga' gg', e = .returned (cv vi' va' vg' bd) ∧ own w' base gi' vi' I2 ∧ own w' base ga' va' A2 ∧ own w' base gg' vg' G2 ∧ Keeps (fun k => gg = some k) w w' ∧ (∀ b, gi' = some b → gi = some b) ∧ (∀ b, ga' = some b → ga = some b) ∧ (∀ b, gg' = some b → gg = some b ∨ w.heap.size ≤ b)
theorem CEv.intro {base : Nat} {gi ga gg : Option Nat} {bd : Int} {I2 A2 G2 : List Int} {w : World} {e : Ending} {w' : World} (vi' va' vg' : Value) (gi' ga' gg' : Option Nat) (h0 : e = .returned (cv vi' va' vg' bd)) (h1 : own w' base gi' vi' I2) (h2 : own w' base ga' va' A2) (h3 : own w' base gg' vg' G2) (h4 : Keeps (fun k => gg = some k) w w') (h5 : ∀ b, gi' = some b → gi = some b) (h6 : ∀ b, ga' = some b → ga = some b) (h7 : ∀ b, gg' = some b → gg = some b ∨ w.heap.size ≤ b) : CEv base gi ga gg bd I2 A2 G2 w e w' := ⟨vi', va', vg', gi', ga', gg', h0, h1, h2, h3, h4, h5, h6, h7⟩

set_option maxRecDepth 100000 in
set_option maxHeartbeats 4000000 in
theorem cactivate_any (w : World) (base : Nat) (vi va vg : Value) (gi : Option Nat) (I A : List Int) (bd p : Int) (hi : own w base gi vi I) (ha : rd w va A) (h3 : isSl vg) (hp : fits p) (hl : I.length ≤ 50000 ∧ A.length ≤ 50000) (hb : 0 ≤ bd ∧ bd ≤ 50000) (hbase : base ≤ w.heap.size) (hpA : p ∉ A) :
    Calls Try.prog 37 #[cv vi va vg bd, .int .i64 p] w (CAct base w.heap.size gi vg bd (actI I A bd p) (actA A bd p) w) := by
  obtain ⟨hl1, hl2⟩ := hl
  obtain ⟨hb1, hb2⟩ := hb
  have HPA : Hid (remP A p = A) := remP_id hpA
  have HS3 := Lib.hid h3
  obtain ⟨wa, hwa⟩ : ∃ wa, wa = (w.alloc (.cells #[vi, va, vg, .int .i64 bd] 58)).alloc (.cells #[.slice none 0 0, .slice none 0 0, .slice none 0 0, .int .i64 0] 58) := ⟨_, rfl⟩
  have hba : Below w.heap.size w wa := by rw [hwa]; exact ((Below.refl _ w).alloc (Nat.le_refl _) _).alloc (by simp) _
  have HBX : Hid (boxC wa w.heap.size vi va vg bd) := by
    show boxC _ _ _ _ _ _
    rw [hwa]; exact (heap_alloc_old _ _ (by simp)).trans (heap_alloc_new w _)
  have HBR : Hid (boxC wa (w.heap.size + 1) (.slice none 0 0) (.slice none 0 0) (.slice none 0 0) 0) := by
    show boxC _ _ _ _ _ _
    have := heap_alloc_new (w.alloc (.cells #[vi, va, vg, .int .i64 bd] 58)) (.cells #[.slice none 0 0, .slice none 0 0, .slice none 0 0, .int .i64 0] 58)
    rw [World.size_alloc] at this
    rw [hwa]; exact this
  have hsa : wa.heap.size = w.heap.size + 1 + 1 := by rw [hwa]; simp
  have HI : Hid (own wa base gi vi I) := hi.keeps (P := fun _ => False) (Keeps.of_below hba) (fun _ _ => id)
  have hilt : ∀ b, gi = some b → base ≤ b ∧ b < w.heap.size := fun b hb => by rw [hb] at hi; exact hi.lt
  have HIL := Lib.hid hilt
  have HA : Hid (Go.Proofs.Ytbalmmaoiebppaa.rd wa va A) := ha.below hba
  have HWA := Lib.hid hwa
  clear hi ha hpA h3 hwa hilt
  go_enter Try.func37, Try.ntmps37
  go_upto_region 1 with fail
  rw [← HWA.out]
  obtain ⟨x0, x1, x2, x3, xf⟩ := HBX.out.cells
  have xf1 := xf 1
  clear xf
  go_upto_region 2 with (first | (go_at_call 36; refine (without_any va A p wa HA.out hp hl2).mono ?_; rintro e w1 ⟨v1, g1, rfl, ho1, hb1⟩; rw [HPA.out] at ho1; (obtain ⟨a1, n1, c1, rfl⟩ := ho1.form); (obtain rfl := own_len ho1); (obtain ⟨w2, hw2⟩ : ∃ w2, w2 = w1.alloc (.cells #[.int .i64 p] 3) := ⟨_, rfl⟩); have hbel2 : Below w1.heap.size w1 w2 := (by rw [hw2]; exact (Below.refl _ w1).alloc (Nat.le_refl _) _); have HO2 : Hid (own w2 wa.heap.size g1 (.slice a1 A.length c1) A) := ho1.keeps (P := fun _ => False) (Keeps.of_below hbel2) (fun _ _ => id); have HC2 : Hid (w2.cell? ⟨w1.heap.size, 0, none⟩ = some (.int .i64 p)) := (by show _ = _; rw [hw2, cell_of_block (heap_alloc_new w1 _)]; simp); have hb2' : Below wa.heap.size wa w2 := hb1.trans (hbel2.mono hb1.size); have hs2 := hb2'.size; have HW2 := Lib.hid hw2; clear hw2 ho1 hb1 hbel2) | (at_builtin; rw [← HW2.out]; refine wpList_push rfl _ _ rfl wa.heap.size g1 _ A rfl HO2.out _ _ p rfl HC2.out (by omega) (by omega) ?_; intro a3 n3 c3 g3 w3 ho3 hn3 hk3 hg3; subst hn3; have HO3 := Lib.hid ho3; have hb3 := hk3.low hb2' (fun k hk e => (by have := HO2.out; rw [e] at this; have := this.lt; omega)); (obtain ⟨y0, y1, y2, y3, yf⟩ := (HBX.out.keeps (P := fun _ => False) (Keeps.of_below hb3) id).cells); have yf1 := yf 1; clear ho3 hk3 hg3 yf))
  clear x0 x1 x2 x3 xf1
  have hset3 := setCell_keeps w3 w.heap.size 1 (.slice a3 (A.length + 1) c3)
  have HBX4 : Hid (boxC (w3.setCell ⟨w.heap.size, 1, none⟩ (.slice a3 (A.length + 1) c3)) w.heap.size vi (.slice a3 (A.length + 1) c3) vg bd) := (HBX.out.keeps (P := fun _ => False) (Keeps.of_below hb3) id).setA
  have HBR4 : Hid (boxC (w3.setCell ⟨w.heap.size, 1, none⟩ (.slice a3 (A.length + 1) c3)) (w.heap.size + 1) (.slice none 0 0) (.slice none 0 0) (.slice none 0 0) 0) := (HBR.out.keeps (P := fun _ => False) (Keeps.of_below hb3) id).keeps hset3 (by omega)
  have HO4 : Hid (own (w3.setCell ⟨w.heap.size, 1, none⟩ (.slice a3 (A.length + 1) c3)) wa.heap.size g3 (.slice a3 (A.length + 1) c3) (A ++ [p])) := HO3.out.keeps hset3 fun b hb e => by have := HO3.out; rw [hb] at this; have := this.lt; omega
  have HI4 : Hid (own (w3.setCell ⟨w.heap.size, 1, none⟩ (.slice a3 (A.length + 1) c3)) base gi vi I) := (HI.out.keeps (P := fun _ => False) (Keeps.of_below hb3) (fun _ _ => id)).keeps hset3 fun b hb e => by have := HIL.out b hb; omega
  have HK4 : Hid (Keeps (KP w gi) w (w3.setCell ⟨w.heap.size, 1, none⟩ (.slice a3 (A.length + 1) c3))) := (Keeps.of_below hba).trans ((Keeps.of_below hb3).trans (hset3.mono fun k _ hk => .inr (by omega)))
  have hs3 := hb3.size
  have hs4 : w3.heap.size ≤ (w3.setCell ⟨w.heap.size, 1, none⟩ (.slice a3 (A.length + 1) c3)).heap.size := hset3.size
  generalize w3.setCell ⟨w.heap.size, 1, none⟩ (.slice a3 (A.length + 1) c3) = w4 at *
  clear y0 y1 y2 y3 yf1 hset3
  have hne : A ++ [p] ≠ [] := by simp
  obtain ⟨b, o, c, hg, hv, hcell⟩ := HO4.out.head hne
  have hlen : (A ++ [p]).length = A.length + 1 := by simp
  rw [hlen] at hv
  injection hv with hv1 _ hv3
  subst hv1 hv3
  obtain ⟨d0, d1, d2, d3, df⟩ := HBX4.out.cells
  have f0 := df 0
  have f1 := df 1
  obtain ⟨x, hx⟩ : ∃ x, x = (A ++ [p]).headD 0 := ⟨_, rfl⟩
  rw [← hx] at hcell
  have HX := Lib.hid hx
  have HG := Lib.hid hg
  clear hne hx hg df hlen
  by_cases hbd : bd < (A.length : Int) + 1
  · have hgt : decide ((A.length : Int) + 1 > bd) = true := by simpa using hbd
    have HAC : Hid (actI I A bd p = I ++ [x] ∧ actA A bd p = (A ++ [p]).tail) := by
      have e : bd < ((A ++ [p]).length : Int) := by simp; omega
      exact ⟨by unfold actI; rw [if_pos e, HX.out], by unfold actA; rw [if_pos e]⟩
    go_upto_region 3 with fail
    obtain ⟨wx, hwx⟩ : ∃ wx, wx = (w4.alloc (.cells #[.int .i64 x] 3)).drew := ⟨_, rfl⟩
    have hbx : Below w4.heap.size w4 wx := by rw [hwx]; exact ((Below.refl _ w4).alloc (Nat.le_refl _) _).drew
    have HOI : Hid (own wx base gi vi I) := HI4.out.keeps (P := fun _ => False) (Keeps.of_below hbx) (fun _ _ => id)
    have HBXx : Hid (boxC wx w.heap.size vi (.slice (some ⟨b, o, none⟩) (A.length + 1) c3) vg bd) := HBX4.out.keeps (P := fun _ => False) (Keeps.of_below hbx) id
    have HCX : Hid (wx.cell? ⟨w4.heap.size, 0, none⟩ = some (.int .i64 x)) := by show _ = _; rw [hwx]; exact (cell_of_block (b := w4.heap.size) (heap_alloc_new w4 _) 0).trans (by simp)
    have hszx : w4.heap.size ≤ wx.heap.size := hbx.size
    have c0x : (w4.alloc (.cells #[.int .i64 x] 3)).cell? ⟨w.heap.size, 0, none⟩ = some vi := by
      have h1 : wx.cell? ⟨w.heap.size, 0, none⟩ = some vi := by rw [cell_of_block HBXx.out]; simp
      rw [hwx] at h1; exact h1
    have HWX := Lib.hid hwx; clear hwx
    go_region_law (rw [← HWX.out]; refine step_push rfl (.tmp 20) (.tmp 25) rfl base gi vi I (by simp [Act.eval, Act.put]) HOI.out w4.heap.size 1 x (by simp [Act.eval, Act.put]) HCX.out (by omega) (by omega) ?_; intro a5 n5 c5 g5 w5 ho5 hn5 hk5 hg5; subst hn5; have HO5 := Lib.hid ho5; have HK5 := Lib.hid hk5; have HG5 := Lib.hid hg5; (obtain ⟨e0, e1, e2, e3, ef⟩ := (HBXx.out.keeps hk5 (fun e => by have := HIL.out _ e; omega)).cells); have ef0 := ef 0; clear ho5 hk5 hg5 ef)
    all_goals
      have hset5 := setCell_keeps w5 w.heap.size 0 (.slice a5 (I.length + 1) c5)
      have HBX6 : Hid (boxC (w5.setCell ⟨w.heap.size, 0, none⟩ (.slice a5 (I.length + 1) c5)) w.heap.size (.slice a5 (I.length + 1) c5) (.slice (some ⟨b, o, none⟩) (A.length + 1) c3) vg bd) := (HBXx.out.keeps HK5.out (fun e => by have := HIL.out _ e; omega)).setI
      have HBR6 : Hid (boxC (w5.setCell ⟨w.heap.size, 0, none⟩ (.slice a5 (I.length + 1) c5)) (w.heap.size + 1) (.slice none 0 0) (.slice none 0 0) (.slice none 0 0) 0) := ((HBR4.out.keeps (P := fun _ => False) (Keeps.of_below hbx) id).keeps HK5.out (fun e => by have := HIL.out _ e; omega)).keeps hset5 (by omega)
      have HO6 : Hid (own (w5.setCell ⟨w.heap.size, 0, none⟩ (.slice a5 (I.length + 1) c5)) wa.heap.size g3 (.slice (some ⟨b, o, none⟩) (A.length + 1) c3) (A ++ [p])) := ((HO4.out.keeps (P := fun _ => False) (Keeps.of_below hbx) (fun _ _ => id)).keeps HK5.out (fun b' hb' e => by have h1 := HIL.out _ e; have := HO4.out; rw [hb'] at this; have := this.lt; omega)).keeps hset5 (fun b' hb' e => by have := HO4.out; rw [hb'] at this; have := this.lt; omega)
      have HI6 : Hid (own (w5.setCell ⟨w.heap.size, 0, none⟩ (.slice a5 (I.length + 1) c5)) base g5 (.slice a5 (I.length + 1) c5) (I ++ [x])) := HO5.out.keeps hset5 fun b' hb' e => by
        rcases HG5.out b' hb' with h1 | h1
        · have := HIL.out _ h1; omega
        · omega
      have HK6 : Hid (Keeps (KP w gi) w (w5.setCell ⟨w.heap.size, 0, none⟩ (.slice a5 (I.length + 1) c5))) := HK4.out.trans ((Keeps.of_below hbx).trans ((HK5.out.mono fun k _ hk => .inl hk).trans (hset5.mono fun k _ hk => .inr (by omega))))
      generalize w5.setCell ⟨w.heap.size, 0, none⟩ (.slice a5 (I.length + 1) c5) = w6 at *
      clear d0 d1 d2 d3 f0 f1 e0 e1 e2 e3 ef0 hset5 c0x hcell
      obtain ⟨a', n', c', g', hrun, ho, -, hg'⟩ := run_tail w6 wa.heap.size g3 _ (A ++ [p]) HO6.out (by simp)
      obtain ⟨d0, d1, d2, d3, df⟩ := HBX6.out.cells
      have f1 := df 1
      have HO7 := Lib.hid ho
      have HG7 := Lib.hid hg'
      clear df ho hg'
      go_upto_region 5 with fail
      have hset7 := setCell_keeps w6 w.heap.size 1 (.slice a' n' c')
      have HBX8 : Hid (boxC (w6.setCell ⟨w.heap.size, 1, none⟩ (.slice a' n' c')) w.heap.size (.slice a5 (I.length + 1) c5) (.slice a' n' c') vg bd) := HBX6.out.setA
      have HBR8 : Hid (boxC (w6.setCell ⟨w.heap.size, 1, none⟩ (.slice a' n' c')) (w.heap.size + 1) (.slice none 0 0) (.slice none 0 0) (.slice none 0 0) 0) := HBR6.out.keeps hset7 (by omega)
      have HO8 : Hid (own (w6.setCell ⟨w.heap.size, 1, none⟩ (.slice a' n' c')) wa.heap.size g' (.slice a' n' c') (A ++ [p]).tail) := HO7.out.keeps hset7 fun b' hb' e => by have := HO7.out; rw [hb'] at this; have := this.lt; omega
      have HI8 : Hid (own (w6.setCell ⟨w.heap.size, 1, none⟩ (.slice a' n' c')) base g5 (.slice a5 (I.length + 1) c5) (I ++ [x])) := HI6.out.keeps hset7 fun b' hb' e => by
        rcases HG5.out b' hb' with h1 | h1
        · have := HIL.out _ h1; omega
        · omega
      have HK8 : Hid (Keeps (KP w gi) w (w6.setCell ⟨w.heap.size, 1, none⟩ (.slice a' n' c'))) := HK6.out.trans (hset7.mono fun k _ hk => .inr (by omega))
      generalize w6.setCell ⟨w.heap.size, 1, none⟩ (.slice a' n' c') = w8 at *
      clear d0 d1 d2 d3 f1 hrun hset7
      go_wp2_with (first | (refine load_cache rfl (.tmp 2) rfl w.heap.size _ _ vg bd rfl HBX8.out ?_) | (refine store_cache rfl (.tmp 4) (.tmp 32) rfl (w.heap.size + 1) (.slice none 0 0) (.slice none 0 0) (.slice none 0 0) 0 _ _ vg bd rfl rfl HBR8.out ⟨_, _, _, rfl⟩ ⟨_, _, _, rfl⟩ HS3.out ?_; intro w9 hbx9 hk9))
      refine bodyPost_ret (results_cache rfl _ _ (w.heap.size + 1) _ _ vg bd rfl hbx9) rfl (CAct.intro _ _ g5 g' rfl ?_ ?_ ?_ (HK8.out.trans (hk9.mono fun k _ hk => .inr (by omega))).old fun b' hb' => (HG5.out b' hb').imp id fun h => by omega)
      · rw [HAC.out.1]
        exact HI8.out.keeps hk9 fun b' hb' e => by
          rcases HG5.out b' hb' with h1 | h1
          · have := HIL.out _ h1; omega
          · omega
      · rw [HAC.out.2]
        exact (HO8.out.keeps hk9 fun b' hb' e => by have := HO8.out; rw [hb'] at this; have := this.lt; omega).base_le (by omega)
      · intro b' hb' e
        have h2 := HG7.out _ e
        have h3 := HO4.out
        rw [h2] at h3
        rcases HG5.out b' hb' with h1 | h1
        · have := HIL.out _ h1; have := h3.lt; omega
        · have := h3.lt; omega
  · have hgt : decide ((A.length : Int) + 1 > bd) = false := by simpa using hbd
    have HAC : Hid (actI I A bd p = I ∧ actA A bd p = A ++ [p]) := by
      have e : ¬ bd < ((A ++ [p]).length : Int) := by simp; omega
      exact ⟨by unfold actI; rw [if_neg e], by unfold actA; rw [if_neg e]⟩
    go_wp2_with (first | (refine load_cache rfl (.tmp 2) rfl w.heap.size _ _ vg bd rfl HBX4.out ?_) | (refine store_cache rfl (.tmp 4) (.tmp 32) rfl (w.heap.size + 1) (.slice none 0 0) (.slice none 0 0) (.slice none 0 0) 0 _ _ vg bd rfl rfl HBR4.out HI4.out.form ⟨_, _, _, rfl⟩ HS3.out ?_; intro w9 hbx9 hk9))
    refine bodyPost_ret (results_cache rfl _ _ (w.heap.size + 1) _ _ vg bd rfl hbx9) rfl (CAct.intro _ _ gi g3 rfl ?_ ?_ ?_ (HK4.out.trans (hk9.mono fun k _ hk => .inr (by omega))).old (fun b' hb' => .inl hb'))
    · rw [HAC.out.1]
      exact HI4.out.keeps hk9 fun b' hb' e => by have := HIL.out _ hb'; omega
    · rw [HAC.out.2]
      exact (HO4.out.keeps hk9 fun b' hb' e => by have := HO4.out; rw [hb'] at this; have := this.lt; omega).base_le (by omega)
    · intro b' hb' e
      have h3 := HO4.out
      rw [e] at h3
      have := HIL.out _ hb'
      have := h3.lt
      omega

set_option maxRecDepth 100000 in
set_option maxHeartbeats 4000000 in
theorem cevict_any (w : World) (base : Nat) (vi va vg : Value) (gi ga gg : Option Nat) (I A g : List Int) (bd : Int) (hi : own w base gi vi I) (ha : own w base ga va A) (hgn : own w base gg vg g) (hne : I ≠ [] ∨ A ≠ []) (hl : I.length ≤ 50000 ∧ A.length ≤ 50000 ∧ g.length ≤ 50000) (hbase : base ≤ w.heap.size)
    (hig : ∀ b, gi = some b → gg ≠ some b) (hag : ∀ b, ga = some b → gg ≠ some b) :
    Calls Try.prog 38 #[cv vi va vg bd] w (CEv base gi ga gg bd (evI I) (evA I A) (g ++ [evP I A]) w) := by
  obtain ⟨hl1, hl2, hl3⟩ := hl
  have hfi := hi.form
  have hfa := ha.form
  have hfg := hgn.form
  obtain ⟨wa, hwa⟩ : ∃ wa, wa = (w.alloc (.cells #[vi, va, vg, .int .i64 bd] 58)).alloc (.cells #[.slice none 0 0, .slice none 0 0, .slice none 0 0, .int .i64 0] 58) := ⟨_, rfl⟩
  have hba : Below w.heap.size w wa := by rw [hwa]; exact ((Below.refl _ w).alloc (Nat.le_refl _) _).alloc (by simp) _
  have HBX : Hid (boxC wa w.heap.size vi va vg bd) := by
    show boxC _ _ _ _ _ _
    rw [hwa]; exact (heap_alloc_old _ _ (by simp)).trans (heap_alloc_new w _)
  have HBR : Hid (boxC wa (w.heap.size + 1) (.slice none 0 0) (.slice none 0 0) (.slice none 0 0) 0) := by
    show boxC _ _ _ _ _ _
    have := heap_alloc_new (w.alloc (.cells #[vi, va, vg, .int .i64 bd] 58)) (.cells #[.slice none 0 0, .slice none 0 0, .slice none 0 0, .int .i64 0] 58)
    rw [World.size_alloc] at this
    rw [hwa]; exact this
  have hsa : wa.heap.size = w.heap.size + 1 + 1 := by rw [hwa]; simp
  have HI : Hid (own wa base gi vi I) := hi.keeps (P := fun _ => False) (Keeps.of_below hba) (fun _ _ => id)
  have HA : Hid (own wa base ga va A) := ha.keeps (P := fun _ => False) (Keeps.of_below hba) (fun _ _ => id)
  have HGN : Hid (own wa base gg vg g) := hgn.keeps (P := fun _ => False) (Keeps.of_below hba) (fun _ _ => id)
  have HGL : Hid (∀ b, gg = some b → b < w.heap.size) := fun b hb => by rw [hb] at hgn; exact hgn.lt.2
  have HIL : Hid (∀ b, gi = some b → b < w.heap.size) := fun b hb => by rw [hb] at hi; exact hi.lt.2
  have HAL : Hid (∀ b, ga = some b → b < w.heap.size) := fun b hb => by rw [hb] at ha; exact ha.lt.2
  have HIG := Lib.hid hig
  have HAG := Lib.hid hag
  have HWA := Lib.hid hwa
  have HNE := Lib.hid hne
  have HFI := Lib.hid hfi
  have HFA := Lib.hid hfa
  have HFG := Lib.hid hfg
  obtain ⟨ai, ni, ci, rfl⟩ := hfi
  have HNI : Hid (ni = I.length) := own_len HI.out
  obtain ⟨aa, na, ca, rfl⟩ := hfa
  obtain rfl := own_len HA.out
  obtain ⟨x0, x1, x2, x3, xf⟩ := HBX.out.cells
  have xf0 := xf 0
  have xf1 := xf 1
  have xf2 := xf 2
  clear hi ha hgn hwa hig hag hne hfg xf
  by_cases hie : I = []
  · have hnA : A ≠ [] := by rcases HNE.out with h | h; exact absurd hie h; exact h
    have HE : Hid (evP I A = A.headD 0 ∧ evI I = I ∧ evA I A = A.tail) := ⟨by unfold evP; rw [if_pos hie], by unfold evI; rw [hie]; rfl, by unfold evA; rw [if_pos hie]⟩
    obtain rfl : ni = 0 := by rw [HNI.out, hie]; rfl
    obtain ⟨b, o, cs, -, hvs, hcell⟩ := HA.out.head hnA
    injection hvs with hv1 _ hv3
    subst hv1 hv3
    obtain ⟨x, hx⟩ : ∃ x, x = A.headD 0 := ⟨_, rfl⟩
    rw [← hx] at hcell
    have HX := Lib.hid hx
    have HNS := Lib.hid hnA
    have h0 : (0 : Int) < (A.length : Int) := by have := List.length_pos_iff.2 hnA; omega
    have h0n : 0 < A.length := by omega
    clear hx hie hnA
    obtain ⟨wx, hwx⟩ : ∃ wx, wx = (wa.alloc (.cells #[.int .i64 x] 3)).drew := ⟨_, rfl⟩
    have hbx : Below wa.heap.size wa wx := by rw [hwx]; exact ((Below.refl _ wa).alloc (Nat.le_refl _) _).drew
    have HOI : Hid (own wx base gg vg g) := HGN.out.keeps (P := fun _ => False) (Keeps.of_below hbx) (fun _ _ => id)
    have HBXx : Hid (boxC wx w.heap.size (.slice ai 0 ci) (.slice (some ⟨b, o, none⟩) A.length ca) vg bd) := HBX.out.keeps (P := fun _ => False) (Keeps.of_below hbx) id
    have HCX : Hid (wx.cell? ⟨wa.heap.size, 0, none⟩ = some (.int .i64 x)) := by show _ = _; rw [hwx]; exact (cell_of_block (b := wa.heap.size) (heap_alloc_new wa _) 0).trans (by simp)
    have hszx : wa.heap.size ≤ wx.heap.size := hbx.size
    have c2x : (wa.alloc (.cells #[.int .i64 x] 3)).cell? ⟨w.heap.size, 2, none⟩ = some vg := by
      have h1 : wx.cell? ⟨w.heap.size, 2, none⟩ = some vg := by rw [cell_of_block HBXx.out]; simp
      rw [hwx] at h1; exact h1
    have HWX := Lib.hid hwx; clear hwx
    go_enter Try.func38, Try.ntmps38
    go_upto_region 1 with fail
    rw [← HWA.out]
    go_upto_region 4 with fail
    go_region_law (rw [← HWX.out]; refine step_push rfl (.tmp 21) (.tmp 26) rfl base gg vg g (by simp [Act.eval, Act.put]) HOI.out wa.heap.size 1 x (by simp [Act.eval, Act.put]) HCX.out (by omega) (by omega) ?_; intro a5 n5 c5 g5 w5 ho5 hn5 hk5 hg5; subst hn5; have HO5 := Lib.hid ho5; have HK5 := Lib.hid hk5; have HG5 := Lib.hid hg5; (obtain ⟨e0, e1, e2, e3, ef⟩ := (HBXx.out.keeps hk5 (fun e => by have := HGL.out _ e; omega)).cells); have ef0 := ef 2; clear ho5 hk5 hg5 ef)
    all_goals
      have hset5 := setCell_keeps w5 w.heap.size 2 (.slice a5 (g.length + 1) c5)
      have HBX6 : Hid (boxC (w5.setCell ⟨w.heap.size, 2, none⟩ (.slice a5 (g.length + 1) c5)) w.heap.size (.slice ai 0 ci) (.slice (some ⟨b, o, none⟩) A.length ca) (.slice a5 (g.length + 1) c5) bd) := (HBXx.out.keeps HK5.out (fun e => by have := HGL.out _ e; omega)).setG
      have HBR6 : Hid (boxC (w5.setCell ⟨w.heap.size, 2, none⟩ (.slice a5 (g.length + 1) c5)) (w.heap.size + 1) (.slice none 0 0) (.slice none 0 0) (.slice none 0 0) 0) := ((HBR.out.keeps (P := fun _ => False) (Keeps.of_below hbx) id).keeps HK5.out (fun e => by have := HGL.out _ e; omega)).keeps hset5 (by omega)
      have HS6 : Hid (own (w5.setCell ⟨w.heap.size, 2, none⟩ (.slice a5 (g.length + 1) c5)) base ga (.slice (some ⟨b, o, none⟩) A.length ca) A) := ((HA.out.keeps (P := fun _ => False) (Keeps.of_below hbx) (fun _ _ => id)).keeps HK5.out (fun b' hb' e => HAG.out b' hb' e)).keeps hset5 (fun b' hb' e => by have := HAL.out _ hb'; omega)
      have HT6 : Hid (own (w5.setCell ⟨w.heap.size, 2, none⟩ (.slice a5 (g.length + 1) c5)) base gi (.slice ai 0 ci) I) := ((HI.out.keeps (P := fun _ => False) (Keeps.of_below hbx) (fun _ _ => id)).keeps HK5.out (fun b' hb' e => HIG.out b' hb' e)).keeps hset5 (fun b' hb' e => by have := HIL.out _ hb'; omega)
      have HG6 : Hid (own (w5.setCell ⟨w.heap.size, 2, none⟩ (.slice a5 (g.length + 1) c5)) base g5 (.slice a5 (g.length + 1) c5) (g ++ [x])) := HO5.out.keeps hset5 fun b' hb' e => by
        rcases HG5.out b' hb' with h1 | h1
        · have := HGL.out _ h1; omega
        · omega
      have HK6 : Hid (Keeps (KP w gg) w (w5.setCell ⟨w.heap.size, 2, none⟩ (.slice a5 (g.length + 1) c5))) := (Keeps.of_below hba).trans ((Keeps.of_below hbx).trans ((HK5.out.mono fun k _ hk => .inl hk).trans (hset5.mono fun k _ hk => .inr (by omega))))
      generalize w5.setCell ⟨w.heap.size, 2, none⟩ (.slice a5 (g.length + 1) c5) = w6 at *
      clear x0 x1 x2 x3 xf0 xf1 xf2 e0 e1 e2 e3 ef0 hset5 c2x hcell
      obtain ⟨a', n', c', g', hrun, ho, -, hg'⟩ := run_tail w6 base ga _ A HS6.out HNS.out
      obtain ⟨d0, d1, d2, d3, df⟩ := HBX6.out.cells
      have f0 := df 0
      have f1 := df 1
      have HO7 := Lib.hid ho
      have HG7 := Lib.hid hg'
      clear df ho hg'
      go_upto_region 6 with fail
      have hset7 := setCell_keeps w6 w.heap.size 1 (.slice a' n' c')
      have HBX8 : Hid (boxC (w6.setCell ⟨w.heap.size, 1, none⟩ (.slice a' n' c')) w.heap.size (.slice ai 0 ci) (.slice a' n' c') (.slice a5 (g.length + 1) c5) bd) := HBX6.out.setA
      have HBR8 : Hid (boxC (w6.setCell ⟨w.heap.size, 1, none⟩ (.slice a' n' c')) (w.heap.size + 1) (.slice none 0 0) (.slice none 0 0) (.slice none 0 0) 0) := HBR6.out.keeps hset7 (by omega)
      have HS8 : Hid (own (w6.setCell ⟨w.heap.size, 1, none⟩ (.slice a' n' c')) base g' (.slice a' n' c') A.tail) := HO7.out.keeps hset7 fun b' hb' e => by have := HAL.out _ (HG7.out _ hb'); omega
      have HT8 : Hid (own (w6.setCell ⟨w.heap.size, 1, none⟩ (.slice a' n' c')) base gi (.slice ai 0 ci) I) := HT6.out.keeps hset7 fun b' hb' e => by have := HIL.out _ hb'; omega
      have HG8 : Hid (own (w6.setCell ⟨w.heap.size, 1, none⟩ (.slice a' n' c')) base g5 (.slice a5 (g.length + 1) c5) (g ++ [x])) := HG6.out.keeps hset7 fun b' hb' e => by
        rcases HG5.out b' hb' with h1 | h1
        · have := HGL.out _ h1; omega
        · omega
      have HK8 : Hid (Keeps (KP w gg) w (w6.setCell ⟨w.heap.size, 1, none⟩ (.slice a' n' c'))) := HK6.out.trans (hset7.mono fun k _ hk => .inr (by omega))
      generalize w6.setCell ⟨w.heap.size, 1, none⟩ (.slice a' n' c') = w8 at *
      clear d0 d1 d2 d3 f0 f1 hrun hset7
      go_wp2_with (first | (refine load_cache rfl (.tmp 1) rfl w.heap.size _ _ _ bd rfl HBX8.out ?_) | (refine store_cache rfl (.tmp 2) (.tmp 33) rfl (w.heap.size + 1) (.slice none 0 0) (.slice none 0 0) (.slice none 0 0) 0 _ _ _ bd rfl rfl HBR8.out ⟨_, _, _, rfl⟩ ⟨_, _, _, rfl⟩ ⟨_, _, _, rfl⟩ ?_; intro w9 hbx9 hk9))
      refine bodyPost_ret (results_cache rfl _ _ (w.heap.size + 1) _ _ _ bd rfl hbx9) rfl (CEv.intro _ _ _ gi g' g5 rfl ?_ ?_ ?_ (HK8.out.trans (hk9.mono fun k _ hk => .inr (by omega))).old (fun b' hb' => hb') HG7.out fun b' hb' => (HG5.out b' hb').imp id fun h => by omega)
      · rw [HE.out.2.1]; exact HT8.out.keeps hk9 fun b' hb' e => by have := HIL.out _ hb'; omega
      · rw [HE.out.2.2]; exact HS8.out.keeps hk9 fun b' hb' e => by have := HAL.out _ (HG7.out _ hb'); omega
      · rw [HE.out.1, ← HX.out]
        exact HG8.out.keeps hk9 fun b' hb' e => by
          rcases HG5.out b' hb' with h1 | h1
          · have := HGL.out _ h1; omega
          · omega
  · have hnI : I ≠ [] := hie
    obtain rfl : ni = I.length := HNI.out
    have HE : Hid (evP I A = I.headD 0 ∧ evI I = I.tail ∧ evA I A = A) := ⟨by unfold evP; rw [if_neg hie], rfl, by unfold evA; rw [if_neg hie]⟩
    have hil0 : (0 : Int) < (I.length : Int) := by have := List.length_pos_iff.2 hnI; omega
    have hcond : decide ((I.length : Int) > 0) = true := by simp; omega
    obtain ⟨b, o, cs, -, hvs, hcell⟩ := HI.out.head hnI
    injection hvs with hv1 _ hv3
    subst hv1 hv3
    obtain ⟨x, hx⟩ : ∃ x, x = I.headD 0 := ⟨_, rfl⟩
    rw [← hx] at hcell
    have HX := Lib.hid hx
    have HNS := Lib.hid hnI
    have h0 : (0 : Int) < (I.length : Int) := by have := List.length_pos_iff.2 hnI; omega
    have h0n : 0 < I.length := by omega
    clear hx hie hnI
    obtain ⟨wx, hwx⟩ : ∃ wx, wx = (wa.alloc (.cells #[.int .i64 x] 3)).drew := ⟨_, rfl⟩
    have hbx : Below wa.heap.size wa wx := by rw [hwx]; exact ((Below.refl _ wa).alloc (Nat.le_refl _) _).drew
    have HOI : Hid (own wx base gg vg g) := HGN.out.keeps (P := fun _ => False) (Keeps.of_below hbx) (fun _ _ => id)
    have HBXx : Hid (boxC wx w.heap.size (.slice (some ⟨b, o, none⟩) I.length ci) (.slice aa A.length ca) vg bd) := HBX.out.keeps (P := fun _ => False) (Keeps.of_below hbx) id
    have HCX : Hid (wx.cell? ⟨wa.heap.size, 0, none⟩ = some (.int .i64 x)) := by show _ = _; rw [hwx]; exact (cell_of_block (b := wa.heap.size) (heap_alloc_new wa _) 0).trans (by simp)
    have hszx : wa.heap.size ≤ wx.heap.size := hbx.size
    have c2x : (wa.alloc (.cells #[.int .i64 x] 3)).cell? ⟨w.heap.size, 2, none⟩ = some vg := by
      have h1 : wx.cell? ⟨w.heap.size, 2, none⟩ = some vg := by rw [cell_of_block HBXx.out]; simp
      rw [hwx] at h1; exact h1
    have HWX := Lib.hid hwx; clear hwx
    go_enter Try.func38, Try.ntmps38
    go_upto_region 1 with fail
    rw [← HWA.out]
    go_upto_region 2 with fail
    go_region_law (rw [← HWX.out]; refine step_push rfl (.tmp 8) (.tmp 13) rfl base gg vg g (by simp [Act.eval, Act.put]) HOI.out wa.heap.size 1 x (by simp [Act.eval, Act.put]) HCX.out (by omega) (by omega) ?_; intro a5 n5 c5 g5 w5 ho5 hn5 hk5 hg5; subst hn5; have HO5 := Lib.hid ho5; have HK5 := Lib.hid hk5; have HG5 := Lib.hid hg5; (obtain ⟨e0, e1, e2, e3, ef⟩ := (HBXx.out.keeps hk5 (fun e => by have := HGL.out _ e; omega)).cells); have ef0 := ef 2; clear ho5 hk5 hg5 ef)
    all_goals
      have hset5 := setCell_keeps w5 w.heap.size 2 (.slice a5 (g.length + 1) c5)
      have HBX6 : Hid (boxC (w5.setCell ⟨w.heap.size, 2, none⟩ (.slice a5 (g.length + 1) c5)) w.heap.size (.slice (some ⟨b, o, none⟩) I.length ci) (.slice aa A.length ca) (.slice a5 (g.length + 1) c5) bd) := (HBXx.out.keeps HK5.out (fun e => by have := HGL.out _ e; omega)).setG
      have HBR6 : Hid (boxC (w5.setCell ⟨w.heap.size, 2, none⟩ (.slice a5 (g.length + 1) c5)) (w.heap.size + 1) (.slice none 0 0) (.slice none 0 0) (.slice none 0 0) 0) := ((HBR.out.keeps (P := fun _ => False) (Keeps.of_below hbx) id).keeps HK5.out (fun e => by have := HGL.out _ e; omega)).keeps hset5 (by omega)
      have HS6 : Hid (own (w5.setCell ⟨w.heap.size, 2, none⟩ (.slice a5 (g.length + 1) c5)) base gi (.slice (some ⟨b, o, none⟩) I.length ci) I) := ((HI.out.keeps (P := fun _ => False) (Keeps.of_below hbx) (fun _ _ => id)).keeps HK5.out (fun b' hb' e => HIG.out b' hb' e)).keeps hset5 (fun b' hb' e => by have := HIL.out _ hb'; omega)
      have HT6 : Hid (own (w5.setCell ⟨w.heap.size, 2, none⟩ (.slice a5 (g.length + 1) c5)) base ga (.slice aa A.length ca) A) := ((HA.out.keeps (P := fun _ => False) (Keeps.of_below hbx) (fun _ _ => id)).keeps HK5.out (fun b' hb' e => HAG.out b' hb' e)).keeps hset5 (fun b' hb' e => by have := HAL.out _ hb'; omega)
      have HG6 : Hid (own (w5.setCell ⟨w.heap.size, 2, none⟩ (.slice a5 (g.length + 1) c5)) base g5 (.slice a5 (g.length + 1) c5) (g ++ [x])) := HO5.out.keeps hset5 fun b' hb' e => by
        rcases HG5.out b' hb' with h1 | h1
        · have := HGL.out _ h1; omega
        · omega
      have HK6 : Hid (Keeps (KP w gg) w (w5.setCell ⟨w.heap.size, 2, none⟩ (.slice a5 (g.length + 1) c5))) := (Keeps.of_below hba).trans ((Keeps.of_below hbx).trans ((HK5.out.mono fun k _ hk => .inl hk).trans (hset5.mono fun k _ hk => .inr (by omega))))
      generalize w5.setCell ⟨w.heap.size, 2, none⟩ (.slice a5 (g.length + 1) c5) = w6 at *
      clear x0 x1 x2 x3 xf0 xf1 xf2 e0 e1 e2 e3 ef0 hset5 c2x hcell
      obtain ⟨a', n', c', g', hrun, ho, -, hg'⟩ := run_tail w6 base gi _ I HS6.out HNS.out
      obtain ⟨d0, d1, d2, d3, df⟩ := HBX6.out.cells
      have f0 := df 0
      have f1 := df 1
      have HO7 := Lib.hid ho
      have HG7 := Lib.hid hg'
      clear df ho hg'
      go_upto_region 6 with fail
      have hset7 := setCell_keeps w6 w.heap.size 0 (.slice a' n' c')
      have HBX8 : Hid (boxC (w6.setCell ⟨w.heap.size, 0, none⟩ (.slice a' n' c')) w.heap.size (.slice a' n' c') (.slice aa A.length ca) (.slice a5 (g.length + 1) c5) bd) := HBX6.out.setI
      have HBR8 : Hid (boxC (w6.setCell ⟨w.heap.size, 0, none⟩ (.slice a' n' c')) (w.heap.size + 1) (.slice none 0 0) (.slice none 0 0) (.slice none 0 0) 0) := HBR6.out.keeps hset7 (by omega)
      have HS8 : Hid (own (w6.setCell ⟨w.heap.size, 0, none⟩ (.slice a' n' c')) base g' (.slice a' n' c') I.tail) := HO7.out.keeps hset7 fun b' hb' e => by have := HIL.out _ (HG7.out _ hb'); omega
      have HT8 : Hid (own (w6.setCell ⟨w.heap.size, 0, none⟩ (.slice a' n' c')) base ga (.slice aa A.length ca) A) := HT6.out.keeps hset7 fun b' hb' e => by have := HAL.out _ hb'; omega
      have HG8 : Hid (own (w6.setCell ⟨w.heap.size, 0, none⟩ (.slice a' n' c')) base g5 (.slice a5 (g.length + 1) c5) (g ++ [x])) := HG6.out.keeps hset7 fun b' hb' e => by
        rcases HG5.out b' hb' with h1 | h1
        · have := HGL.out _ h1; omega
        · omega
      have HK8 : Hid (Keeps (KP w gg) w (w6.setCell ⟨w.heap.size, 0, none⟩ (.slice a' n' c'))) := HK6.out.trans (hset7.mono fun k _ hk => .inr (by omega))
      generalize w6.setCell ⟨w.heap.size, 0, none⟩ (.slice a' n' c') = w8 at *
      clear d0 d1 d2 d3 f0 f1 hrun hset7
      go_wp2_with (first | (refine load_cache rfl (.tmp 1) rfl w.heap.size _ _ _ bd rfl HBX8.out ?_) | (refine store_cache rfl (.tmp 2) (.tmp 33) rfl (w.heap.size + 1) (.slice none 0 0) (.slice none 0 0) (.slice none 0 0) 0 _ _ _ bd rfl rfl HBR8.out ⟨_, _, _, rfl⟩ ⟨_, _, _, rfl⟩ ⟨_, _, _, rfl⟩ ?_; intro w9 hbx9 hk9))
      refine bodyPost_ret (results_cache rfl _ _ (w.heap.size + 1) _ _ _ bd rfl hbx9) rfl (CEv.intro _ _ _ g' ga g5 rfl ?_ ?_ ?_ (HK8.out.trans (hk9.mono fun k _ hk => .inr (by omega))).old HG7.out (fun b' hb' => hb') fun b' hb' => (HG5.out b' hb').imp id fun h => by omega)
      · rw [HE.out.2.1]; exact HS8.out.keeps hk9 fun b' hb' e => by have := HIL.out _ (HG7.out _ hb'); omega
      · rw [HE.out.2.2]; exact HT8.out.keeps hk9 fun b' hb' e => by have := HAL.out _ hb'; omega
      · rw [HE.out.1, ← HX.out]
        exact HG8.out.keeps hk9 fun b' hb' e => by
          rcases HG5.out b' hb' with h1 | h1
          · have := HGL.out _ h1; omega
          · omega
end Go.Proofs.Ytbalmmaoiebppaa
