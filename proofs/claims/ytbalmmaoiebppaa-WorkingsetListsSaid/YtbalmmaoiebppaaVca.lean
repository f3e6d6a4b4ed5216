/- The reference's Lists: walked. Conditions: the numbers fit. -/
import Derived.Test.YtbalmmaoiebppaaVc
import Derived.Test.YtbalmmaoiebppaaVs
namespace Go.Proofs.Ytbalmmaoiebppaa
open Go.RowKit

/-- the memory of the reference's Lists -/
structure CM (w : World) (base B : Nat) (vi va vg vo : Value) (gi ga gg go : Option Nat) (I A g out : List Int) (bd : Int) : Prop where
  hB : base ≤ B
  box : boxC w B vi va vg bd
  oi : own w base gi vi I
  oa : own w base ga va A
  og : own w base gg vg g
  oo : own w base go vo out
  ia : ∀ b, gi = some b → ga ≠ some b
  ig : ∀ b, gi = some b → gg ≠ some b
  io : ∀ b, gi = some b → go ≠ some b
  ag : ∀ b, ga = some b → gg ≠ some b
  ao : ∀ b, ga = some b → go ≠ some b
  uo : ∀ b, gg = some b → go ≠ some b
section
variable {w w1 w2 : World} {base B : Nat} {vi va vg vo v' : Value} {gi ga gg go g' : Option Nat} {I A g out xs I2 A2 G2 : List Int} {bd : Int} {e : Ending}
theorem CM.ni (h : CM w base B vi va vg vo gi ga gg go I A g out bd) : gi ≠ some B := h.oi.ne_box h.box (by decide)
theorem CM.na (h : CM w base B vi va vg vo gi ga gg go I A g out bd) : ga ≠ some B := h.oa.ne_box h.box (by decide)
theorem CM.ng (h : CM w base B vi va vg vo gi ga gg go I A g out bd) : gg ≠ some B := h.og.ne_box h.box (by decide)
theorem CM.no (h : CM w base B vi va vg vo gi ga gg go I A g out bd) : go ≠ some B := h.oo.ne_box h.box (by decide)
theorem CM.below (h : CM w base B vi va vg vo gi ga gg go I A g out bd) (hb : Below w.heap.size w w1) : CM w1 base B vi va vg vo gi ga gg go I A g out bd :=
  ⟨h.hB, h.box.keeps (P := fun _ => False) (Keeps.of_below hb) id, h.oi.keeps (P := fun _ => False) (Keeps.of_below hb) (fun _ _ => id), h.oa.keeps (P := fun _ => False) (Keeps.of_below hb) (fun _ _ => id), h.og.keeps (P := fun _ => False) (Keeps.of_below hb) (fun _ _ => id), h.oo.keeps (P := fun _ => False) (Keeps.of_below hb) (fun _ _ => id), h.ia, h.ig, h.io, h.ag, h.ao, h.uo⟩
theorem CM.said (h : CM w base B vi va vg vo gi ga gg go I A g out bd) (hk : Keeps (fun k => go = some k) w w1) (ho : own w1 base g' v' xs) (hg : ∀ b, g' = some b → go = some b ∨ w.heap.size ≤ b) : CM w1 base B vi va vg v' gi ga gg g' I A g xs bd :=
  ⟨h.hB, h.box.keeps hk (fun e => h.no e), h.oi.keeps hk (fun b hb e => h.io b hb e), h.oa.keeps hk (fun b hb e => h.ao b hb e), h.og.keeps hk (fun b hb e => h.uo b hb e), ho, h.ia, h.ig, fun b hb e => h.oi.new hb (hg b e) (h.io b hb), h.ag, fun b hb e => h.oa.new hb (hg b e) (h.ao b hb), fun b hb e => h.og.new hb (hg b e) (h.uo b hb)⟩
theorem CM.setI (h : CM w base B vi va vg vo gi ga gg go I A g out bd) (hk : Keeps (fun k => gi = some k) w w1) (ho : own w1 base g' v' xs) (hg : ∀ b, g' = some b → gi = some b ∨ w.heap.size ≤ b) :
    CM (w1.setCell ⟨B, 0, none⟩ v') base B v' va vg vo g' ga gg go xs A g out bd ∧ Keeps (fun k => gi = some k ∨ k = B) w (w1.setCell ⟨B, 0, none⟩ v') := by
  have hs := setCell_keeps w1 B 0 v'
  have hBlt := lt_of_block h.box
  have hb1 : boxC w1 B vi va vg bd := h.box.keeps hk fun e => h.ni e
  have hgb : g' ≠ some B := fun e => (hg B e).elim h.ni fun h1 => by omega
  refine ⟨⟨h.hB, hb1.setI, ho.keeps hs fun b hb e => hgb (e ▸ hb), (h.oa.keeps hk fun b hb e => h.ia b e hb).keeps hs fun b hb e => h.na (e ▸ hb), (h.og.keeps hk fun b hb e => h.ig b e hb).keeps hs fun b hb e => h.ng (e ▸ hb), (h.oo.keeps hk fun b hb e => h.io b e hb).keeps hs fun b hb e => h.no (e ▸ hb), ?_, ?_, ?_, h.ag, h.ao, h.uo⟩, (hk.mono fun k _ hk => .inl hk).trans (hs.mono fun k _ hk => .inr hk)⟩
  · exact fun b hb e => h.oa.new e (hg b hb) fun e' => h.ia b e' e
  · exact fun b hb e => h.og.new e (hg b hb) fun e' => h.ig b e' e
  · exact fun b hb e => h.oo.new e (hg b hb) fun e' => h.io b e' e
/-- behind activate, its cache being stored in the place of the old one -/
theorem CM.act (h : CM w base B vi va vg vo gi ga gg go I A g out bd) (hbase : base ≤ w.heap.size) (hc : CAct base w.heap.size gi vg bd I2 A2 w e w1) : ∃ vi' va' gi' ga', e = .returned (cv vi' va' vg bd) ∧ boxC w1 B vi va vg bd ∧ isSl vi' ∧ isSl va' ∧ isSl vg ∧
    ∀ w2, boxC w2 B vi' va' vg bd → Keeps (· = B) w1 w2 → CM w2 base B vi' va' vg vo gi' ga' gg go I2 A2 g out bd ∧ Keeps (fun k => gi = some k ∨ k = B) w w2 := by
  obtain ⟨vi', va', gi', ga', he, h1, h2, h3, h4, h5⟩ := hc
  have hBlt := lt_of_block h.box
  have hgb : gi' ≠ some B := fun e => (h5 B e).elim h.ni fun h1 => by omega
  have hga : ∀ b, ga' = some b → w.heap.size ≤ b := fun b hb => by rw [hb] at h2; exact h2.lt.1
  refine ⟨vi', va', gi', ga', he, h.box.keeps h4 fun e => h.ni e, h1.form, h2.form, h.og.form, fun w2 hb2 hk2 => ⟨⟨h.hB, hb2, h1.keeps hk2 fun b hb e => hgb (e ▸ hb), (h2.keeps hk2 fun b hb e => by have := hga b hb; omega).base_le hbase, (h.og.keeps h4 fun b hb e => h.ig b e hb).keeps hk2 fun b hb e => h.ng (e ▸ hb), (h.oo.keeps h4 fun b hb e => h.io b e hb).keeps hk2 fun b hb e => h.no (e ▸ hb), h3, ?_, ?_, ?_, ?_, h.uo⟩, (h4.mono fun k _ hk => .inl hk).trans (hk2.mono fun k _ hk => .inr hk)⟩⟩
  · exact fun b hb e => h.og.new e (h5 b hb) fun e' => h.ig b e' e
  · exact fun b hb e => h.oo.new e (h5 b hb) fun e' => h.io b e' e
  · exact fun b hb e => h.og.new e (k := none) (.inr (hga b hb)) fun h => by cases h
  · exact fun b hb e => h.oo.new e (k := none) (.inr (hga b hb)) fun h => by cases h
/-- behind evict -/
theorem CM.ev (h : CM w base B vi va vg vo gi ga gg go I A g out bd) (hc : CEv base gi ga gg bd I2 A2 G2 w e w1) : ∃ vi' va' vg' gi' ga' gg', e = .returned (cv vi' va' vg' bd) ∧ boxC w1 B vi va vg bd ∧ isSl vi' ∧ isSl va' ∧ isSl vg' ∧
    ∀ w2, boxC w2 B vi' va' vg' bd → Keeps (· = B) w1 w2 → CM w2 base B vi' va' vg' vo gi' ga' gg' go I2 A2 G2 out bd ∧ Keeps (fun k => gg = some k ∨ k = B) w w2 := by
  obtain ⟨vi', va', vg', gi', ga', gg', he, h1, h2, h3, h4, h5, h6, h7⟩ := hc
  have hBlt := lt_of_block h.box
  have hgb : gg' ≠ some B := fun e => (h7 B e).elim h.ng fun h1 => by omega
  refine ⟨vi', va', vg', gi', ga', gg', he, h.box.keeps h4 fun e => h.ng e, h1.form, h2.form, h3.form, fun w2 hb2 hk2 => ⟨⟨h.hB, hb2, h1.keeps hk2 fun b hb e => h.ni (e ▸ h5 b hb), h2.keeps hk2 fun b hb e => h.na (e ▸ h6 b hb), h3.keeps hk2 fun b hb e => hgb (e ▸ hb), (h.oo.keeps h4 fun b hb e => h.uo b e hb).keeps hk2 fun b hb e => h.no (e ▸ hb), fun b hb e => h.ia b (h5 b hb) (h6 b e), ?_, fun b hb e => h.io b (h5 b hb) e, ?_, fun b hb e => h.ao b (h6 b hb) e, ?_⟩, (h4.mono fun k _ hk => .inl hk).trans (hk2.mono fun k _ hk => .inr hk)⟩⟩
  · exact fun b hb e => h.oi.new (h5 b hb) (h7 b e) fun e' => h.ig b (h5 b hb) e'
  · exact fun b hb e => h.oa.new (h6 b hb) (h7 b e) fun e' => h.ag b (h6 b hb) e'
  · exact fun b hb e => h.oo.new e (h7 b hb) fun e' => h.uo b e' e
theorem own.isSl {w : World} {base : Nat} {g : Option Nat} {v : Value} {xs : List Int} (h : own w base g v xs) : isSl v := h.form
theorem CM.low (h : CM w base B vi va vg vo gi ga gg go I A g out bd) : ∀ k, k < base → ¬ (gi = some k ∨ ga = some k ∨ gg = some k ∨ go = some k ∨ k = B) := fun k hk => by
  rintro (e | e | e | e | rfl)
  · have := h.oi; rw [e] at this; have := this.lt; omega
  · have := h.oa; rw [e] at this; have := this.lt; omega
  · have := h.og; rw [e] at this; have := this.lt; omega
  · have := h.oo; rw [e] at this; have := this.lt; omega
  · have := h.hB; omega
end

set_option maxRecDepth 100000 in
set_option maxHeartbeats 2000000 in
theorem rlists_any (v : Value) (xs : List Int) (s bd : Int) (w : World) (h : rd w v xs) (hx : ∀ x ∈ xs, fits x) (hs : fits s) (hbd : fits bd) :
    Calls Try.prog 20 #[v, .int .i64 s, .int .i64 bd] w fun e w' => ∃ v', e = .returned (.tuple #[v', .int .i64 (lsE xs.length s bd)]) ∧ Below w.heap.size w w' ∧ Go.Proofs.Ytbalmmaoiebppaa.rd w' v' (lsOut s bd xs) := by
  have hrd := Lib.hid h
  obtain ⟨a, c, rfl, hlen, hcell⟩ := h.split
  have HC := Lib.hid hcell
  clear h hcell
  obtain ⟨hbd1, hbd2⟩ := hbd
  by_cases he : chkE xs.length s = 0
  · have HE := Lib.hid he
    have hse : xs.length ≤ 10000 ∧ 1 ≤ s ∧ s ≤ 10000 := by
      unfold chkE at he
      split at he
      · omega
      · split at he <;> omega
    obtain ⟨hx1, hs1, hs2⟩ := hse
    have HX := Lib.hid hx
    clear hx he
    by_cases hbb : bd < 0 ∨ s < bd
    · have HL : Hid (lsE xs.length s bd = 2 ∧ lsOut s bd xs = []) := by
        have e : lsE xs.length s bd = 2 := by unfold lsE; rw [if_pos HE.out, if_pos hbb]
        exact ⟨e, by unfold lsOut; rw [if_neg (by rw [e]; decide)]⟩
      rcases (show bd < 0 ∨ (0 ≤ bd ∧ s < bd) by omega) with hb | ⟨hb, hb'⟩
      all_goals
        clear hbb
        go_enter Try.func20, Try.ntmps20
        go_wp2_with (go_at_call 27; refine (rsizes_any _ xs s _ hrd.out hs).mono ?_; rintro e w' ⟨rfl, hw'⟩; rw [hw', HE.out]; clear hw' w')
        go_ret2
        exact ⟨_, by rw [HL.out.1]; rfl, Below.refl _ _, by rw [HL.out.2]; exact .inl ⟨rfl, _, _, rfl⟩⟩
    · have hb0 : 0 ≤ bd := by omega
      have hbs : bd ≤ s := by omega
      have HL : Hid (lsE xs.length s bd = 0) := by show _ = _; unfold lsE; rw [if_pos HE.out, if_neg hbb]
      clear hbb
      go_enter Try.func20, Try.ntmps20
      go_upto_region 7 with (go_at_call 27; refine (rsizes_any _ xs s _ hrd.out hs).mono ?_; rintro e w' ⟨rfl, hw'⟩; rw [hw', HE.out]; clear hw' w')
      obtain ⟨w1, hw1⟩ : ∃ w1, w1 = w.alloc (.cells #[.slice none 0 0, .slice none 0 0, .slice none 0 0, .int .i64 bd] 58) := ⟨_, rfl⟩
      have hbs0 : Below w.heap.size w w1 := by rw [hw1]; exact (Below.refl _ w).alloc (Nat.le_refl _) _
      have hst : Hid (CM w1 w.heap.size w.heap.size (.slice none 0 0) (.slice none 0 0) (.slice none 0 0) (.slice none 0 0) none none none none [] [] [] [] bd) := by
        show CM _ _ _ _ _ _ _ _ _ _ _ _ _ _ _ _
        refine ⟨Nat.le_refl _, ?_, ⟨rfl, _, rfl⟩, ⟨rfl, _, rfl⟩, ⟨rfl, _, rfl⟩, ⟨rfl, _, rfl⟩, fun b hb => (by cases hb), fun b hb => (by cases hb), fun b hb => (by cases hb), fun b hb => (by cases hb), fun b hb => (by cases hb), fun b hb => (by cases hb)⟩
        show boxC _ _ _ _ _ _
        rw [hw1]; exact heap_alloc_new w _
      rw [← hw1]
      clear hw1
      go_wp2_with fail
      go_loopg [10, 11] xs.length (fun n s10 s11 wr => ∃ (k : Nat) (vi va vg : Value) (gi ga gg go : Option Nat), s11 = .int .i64 k ∧ k ≤ xs.length ∧ Hid (n = xs.length - k) ∧
        Hid (CM wr w.heap.size w.heap.size vi va vg s10 gi ga gg go (lsS s bd (xs.take k)).1 (lsS s bd (xs.take k)).2.1 (lsS s bd (xs.take k)).2.2.1 (lsS s bd (xs.take k)).2.2.2 bd) ∧ Below w.heap.size w wr)
      case atStart => exact ⟨0, _, _, _, none, none, none, none, rfl, by omega, rfl, hst, hbs0⟩
      case round =>
        obtain ⟨k, vi, va, vg, gi, ga, gg, go, rfl, hk, hn, hM, hbl⟩ := hrel
        clear hst hbs0
        by_cases hlt : k < xs.length
        · have hlti : (k : Int) < (xs.length : Int) := by omega
          obtain ⟨b, o, rfl, hcl⟩ := HC.out k hlt
          have hc0 := hcl k hlt
          have hci := (hbl.cell (block_lt_of_cell hc0)).trans hc0
          have HST : Hid (lsS s bd (xs.take (k + 1)) = lsStep s bd (lsS s bd (xs.take k)) (xs.getD k 0)) := lsS_step hlt
          obtain ⟨hinv, hlo⟩ := lsS_inv s bd hs1 hb0 (xs.take k)
          have hpf : fits (xs.getD k 0) := HX.out _ (by rw [getD_eq hlt]; exact List.getElem_mem hlt)
          have htl : (xs.take k).length = k := by rw [List.length_take]; omega
          rw [htl] at hinv hlo
          obtain ⟨p, hp⟩ : ∃ p, p = xs.getD k 0 := ⟨_, rfl⟩
          rw [← hp] at hci HST hpf
          generalize lsS s bd (xs.take k) = q at *
          obtain ⟨I, A, g, out⟩ := q
          simp only at hinv hlo hM
          have HINV := Lib.hid hinv
          have I4 : Hid (out.length = k) := hlo
          have j1 := hinv.few
          have j2 := hinv.gone
          have j3 := hinv.full
          have hj1 : I.length ≤ 10000 := by omega
          have hj2 : A.length ≤ 10000 := by omega
          have hj3 : g.length ≤ 10000 := by omega
          have J1 : Hid (I.length + A.length ≤ k ∧ g.length ≤ k ∧ ((I.length + A.length : Nat) : Int) ≤ s) := ⟨j1, j2, j3⟩
          clear hcl hc0 hp hinv hlo htl j1 j2 j3
          obtain ⟨ai, ni, ci, rfl⟩ := hM.out.oi.form
          obtain rfl := own_len hM.out.oi
          obtain ⟨aa, na, ca, rfl⟩ := hM.out.oa.form
          obtain rfl := own_len hM.out.oa
          obtain ⟨ag, ng, cg, rfl⟩ := hM.out.og.form
          obtain rfl := own_len hM.out.og
          obtain ⟨ao, no, co, rfl⟩ := hM.out.oo.form
          obtain rfl := own_len hM.out.oo
          obtain ⟨c0, c1, c2, c3, cf⟩ := hM.out.box.cells
          have f0 := cf 0
          clear cf
          by_cases hA : p ∈ A
          · have HCT : Hid (decide (0 ≤ Lib.idxOf A p) = true) := idx_in hA
            have hge := HCT.out
            have HS : Hid (lsS s bd (xs.take (k + 1)) = (I, A, g, out ++ [-1])) := by show _ = _; rw [HST.out]; unfold lsStep; rw [if_pos hA]
            clear hA HST
            obtain ⟨w0, hw0⟩ : ∃ w0, w0 = wr.alloc (.cells #[.int .i64 (-1)] 3) := ⟨_, rfl⟩
            have hbelw0 : Below wr.heap.size wr w0 := by rw [hw0]; exact (Below.refl _ wr).alloc (Nat.le_refl _) _
            have HMw0 := Lib.hid (hM.out.below hbelw0)
            have HCw0 : Hid (w0.cell? ⟨wr.heap.size, 0, none⟩ = some (.int .i64 (-1))) := by show _ = _; rw [hw0, cell_of_block (heap_alloc_new wr _)]; simp
            have hbw0 : Below w.heap.size w w0 := hbl.trans (hbelw0.mono hbl.size)
            have hsw0 := hbw0.size
            have HWw0 := Lib.hid hw0; clear hw0 hbelw0
            go_wp2_with (first | (go_at_call 28; with_reducible refine (has_any _ A p _ hM.out.oa.rd hpf).mono ?_; rintro e wv ⟨rfl, hwv⟩; rw [hwv]; clear hwv wv) | (at_builtin; rw [← HWw0.out]; refine wpList_push rfl _ _ rfl w.heap.size go _ out rfl HMw0.out.oo _ _ (-1) rfl HCw0.out (by have := I4.out; (try simp); omega) (by omega) ?_; intro a1 n1 c1' g1 w1 ho1 hn1 hk1 hg1; have HM1 := Lib.hid (HMw0.out.said hk1 ho1 (fun b hb => (hg1 b hb).imp id fun h => h.1)); have hb1 := hk1.low hbw0 fun k hk e => HMw0.out.low k hk (.inr (.inr (.inr (.inl e)))); (obtain ⟨d0, d1, d2, d3, df⟩ := HM1.out.box.cells); have df0 := df 0; clear ho1 hn1 hk1 hg1 df))
            go_roundg (xs.length - (k + 1))
            case rel => exact ⟨k + 1, _, _, _, _, _, _, _, by go_num, by omega, rfl, by
              show CM _ _ _ _ _ _ _ _ _ _ _ _ _ _ _ _
              rw [HS.out]; exact HM1.out, hb1⟩
            case measure => have := hn.out; omega
          · have hgA := idx_out hA
            have HA := Lib.hid hA
            clear hA
            by_cases hI : p ∈ I
            · have hgI := idx_in hI
              have HS : Hid (lsS s bd (xs.take (k + 1)) = (actI (remP I p) A bd p, actA A bd p, g, out ++ [-1])) := by show _ = _; rw [HST.out]; unfold lsStep; rw [if_neg HA.out, if_pos hI]
              have HRL : Hid ((remP I p).length ≤ 10000) := by
                have h1 : (remP I p).length ≤ I.length := List.length_filter_le _ _
                show _ ≤ _; omega
              have hrl := HRL.out
              clear hI HST
              obtain ⟨w0, hw0⟩ : ∃ w0, w0 = wr.alloc (.cells #[.int .i64 (-1)] 3) := ⟨_, rfl⟩
              have hbelw0 : Below wr.heap.size wr w0 := by rw [hw0]; exact (Below.refl _ wr).alloc (Nat.le_refl _) _
              have HMw0 := Lib.hid (hM.out.below hbelw0)
              have HCw0 : Hid (w0.cell? ⟨wr.heap.size, 0, none⟩ = some (.int .i64 (-1))) := by show _ = _; rw [hw0, cell_of_block (heap_alloc_new wr _)]; simp
              have hbw0 : Below w.heap.size w w0 := hbl.trans (hbelw0.mono hbl.size)
              have hsw0 := hbw0.size
              have HWw0 := Lib.hid hw0; clear hw0 hbelw0
              go_upto_region 16 with (first | (go_at_call 28; with_reducible refine (has_any _ A p _ hM.out.oa.rd hpf).mono ?_; rintro e wv ⟨rfl, hwv⟩; rw [hwv]; clear hwv wv) | (go_at_call 28; with_reducible refine (has_any _ I p _ hM.out.oi.rd hpf).mono ?_; rintro e wv ⟨rfl, hwv⟩; rw [hwv]; clear hwv wv) | (at_builtin; rw [← HWw0.out]; refine wpList_push rfl _ _ rfl w.heap.size go _ out rfl HMw0.out.oo _ _ (-1) rfl HCw0.out (by have := I4.out; (try simp); omega) (by omega) ?_; intro a1 n1 c1' g1 w1 ho1 hn1 hk1 hg1; have HM1 := Lib.hid (HMw0.out.said hk1 ho1 (fun b hb => (hg1 b hb).imp id fun h => h.1)); have hb1 := hk1.low hbw0 fun k hk e => HMw0.out.low k hk (.inr (.inr (.inr (.inl e)))); (obtain ⟨d0, d1, d2, d3, df⟩ := HM1.out.box.cells); have df0 := df 0; clear ho1 hn1 hk1 hg1 df))
              clear c0 c1 c2 c3 f0
              go_upto_region 17 with (go_at_call 36; with_reducible refine (without_any _ I p w1 HM1.out.oi.rd hpf (by omega)).mono ?_; rintro e w2 ⟨v2, g2, rfl, ho2, hb2⟩; (obtain ⟨a2, n2, c2, rfl⟩ := ho2.form); (obtain rfl := own_len ho2); have HO2 := Lib.hid ho2; have HB2 := Lib.hid hb2; have hbx2 := (HM1.out.below hb2).box; (obtain ⟨e0, e1, e2, e3, ef⟩ := hbx2.cells); have ef0 := ef 0; clear ho2 hb2 ef hbx2)
              obtain ⟨HM3, hk3⟩ := HM1.out.setI (Keeps.of_below HB2.out) (HO2.out.base_le (base' := w.heap.size) hb1.size) fun b hb => .inr (by have := HO2.out; rw [hb] at this; exact this.lt.1)
              have HM3 := Lib.hid HM3
              have hb3 : Below w.heap.size w (w2.setCell ⟨w.heap.size, 0, none⟩ (.slice a2 (remP I p).length c2)) := hk3.low hb1 fun k hk e => HM1.out.low k hk (e.elim .inl fun e => .inr (.inr (.inr (.inr e))))
              generalize w2.setCell ⟨w.heap.size, 0, none⟩ (.slice a2 (remP I p).length c2) = w3 at *
              clear d0 d1 d2 d3 df0 e0 e1 e2 e3 ef0 hk3
              have hb3s := hb3.size
              go_wp2_with (first | (refine load_cache rfl (.tmp 9) rfl w.heap.size _ _ _ bd rfl HM3.out.box ?_) | (go_at_call 37; with_reducible refine (cactivate_any w3 w.heap.size _ _ _ g2 (remP I p) A bd p HM3.out.oi HM3.out.oa.rd HM3.out.og.isSl hpf ⟨by omega, by omega⟩ ⟨by omega, by omega⟩ hb3s HA.out).mono ?_; intro e w4 hc; obtain ⟨vi4, va4, gi4, ga4, rfl, hbx4, s1, s2, s3, hnx⟩ := HM3.out.act hb3s hc; have HNX := Lib.hid hnx; clear hnx hc) | (refine store_cache rfl (.tmp 9) (.tmp 62) rfl w.heap.size _ _ _ bd vi4 va4 _ bd rfl rfl hbx4 s1 s2 s3 ?_; intro w5 hbx5 hk5; obtain ⟨hm5, hk5'⟩ := HNX.out w5 hbx5 hk5; have HM5 := Lib.hid hm5; have hb5 := hk5'.low hb3 (fun k hk e => HM3.out.low k hk (e.elim .inl fun e => .inr (.inr (.inr (.inr e))))); clear hbx5 hk5 hm5 hk5'))
              go_roundg (xs.length - (k + 1))
              case rel => exact ⟨k + 1, _, _, _, _, _, _, _, by go_num, by omega, rfl, by
                show CM _ _ _ _ _ _ _ _ _ _ _ _ _ _ _ _
                rw [HS.out]; exact HM5.out, hb5⟩
              case measure => have := hn.out; omega
            · have hgI := idx_out hI
              have HI := Lib.hid hI
              have HEV := evS_inv HINV.out hs1
              have HEV := Lib.hid HEV
              obtain ⟨d, hd⟩ : ∃ d, d = dst g p := ⟨_, rfl⟩
              have hdf := dst_fits g p (by omega)
              rw [← hd] at hdf
              obtain ⟨hdf1, hdf2⟩ := hdf
              have HD := Lib.hid hd
              clear hI hd
              obtain ⟨w0, hw0⟩ : ∃ w0, w0 = wr.alloc (.cells #[.int .i64 (d)] 3) := ⟨_, rfl⟩
              have hbelw0 : Below wr.heap.size wr w0 := by rw [hw0]; exact (Below.refl _ wr).alloc (Nat.le_refl _) _
              have HMw0 := Lib.hid (hM.out.below hbelw0)
              have HCw0 : Hid (w0.cell? ⟨wr.heap.size, 0, none⟩ = some (.int .i64 (d))) := by show _ = _; rw [hw0, cell_of_block (heap_alloc_new wr _)]; simp
              have hbw0 : Below w.heap.size w w0 := hbl.trans (hbelw0.mono hbl.size)
              have hsw0 := hbw0.size
              have HWw0 := Lib.hid hw0; clear hw0 hbelw0
              go_upto_region 20 with (first | (go_at_call 28; with_reducible refine (has_any _ A p _ hM.out.oa.rd hpf).mono ?_; rintro e wv ⟨rfl, hwv⟩; rw [hwv]; clear hwv wv) | (go_at_call 28; with_reducible refine (has_any _ I p _ hM.out.oi.rd hpf).mono ?_; rintro e wv ⟨rfl, hwv⟩; rw [hwv]; clear hwv wv) | (go_at_call 29; with_reducible refine (rdist_any _ g p _ hM.out.og.rd hpf (by omega)).mono ?_; rintro e wv ⟨rfl, hwv⟩; rw [hwv, ← HD.out]; clear hwv wv) | (at_builtin; rw [← HWw0.out]; refine wpList_push rfl _ _ rfl w.heap.size go _ out rfl HMw0.out.oo _ _ (d) rfl HCw0.out (by have := I4.out; (try simp); omega) (by omega) ?_; intro a1 n1 c1' g1 w1 ho1 hn1 hk1 hg1; have HM1 := Lib.hid (HMw0.out.said hk1 ho1 (fun b hb => (hg1 b hb).imp id fun h => h.1)); have hb1 := hk1.low hbw0 fun k hk e => HMw0.out.low k hk (.inr (.inr (.inr (.inl e)))); (obtain ⟨d0, d1, d2, d3, df⟩ := HM1.out.box.cells); have df0 := df 0; clear ho1 hn1 hk1 hg1 df))
              clear c0 c1 c2 c3 f0
              by_cases hfull : ((I.length + A.length : Nat) : Int) = s
              · have hfu : (((I.length : Int) + (A.length : Int)) == s) = true := by simp only [beq_iff_eq]; omega
                have HQ : Hid (evS s I A g = (evI I, evA I A, g ++ [evP I A])) := by show _ = _; unfold evS; rw [if_pos hfull]
                have hne : I ≠ [] ∨ A ≠ [] := by
                  by_cases hi : I = []
                  · right; rintro rfl; subst hi; simp at hfull; omega
                  · exact .inl hi
                have HNE := Lib.hid hne
                have hb1s := hb1.size
                clear hne hfull
                go_upto_region 21 with fail
                go_upto_region 22 with (first | (refine load_cache rfl (.tmp 9) rfl w.heap.size _ _ _ bd rfl HM1.out.box ?_) | (go_at_call 38; with_reducible refine (cevict_any w1 w.heap.size _ _ _ gi ga gg I A g bd HM1.out.oi HM1.out.oa HM1.out.og HNE.out ⟨by omega, by omega, by omega⟩ hb1s HM1.out.ig HM1.out.ag).mono ?_; intro e w4 hc; obtain ⟨vi4, va4, vg4, gi4, ga4, gg4, rfl, hbx4, s1, s2, s3, hnx⟩ := HM1.out.ev hc; have HNX := Lib.hid hnx; clear hnx hc) | (refine store_cache rfl (.tmp 9) (.tmp 81) rfl w.heap.size _ _ _ bd vi4 va4 vg4 bd rfl rfl hbx4 s1 s2 s3 ?_; intro w5 hbx5 hk5; obtain ⟨hm5, hk5'⟩ := HNX.out w5 hbx5 hk5; have HM5 := Lib.hid hm5; have hb5 := hk5'.low hb1 (fun k hk e => HM1.out.low k hk (e.elim (fun e => .inr (.inr (.inl e))) fun e => .inr (.inr (.inr (.inr e))))); clear hbx5 hk5 hm5 hk5'))
                clear d0 d1 d2 d3 df0
                obtain ⟨ai5, ni5, ci5, rfl⟩ := HM5.out.oi.form
                obtain rfl := own_len HM5.out.oi
                obtain ⟨aa5, na5, ca5, rfl⟩ := HM5.out.oa.form
                obtain rfl := own_len HM5.out.oa
                obtain ⟨ag5, ng5, cg5, rfl⟩ := HM5.out.og.form
                obtain ⟨e1, e2, e3, e4, e5, e6⟩ := HEV.out
                rw [HQ.out] at e1 e2 e3 e4 e5 e6
                simp only at e1 e2 e3 e4 e5 e6
                have q1 : (evI I).length ≤ 10000 := by omega
                have q2 : (evA I A).length ≤ 10000 := by omega
                have HPA : Hid (p ∉ evA I A) := fun h => by have := e5 p (List.mem_append_right _ h); rw [List.mem_append] at this; exact this.elim HI.out HA.out
                clear e1 e2 e3 e4 e5 e6
                obtain ⟨b0, b1', b2', b3', bf⟩ := HM5.out.box.cells
                have bf0 := bf 0
                clear bf
                have hbs := hb5.size
                have HAF : Hid (fits ((evA I A).length : Nat)) := ⟨by omega, by omega⟩
                have HDF : Hid (fits d) := ⟨by omega, by omega⟩
                by_cases hact : actv d ((evA I A).length : Nat) = true
                · have HACT := Lib.hid hact
                  have HS : Hid (lsS s bd (xs.take (k + 1)) = (actI (evI I) (evA I A) bd p, actA (evA I A) bd p, (g ++ [evP I A]), out ++ [d])) := by show _ = _; rw [HST.out]; unfold lsStep; simp only []; rw [if_neg HA.out, if_neg HI.out, HQ.out, ← HD.out]; unfold fltS; simp only []; rw [if_pos hact]
                  clear hact
                  go_upto_region 23 with (go_at_call 15; with_reducible refine (ractivate_any d _ _ HDF.out HAF.out).mono ?_; rintro e wv ⟨rfl, hwv⟩; rw [hwv, HACT.out]; clear hwv wv)
                  clear b0 b1' b2' b3' bf0
                  go_wp2_with (first | (refine load_cache rfl (.tmp 9) rfl w.heap.size _ _ _ bd rfl HM5.out.box ?_) | (go_at_call 37; with_reducible refine (cactivate_any w5 w.heap.size _ _ _ gi4 (evI I) (evA I A) bd p HM5.out.oi HM5.out.oa.rd HM5.out.og.isSl hpf ⟨by omega, by omega⟩ ⟨by omega, by omega⟩ hbs HPA.out).mono ?_; intro e w6 hc; obtain ⟨vi6, va6, gi6, ga6, rfl, hbx6, t1, t2, t3, hnx⟩ := HM5.out.act hbs hc; have HNX6 := Lib.hid hnx; clear hnx hc) | (refine store_cache rfl (.tmp 9) (.tmp 89) rfl w.heap.size _ _ _ bd vi6 va6 _ bd rfl rfl hbx6 t1 t2 t3 ?_; intro w7 hbx7 hk7; obtain ⟨hm7, hk7'⟩ := HNX6.out w7 hbx7 hk7; have HM7 := Lib.hid hm7; have hb7 := hk7'.low hb5 (fun k hk e => HM5.out.low k hk (e.elim .inl fun e => .inr (.inr (.inr (.inr e))))); clear hbx7 hk7 hm7 hk7'))
                  go_roundg (xs.length - (k + 1))
                  case rel => exact ⟨k + 1, _, _, _, _, _, _, _, by go_num, by omega, rfl, by
                    show CM _ _ _ _ _ _ _ _ _ _ _ _ _ _ _ _
                    rw [HS.out]; exact HM7.out, hb7⟩
                  case measure => have := hn.out; omega
                · have HACT : Hid (actv d ((evA I A).length : Nat) = false) := by show _ = _; simpa using hact
                  have HS : Hid (lsS s bd (xs.take (k + 1)) = ((evI I) ++ [p], (evA I A), (g ++ [evP I A]), out ++ [d])) := by show _ = _; rw [HST.out]; unfold lsStep; simp only []; rw [if_neg HA.out, if_neg HI.out, HQ.out, ← HD.out]; unfold fltS; simp only []; rw [if_neg hact]
                  clear hact
                  obtain ⟨wp, hwp⟩ : ∃ wp, wp = w5.alloc (.cells #[.int .i64 (p)] 3) := ⟨_, rfl⟩
                  have hbelwp : Below w5.heap.size w5 wp := by rw [hwp]; exact (Below.refl _ w5).alloc (Nat.le_refl _) _
                  have HMwp := Lib.hid (HM5.out.below hbelwp)
                  have HCwp : Hid (wp.cell? ⟨w5.heap.size, 0, none⟩ = some (.int .i64 (p))) := by show _ = _; rw [hwp, cell_of_block (heap_alloc_new w5 _)]; simp
                  have hbwp : Below w.heap.size w wp := hb5.trans (hbelwp.mono hb5.size)
                  have hswp := hbwp.size
                  have HWwp := Lib.hid hwp; clear hwp hbelwp
                  go_wp2_with (first | (go_at_call 15; with_reducible refine (ractivate_any d _ _ HDF.out HAF.out).mono ?_; rintro e wv ⟨rfl, hwv⟩; rw [hwv, HACT.out]; clear hwv wv) | (at_builtin; rw [← HWwp.out]; refine wpList_push rfl _ _ rfl w.heap.size gi4 _ (evI I) rfl HMwp.out.oi _ _ p rfl HCwp.out (by (try simp); omega) (by omega) ?_; intro a8 n8 c8 g8 w8 ho8 hn8 hk8 hg8; (obtain ⟨h81, h82⟩ := HMwp.out.setI hk8 ho8 (fun b hb => (hg8 b hb).imp id fun h => h.1)); have HM8 := Lib.hid h81; have hb8 := h82.low hbwp (fun k hk e => HMwp.out.low k hk (e.elim .inl fun e => .inr (.inr (.inr (.inr e))))); (obtain ⟨x0, x1, x2, x3, xf⟩ := (HMwp.out.box.keeps hk8 fun e => HMwp.out.ni e).cells); have xf0 := xf 0; clear ho8 hn8 hg8 hk8 h81 h82 xf))
                  go_roundg (xs.length - (k + 1))
                  case rel => exact ⟨k + 1, _, _, _, _, _, _, _, by go_num, by omega, rfl, by
                    show CM _ _ _ _ _ _ _ _ _ _ _ _ _ _ _ _
                    rw [HS.out]; exact HM8.out, hb8⟩
                  case measure => have := hn.out; omega
              · have hfu : (((I.length : Int) + (A.length : Int)) == s) = false := by simp only [beq_eq_false_iff_ne, ne_eq]; omega
                have HQ : Hid (evS s I A g = (I, A, g)) := by show _ = _; unfold evS; rw [if_neg hfull]
                clear hfull
                go_upto_region 22 with fail
                clear d0 d1 d2 d3 df0
                obtain ⟨e1, e2, e3, e4, e5, e6⟩ := HEV.out
                rw [HQ.out] at e1 e2 e3 e4 e5 e6
                simp only at e1 e2 e3 e4 e5 e6
                have q1 : (I).length ≤ 10000 := by omega
                have q2 : (A).length ≤ 10000 := by omega
                have HPA : Hid (p ∉ A) := fun h => by have := e5 p (List.mem_append_right _ h); rw [List.mem_append] at this; exact this.elim HI.out HA.out
                clear e1 e2 e3 e4 e5 e6
                obtain ⟨b0, b1', b2', b3', bf⟩ := HM1.out.box.cells
                have bf0 := bf 0
                clear bf
                have hbs := hb1.size
                have HAF : Hid (fits ((A).length : Nat)) := ⟨by omega, by omega⟩
                have HDF : Hid (fits d) := ⟨by omega, by omega⟩
                by_cases hact : actv d ((A).length : Nat) = true
                · have HACT := Lib.hid hact
                  have HS : Hid (lsS s bd (xs.take (k + 1)) = (actI (I) (A) bd p, actA (A) bd p, (g), out ++ [d])) := by show _ = _; rw [HST.out]; unfold lsStep; simp only []; rw [if_neg HA.out, if_neg HI.out, HQ.out, ← HD.out]; unfold fltS; simp only []; rw [if_pos hact]
                  clear hact
                  go_upto_region 23 with (go_at_call 15; with_reducible refine (ractivate_any d _ _ HDF.out HAF.out).mono ?_; rintro e wv ⟨rfl, hwv⟩; rw [hwv, HACT.out]; clear hwv wv)
                  clear b0 b1' b2' b3' bf0
                  go_wp2_with (first | (refine load_cache rfl (.tmp 9) rfl w.heap.size _ _ _ bd rfl HM1.out.box ?_) | (go_at_call 37; with_reducible refine (cactivate_any w1 w.heap.size _ _ _ gi (I) (A) bd p HM1.out.oi HM1.out.oa.rd HM1.out.og.isSl hpf ⟨by omega, by omega⟩ ⟨by omega, by omega⟩ hbs HPA.out).mono ?_; intro e w6 hc; obtain ⟨vi6, va6, gi6, ga6, rfl, hbx6, t1, t2, t3, hnx⟩ := HM1.out.act hbs hc; have HNX6 := Lib.hid hnx; clear hnx hc) | (refine store_cache rfl (.tmp 9) (.tmp 89) rfl w.heap.size _ _ _ bd vi6 va6 _ bd rfl rfl hbx6 t1 t2 t3 ?_; intro w7 hbx7 hk7; obtain ⟨hm7, hk7'⟩ := HNX6.out w7 hbx7 hk7; have HM7 := Lib.hid hm7; have hb7 := hk7'.low hb1 (fun k hk e => HM1.out.low k hk (e.elim .inl fun e => .inr (.inr (.inr (.inr e))))); clear hbx7 hk7 hm7 hk7'))
                  go_roundg (xs.length - (k + 1))
                  case rel => exact ⟨k + 1, _, _, _, _, _, _, _, by go_num, by omega, rfl, by
                    show CM _ _ _ _ _ _ _ _ _ _ _ _ _ _ _ _
                    rw [HS.out]; exact HM7.out, hb7⟩
                  case measure => have := hn.out; omega
                · have HACT : Hid (actv d ((A).length : Nat) = false) := by show _ = _; simpa using hact
                  have HS : Hid (lsS s bd (xs.take (k + 1)) = ((I) ++ [p], (A), (g), out ++ [d])) := by show _ = _; rw [HST.out]; unfold lsStep; simp only []; rw [if_neg HA.out, if_neg HI.out, HQ.out, ← HD.out]; unfold fltS; simp only []; rw [if_neg hact]
                  clear hact
                  obtain ⟨wp, hwp⟩ : ∃ wp, wp = w1.alloc (.cells #[.int .i64 (p)] 3) := ⟨_, rfl⟩
                  have hbelwp : Below w1.heap.size w1 wp := by rw [hwp]; exact (Below.refl _ w1).alloc (Nat.le_refl _) _
                  have HMwp := Lib.hid (HM1.out.below hbelwp)
                  have HCwp : Hid (wp.cell? ⟨w1.heap.size, 0, none⟩ = some (.int .i64 (p))) := by show _ = _; rw [hwp, cell_of_block (heap_alloc_new w1 _)]; simp
                  have hbwp : Below w.heap.size w wp := hb1.trans (hbelwp.mono hb1.size)
                  have hswp := hbwp.size
                  have HWwp := Lib.hid hwp; clear hwp hbelwp
                  go_wp2_with (first | (go_at_call 15; with_reducible refine (ractivate_any d _ _ HDF.out HAF.out).mono ?_; rintro e wv ⟨rfl, hwv⟩; rw [hwv, HACT.out]; clear hwv wv) | (at_builtin; rw [← HWwp.out]; refine wpList_push rfl _ _ rfl w.heap.size gi _ (I) rfl HMwp.out.oi _ _ p rfl HCwp.out (by (try simp); omega) (by omega) ?_; intro a8 n8 c8 g8 w8 ho8 hn8 hk8 hg8; (obtain ⟨h81, h82⟩ := HMwp.out.setI hk8 ho8 (fun b hb => (hg8 b hb).imp id fun h => h.1)); have HM8 := Lib.hid h81; have hb8 := h82.low hbwp (fun k hk e => HMwp.out.low k hk (e.elim .inl fun e => .inr (.inr (.inr (.inr e))))); (obtain ⟨x0, x1, x2, x3, xf⟩ := (HMwp.out.box.keeps hk8 fun e => HMwp.out.ni e).cells); have xf0 := xf 0; clear ho8 hn8 hg8 hk8 h81 h82 xf))
                  go_roundg (xs.length - (k + 1))
                  case rel => exact ⟨k + 1, _, _, _, _, _, _, _, by go_num, by omega, rfl, by
                    show CM _ _ _ _ _ _ _ _ _ _ _ _ _ _ _ _
                    rw [HS.out]; exact HM8.out, hb8⟩
                  case measure => have := hn.out; omega
        · have HN : Hid (lsOut s bd xs = (lsS s bd (xs.take k)).2.2.2) := by
            show _ = _
            unfold lsOut; rw [if_pos HL.out, List.take_of_length_le (by omega)]
          go_wp2_with fail
          go_ret2
          exact ⟨_, by rw [HL.out]; rfl, hbl, by rw [HN.out]; exact hM.out.oo.rd⟩
  · have hne : (chkE xs.length s != 0) = true := by simpa using he
    have HN : Hid (lsOut s bd xs = [] ∧ lsE xs.length s bd = chkE xs.length s) := by
      have e : lsE xs.length s bd = chkE xs.length s := by unfold lsE; rw [if_neg he]
      exact ⟨by unfold lsOut; rw [e, if_neg he], e⟩
    clear he hx
    go_enter Try.func20, Try.ntmps20
    go_wp2_with (go_at_call 27; refine (rsizes_any _ xs s _ hrd.out hs).mono ?_; rintro e w' ⟨rfl, hw'⟩; rw [hw']; clear hw' w')
    go_ret2
    exact ⟨_, by rw [HN.out.2]; rfl, Below.refl _ _, by rw [HN.out.1]; exact .inl ⟨rfl, _, _, rfl⟩⟩
end Go.Proofs.Ytbalmmaoiebppaa
