/- The reference's Refaults: walked. Conditions: the numbers fit. -/
import Derived.Test.YtbalmmaoiebppaaVr
namespace Go.Proofs.Ytbalmmaoiebppaa
open Go.RowKit

/-- three lists in blocks apart -/
structure TM (w : World) (base : Nat) (vq vg vo : Value) (gq gg go : Option Nat) (c g out : List Int) : Prop where
  oq : own w base gq vq c
  og : own w base gg vg g
  oo : own w base go vo out
  qg : ∀ b, gq = some b → gg ≠ some b
  qo : ∀ b, gq = some b → go ≠ some b
  go : ∀ b, gg = some b → go ≠ some b
section
variable {w w' : World} {base : Nat} {vq vg vo v' : Value} {gq gg go g' : Option Nat} {c g out xs : List Int}
theorem TM.below (h : TM w base vq vg vo gq gg go c g out) (hb : Below w.heap.size w w') : TM w' base vq vg vo gq gg go c g out :=
  ⟨h.oq.keeps (P := fun _ => False) (Keeps.of_below hb) (fun _ _ => id), h.og.keeps (P := fun _ => False) (Keeps.of_below hb) (fun _ _ => id), h.oo.keeps (P := fun _ => False) (Keeps.of_below hb) (fun _ _ => id), h.qg, h.qo, h.go⟩
theorem TM.oq' (h : TM w base vq vg vo gq gg go c g out) (hk : Keeps (fun k => gq = some k) w w') (ho : own w' base g' v' xs) (hg : ∀ b, g' = some b → gq = some b ∨ w.heap.size ≤ b) : TM w' base v' vg vo g' gg go xs g out :=
  ⟨ho, h.og.keeps hk (fun b hb e => h.qg b e hb), h.oo.keeps hk (fun b hb e => h.qo b e hb), fun b hb e => h.og.new e (hg b hb) fun e' => h.qg b e' e, fun b hb e => h.oo.new e (hg b hb) fun e' => h.qo b e' e, h.go⟩
theorem TM.og' (h : TM w base vq vg vo gq gg go c g out) (hk : Keeps (fun k => gg = some k) w w') (ho : own w' base g' v' xs) (hg : ∀ b, g' = some b → gg = some b ∨ w.heap.size ≤ b) : TM w' base vq v' vo gq g' go c xs out :=
  ⟨h.oq.keeps hk (fun b hb e => h.qg b hb e), ho, h.oo.keeps hk (fun b hb e => h.go b e hb), fun b hb e => h.oq.new hb (hg b e) fun e' => h.qg b hb e', h.qo, fun b hb e => h.oo.new e (hg b hb) fun e' => h.go b e' e⟩
theorem TM.oo' (h : TM w base vq vg vo gq gg go c g out) (hk : Keeps (fun k => go = some k) w w') (ho : own w' base g' v' xs) (hg : ∀ b, g' = some b → go = some b ∨ w.heap.size ≤ b) : TM w' base vq vg v' gq gg g' c g xs :=
  ⟨h.oq.keeps hk (fun b hb e => h.qo b hb e), h.og.keeps hk (fun b hb e => h.go b hb e), ho, h.qg, fun b hb e => h.oq.new hb (hg b e) fun e' => h.qo b hb e', fun b hb e => h.og.new hb (hg b e) fun e' => h.go b hb e'⟩
theorem TM.low (h : TM w base vq vg vo gq gg go c g out) : ∀ k, k < base → ¬ (gq = some k ∨ gg = some k ∨ go = some k) := fun k hk => by
  rintro (e | e | e)
  · have := h.oq; rw [e] at this; have := this.lt; omega
  · have := h.og; rw [e] at this; have := this.lt; omega
  · have := h.oo; rw [e] at this; have := this.lt; omega
end

theorem idx_in {xs : List Int} {x : Int} (h : x ∈ xs) : decide (0 ≤ Lib.idxOf xs x) = true := by
  rw [decide_eq_true_iff, Lib.idxOf_nonneg_iff]; simpa using h
theorem idx_out {xs : List Int} {x : Int} (h : ¬ x ∈ xs) : decide (0 ≤ Lib.idxOf xs x) = false := by
  rw [decide_eq_false_iff_not, Lib.idxOf_nonneg_iff]; simpa using h

set_option maxRecDepth 100000 in
set_option maxHeartbeats 4000000 in
theorem rrefaults_any (v : Value) (xs : List Int) (s : Int) (w : World) (h : rd w v xs) (hx : ∀ x ∈ xs, fits x) (hs : fits s) :
    Calls Try.prog 17 #[v, .int .i64 s] w fun e w' => ∃ v', e = .returned (.tuple #[v', .int .i64 (chkE xs.length s)]) ∧ Below w.heap.size w w' ∧ Go.Proofs.Ytbalmmaoiebppaa.rd w' v' (rfOut s xs) := by
  have hrd := Lib.hid h
  obtain ⟨a, c, rfl, hlen, hcell⟩ := h.split
  have HC := Lib.hid hcell
  clear h hcell
  by_cases he : chkE xs.length s = 0
  · have HE := Lib.hid he
    have hse : xs.length ≤ 10000 ∧ 1 ≤ s ∧ s ≤ 10000 := by
      unfold chkE at he
      split at he
      · omega
      · split at he <;> omega
    obtain ⟨hx1, hs1, hs2⟩ := hse
    have HX := Lib.hid hx
    clear hx he
    go_enter Try.func17, Try.ntmps17
    go_wp2_with (go_at_call 27; refine (rsizes_any _ xs s _ hrd.out hs).mono ?_; rintro e w' ⟨rfl, hw'⟩; rw [hw', HE.out]; clear hw' w')
    go_loopg [7, 8, 9, 10] xs.length (fun n s7 s8 s9 s10 wr => ∃ (k : Nat) (gq gg go : Option Nat), s10 = .int .i64 k ∧ k ≤ xs.length ∧ Hid (n = xs.length - k) ∧
      Hid (TM wr w.heap.size s7 s8 s9 gq gg go (rfS s (xs.take k)).1 (rfS s (xs.take k)).2.1 (rfS s (xs.take k)).2.2) ∧ Below w.heap.size w wr)
    case atStart => exact ⟨0, none, none, none, rfl, by omega, rfl, by
      show TM _ _ _ _ _ _ _ _ _ _ _
      exact ⟨⟨rfl, _, rfl⟩, ⟨rfl, _, rfl⟩, ⟨rfl, _, rfl⟩, fun b hb => (by cases hb), fun b hb => (by cases hb), fun b hb => (by cases hb)⟩, Below.refl _ _⟩
    case round =>
      obtain ⟨k, gq, gg, go, rfl, hk, hn, hM, hbl⟩ := hrel
      by_cases hlt : k < xs.length
      · have hlti : (k : Int) < (xs.length : Int) := by omega
        obtain ⟨b, o, rfl, hcl⟩ := HC.out k hlt
        have hc0 := hcl k hlt
        have HST : Hid (rfS s (xs.take (k + 1)) = rfStep s (rfS s (xs.take k)) (xs.getD k 0)) := rfS_step hlt
        obtain ⟨i1, i2, i3, i4, i5⟩ := rfS_inv s hs1 (xs.take k)
        have hpf : fits (xs.getD k 0) := HX.out _ (by rw [getD_eq hlt]; exact List.getElem_mem hlt)
        have htl : (xs.take k).length = k := by rw [List.length_take]; omega
        rw [htl] at i2 i3 i4
        obtain ⟨p, hp⟩ : ∃ p, p = xs.getD k 0 := ⟨_, rfl⟩
        rw [← hp] at hc0 HST hpf
        have hci := (hbl.cell (block_lt_of_cell hc0)).trans hc0
        have HC0 := Lib.hid hc0
        generalize rfS s (xs.take k) = q at *
        obtain ⟨c, g, out⟩ := q
        simp only at i1 i2 i3 i4 i5 hM
        have I4 : Hid (out.length = k) := i4
        have I3 : Hid (g.length ≤ k) := i3
        have HCL : Hid (c.length ≤ 10000) := by show _ ≤ _; omega
        clear hcl hp i3 i4 i5 htl hc0
        obtain ⟨aq, nq, cq, rfl⟩ := hM.out.oq.form
        obtain rfl := own_len hM.out.oq
        obtain ⟨ag, ng, cg, rfl⟩ := hM.out.og.form
        obtain rfl := own_len hM.out.og
        obtain ⟨ao, no, co, rfl⟩ := hM.out.oo.form
        obtain rfl := own_len hM.out.oo
        by_cases hin : p ∈ c
        · have HS : Hid (rfS s (xs.take (k + 1)) = (c, g, out ++ [-1])) := by show _ = _; rw [HST.out]; unfold rfStep; rw [if_pos hin]
          have hge := idx_in hin
          clear hin HST
          obtain ⟨w0, hw0⟩ : ∃ w0, w0 = wr.alloc (.cells #[.int .i64 (-1)] 3) := ⟨_, rfl⟩
          have hbelw0 : Below wr.heap.size wr w0 := by rw [hw0]; exact (Below.refl _ wr).alloc (Nat.le_refl _) _
          have HMw0 : Hid (TM w0 w.heap.size (.slice aq c.length cq) (.slice ag g.length cg) (.slice ao out.length co) gq gg go c g out) := hM.out.below hbelw0
          have HCw0 : Hid (w0.cell? ⟨wr.heap.size, 0, none⟩ = some (.int .i64 (-1))) := by show _ = _; rw [hw0, cell_of_block (heap_alloc_new wr _)]; simp
          have hbw0 : Below w.heap.size w w0 := hbl.trans (hbelw0.mono hbl.size)
          have hsw0 := hbw0.size
          have HWw0 := Lib.hid hw0; clear hw0 hbelw0
          go_wp2_with (first | (go_at_call 28; refine (has_any _ c p _ hM.out.oq.rd hpf).mono ?_; rintro e wv ⟨rfl, hwv⟩; rw [hwv]; clear hwv wv) | (at_builtin; rw [← HWw0.out]; refine wpList_push rfl _ _ rfl w.heap.size go _ out rfl HMw0.out.oo _ _ (-1) rfl HCw0.out (by have := I4.out; (try simp); omega) (by omega) ?_; intro a1 n1 c1 g1 w1 ho1 hn1 hk1 hg1; have HM1 : Hid (TM w1 w.heap.size (.slice aq c.length cq) (.slice ag g.length cg) (.slice a1 n1 c1) gq gg g1 c g (out ++ [-1])) := HMw0.out.oo' hk1 ho1 (fun b hb => (hg1 b hb).imp id fun h => h.1); have hb1 := hk1.low hbw0 fun k hk e => HMw0.out.low k hk (.inr <| .inr e); clear ho1 hn1 hk1 hg1))
          go_roundg (xs.length - (k + 1))
          case rel => exact ⟨k + 1, gq, gg, g1, by go_num, by omega, rfl, by
            show TM _ _ _ _ _ _ _ _ _ _ _
            rw [HS.out]; exact HM1.out, hb1⟩
          case measure => have := hn.out; omega
        · have hge := idx_out hin
          have HIN := Lib.hid hin
          obtain ⟨d, hd⟩ : ∃ d, d = dst g p := ⟨_, rfl⟩
          have HD := Lib.hid hd
          clear hin hd
          obtain ⟨w0, hw0⟩ : ∃ w0, w0 = wr.alloc (.cells #[.int .i64 d] 3) := ⟨_, rfl⟩
          have hbelw0 : Below wr.heap.size wr w0 := by rw [hw0]; exact (Below.refl _ wr).alloc (Nat.le_refl _) _
          have HMw0 : Hid (TM w0 w.heap.size (.slice aq c.length cq) (.slice ag g.length cg) (.slice ao out.length co) gq gg go c g out) := hM.out.below hbelw0
          have HCw0 : Hid (w0.cell? ⟨wr.heap.size, 0, none⟩ = some (.int .i64 d)) := by show _ = _; rw [hw0, cell_of_block (heap_alloc_new wr _)]; simp
          have hbw0 : Below w.heap.size w w0 := hbl.trans (hbelw0.mono hbl.size)
          have hsw0 := hbw0.size
          have HWw0 := Lib.hid hw0; clear hw0 hbelw0
          go_upto_region 11 with (first | (go_at_call 28; refine (has_any _ c p _ hM.out.oq.rd hpf).mono ?_; rintro e wv ⟨rfl, hwv⟩; rw [hwv]; clear hwv wv) | (go_at_call 29; refine (rdist_any _ g p _ hM.out.og.rd hpf (by have := I3.out; omega)).mono ?_; rintro e wv ⟨rfl, hwv⟩; rw [hwv, ← HD.out]; clear hwv wv) | (at_builtin; rw [← HWw0.out]; refine wpList_push rfl _ _ rfl w.heap.size go _ out rfl HMw0.out.oo _ _ d rfl HCw0.out (by have := I4.out; (try simp); omega) (by omega) ?_; intro a1 n1 c1 g1 w1 ho1 hn1 hk1 hg1; have HM1 : Hid (TM w1 w.heap.size (.slice aq c.length cq) (.slice ag g.length cg) (.slice a1 n1 c1) gq gg g1 c g (out ++ [d])) := HMw0.out.oo' hk1 ho1 (fun b hb => (hg1 b hb).imp id fun h => h.1); have hb1 := hk1.low hbw0 fun k hk e => HMw0.out.low k hk (.inr <| .inr e); clear ho1 hn1 hk1 hg1))
          by_cases hfull : (c.length : Int) = s
          · have hfu : ((c.length : Int) == s) = true := by simpa using hfull
            have hne : c ≠ [] := by intro e; rw [e] at hfull; simp at hfull; omega
            have HS : Hid (rfS s (xs.take (k + 1)) = (c.tail ++ [p], g ++ [c.headD 0], out ++ [d])) := by show _ = _; rw [HST.out]; unfold rfStep; rw [if_neg HIN.out, if_pos hfull, HD.out]
            obtain ⟨x, hx⟩ : ∃ x, x = c.headD 0 := ⟨_, rfl⟩
            rw [← hx] at HS
            obtain ⟨bq, oq, cq', hgq, hvq, hcq⟩ := HM1.out.oq.head hne
            rw [← hx] at hcq
            injection hvq with hv1 _ hv3
            subst hv1 hv3
            have h0 : (0 : Int) < (c.length : Int) := by omega
            have HNE := Lib.hid hne
            clear hx hgq hfull hne
            obtain ⟨w2, hw2⟩ : ∃ w2, w2 = w1.alloc (.cells #[.int .i64 x] 3) := ⟨_, rfl⟩
            have hbelw2 : Below w1.heap.size w1 w2 := by rw [hw2]; exact (Below.refl _ w1).alloc (Nat.le_refl _) _
            have HMw2 : Hid (TM w2 w.heap.size (.slice (some ⟨bq, oq, none⟩) c.length cq) (.slice ag g.length cg) (.slice a1 n1 c1) gq gg g1 c g (out ++ [d])) := HM1.out.below hbelw2
            have HCw2 : Hid (w2.cell? ⟨w1.heap.size, 0, none⟩ = some (.int .i64 x)) := by show _ = _; rw [hw2, cell_of_block (heap_alloc_new w1 _)]; simp
            have hbw2 : Below w.heap.size w w2 := hb1.trans (hbelw2.mono hb1.size)
            have hsw2 := hbw2.size
            have HWw2 := Lib.hid hw2; clear hw2 hbelw2
            go_upto_region 14 with (at_builtin; rw [← HWw2.out]; refine wpList_push rfl _ _ rfl w.heap.size gg _ g rfl HMw2.out.og _ _ x rfl HCw2.out (by have := I3.out; (try simp); omega) (by omega) ?_; intro a3 n3 c3 g3 w3 ho3 hn3 hk3 hg3; have HM3 : Hid (TM w3 w.heap.size (.slice (some ⟨bq, oq, none⟩) c.length cq) (.slice a3 n3 c3) (.slice a1 n1 c1) gq g3 g1 c (g ++ [x]) (out ++ [d])) := HMw2.out.og' hk3 ho3 (fun b hb => (hg3 b hb).imp id fun h => h.1); have hb3 := hk3.low hbw2 fun k hk e => HMw2.out.low k hk (.inr <| .inl e); (obtain ⟨a', n', c', g', hrun, ho, -, hg'⟩ := run_tail w3 w.heap.size gq _ c HM3.out.oq HNE.out); have HM4 := Lib.hid (HM3.out.oq' (Keeps.refl _ _) ho fun b hb => .inl (hg' b hb)); clear ho hg'; clear ho3 hn3 hk3 hg3)
            obtain ⟨wp, hwp⟩ : ∃ wp, wp = w3.alloc (.cells #[.int .i64 p] 3) := ⟨_, rfl⟩
            have hbelwp : Below w3.heap.size w3 wp := by rw [hwp]; exact (Below.refl _ w3).alloc (Nat.le_refl _) _
            have HMwp : Hid (TM wp w.heap.size (.slice a' n' c') (.slice a3 n3 c3) (.slice a1 n1 c1) g' g3 g1 c.tail (g ++ [x]) (out ++ [d])) := HM4.out.below hbelwp
            have HCwp : Hid (wp.cell? ⟨w3.heap.size, 0, none⟩ = some (.int .i64 p)) := by show _ = _; rw [hwp, cell_of_block (heap_alloc_new w3 _)]; simp
            have hbwp : Below w.heap.size w wp := hb3.trans (hbelwp.mono hb3.size)
            have hswp := hbwp.size
            have HWwp := Lib.hid hwp; clear hwp hbelwp
            have hcp : w3.cell? ⟨b, o + k, none⟩ = some (.int .i64 p) := (hb3.cell (block_lt_of_cell HC0.out)).trans HC0.out
            go_wp2_with (at_builtin; rw [← HWwp.out]; refine wpList_push rfl _ _ rfl w.heap.size g' _ c.tail rfl HMwp.out.oq _ _ p rfl HCwp.out (by have := HCL.out; (try simp); omega) (by omega) ?_; intro a5 n5 c5 g5 w5 ho5 hn5 hk5 hg5; have HM5 : Hid (TM w5 w.heap.size (.slice a5 n5 c5) (.slice a3 n3 c3) (.slice a1 n1 c1) g5 g3 g1 (c.tail ++ [p]) (g ++ [x]) (out ++ [d])) := HMwp.out.oq' hk5 ho5 (fun b hb => (hg5 b hb).imp id fun h => h.1); have hb5 := hk5.low hbwp fun k hk e => HMwp.out.low k hk (.inl e); clear ho5 hn5 hk5 hg5)
            go_roundg (xs.length - (k + 1))
            case rel => exact ⟨k + 1, g5, g3, g1, by go_num, by omega, rfl, by
              show TM _ _ _ _ _ _ _ _ _ _ _
              rw [HS.out]; exact HM5.out, hb5⟩
            case measure => have := hn.out; omega
          · have hfu : ((c.length : Int) == s) = false := by simpa using hfull
            have HS : Hid (rfS s (xs.take (k + 1)) = (c ++ [p], g, out ++ [d])) := by show _ = _; rw [HST.out]; unfold rfStep; rw [if_neg HIN.out, if_neg hfull, HD.out]
            clear hfull
            go_upto_region 14 with fail
            obtain ⟨wp, hwp⟩ : ∃ wp, wp = w1.alloc (.cells #[.int .i64 p] 3) := ⟨_, rfl⟩
            have hbelwp : Below w1.heap.size w1 wp := by rw [hwp]; exact (Below.refl _ w1).alloc (Nat.le_refl _) _
            have HMwp : Hid (TM wp w.heap.size (.slice aq c.length cq) (.slice ag g.length cg) (.slice a1 n1 c1) gq gg g1 c g (out ++ [d])) := HM1.out.below hbelwp
            have HCwp : Hid (wp.cell? ⟨w1.heap.size, 0, none⟩ = some (.int .i64 p)) := by show _ = _; rw [hwp, cell_of_block (heap_alloc_new w1 _)]; simp
            have hbwp : Below w.heap.size w wp := hb1.trans (hbelwp.mono hb1.size)
            have hswp := hbwp.size
            have HWwp := Lib.hid hwp; clear hwp hbelwp
            have hcp : w1.cell? ⟨b, o + k, none⟩ = some (.int .i64 p) := (hb1.cell (block_lt_of_cell HC0.out)).trans HC0.out
            go_wp2_with (at_builtin; rw [← HWwp.out]; refine wpList_push rfl _ _ rfl w.heap.size gq _ c rfl HMwp.out.oq _ _ p rfl HCwp.out (by have := HCL.out; (try simp); omega) (by omega) ?_; intro a5 n5 c5 g5 w5 ho5 hn5 hk5 hg5; have HM5 : Hid (TM w5 w.heap.size (.slice a5 n5 c5) (.slice ag g.length cg) (.slice a1 n1 c1) g5 gg g1 (c ++ [p]) g (out ++ [d])) := HMwp.out.oq' hk5 ho5 (fun b hb => (hg5 b hb).imp id fun h => h.1); have hb5 := hk5.low hbwp fun k hk e => HMwp.out.low k hk (.inl e); clear ho5 hn5 hk5 hg5)
            go_roundg (xs.length - (k + 1))
            case rel => exact ⟨k + 1, g5, gg, g1, by go_num, by omega, rfl, by
              show TM _ _ _ _ _ _ _ _ _ _ _
              rw [HS.out]; exact HM5.out, hb5⟩
            case measure => have := hn.out; omega
      · have HN : Hid (rfOut s xs = (rfS s (xs.take k)).2.2) := by
          show _ = _
          unfold rfOut; rw [if_pos HE.out, List.take_of_length_le (by omega)]
        go_wp2_with fail
        go_ret2
        exact ⟨_, by rw [HE.out]; rfl, hbl, by rw [HN.out]; exact hM.out.oo.rd⟩
  · have hne : (chkE xs.length s != 0) = true := by simpa using he
    have HN : Hid (rfOut s xs = []) := by show _ = _; unfold rfOut; rw [if_neg he]
    clear he hx
    go_enter Try.func17, Try.ntmps17
    go_wp2_with (go_at_call 27; refine (rsizes_any _ xs s _ hrd.out hs).mono ?_; rintro e w' ⟨rfl, hw'⟩; rw [hw']; clear hw' w')
    go_ret2
    exact ⟨_, rfl, Below.refl _ _, by rw [HN.out]; exact .inl ⟨rfl, _, _, rfl⟩⟩
end Go.Proofs.Ytbalmmaoiebppaa
