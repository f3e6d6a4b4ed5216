/- The program's Refaults: walked. Conditions: the numbers fit. -/
import Derived.Test.YtbalmmaoiebppaaVf
import Derived.Deep.CutRange
import Derived.Deep.CutBlock
namespace Go.Proofs.Ytbalmmaoiebppaa
open Go.RowKit

/-- the answer of Refaults -/
def rfOut (s : Int) (xs : List Int) : List Int := if chkE xs.length s = 0 then (rfS s xs).2.2 else []

theorem Keeps.low {P : Nat → Prop} {w0 w w' : World} (h : Keeps P w w') (hb : Below w0.heap.size w0 w) (hP : ∀ k, k < w0.heap.size → ¬ P k) : Below w0.heap.size w0 w' := hb.trans (h.to_below hb.size hP)

set_option maxRecDepth 100000 in
set_option maxHeartbeats 4000000 in
theorem refaults_any (v : Value) (xs : List Int) (s : Int) (w : World) (h : rd w v xs) (hx : ∀ x ∈ xs, fits x) (hs : fits s) :
    Calls Try.prog 16 #[v, .int .i64 s] w fun e w' => ∃ v', e = .returned (.tuple #[v', .int .i64 (chkE xs.length s)]) ∧ Below w.heap.size w w' ∧ Go.Proofs.Ytbalmmaoiebppaa.rd w' v' (rfOut s xs) := by
  obtain ⟨a, c, rfl, hlen, hcell⟩ := h.split
  have HC := Lib.hid hcell
  clear h hcell
  by_cases he : chkE xs.length s = 0
  · have HE := Lib.hid he
    have hse : xs.length ≤ 10000 ∧ 1 ≤ s ∧ s ≤ 10000 := by
      unfold chkE at he
      split at he
      · omega
      · split at he <;> omega
    obtain ⟨hx1, hs1, hs2⟩ := hse
    have HX := Lib.hid hx
    clear hx he
    have hmm := @run_makeMap Try.prog
    go_enter Try.func16, Try.ntmps16
    go_upto_block 0 with (go_at_call 24; refine (check_any xs.length s _ (by omega) hs).mono ?_; rintro e w' ⟨rfl, hw'⟩; rw [hw', HE.out]; clear hw' w')
    have hst := Lib.hid (rm_start w)
    have hbs := rm_start_below w 47
    generalize ((w.alloc (.map #[] 0)).alloc (.cells #[.int .i64 0, .map (some w.heap.size)] 47)).alloc (.map #[] 0) = ws at *
    clear hmm
    go_wp2_with fail
    go_loopg [9, 10, 25] xs.length (fun n s9 s10 s25 wr => ∃ (k nm nh : Nat) (gq go : Option Nat), s25 = .int .i64 k ∧ k ≤ xs.length ∧ nm ≤ k ∧ nh ≤ k ∧ Hid (n = xs.length - k) ∧
      Hid (RM wr w.heap.size (w.heap.size + 1) w.heap.size (w.heap.size + 1 + 1) nm nh s9 s10 gq go (rfS s (xs.take k)).1 (rfS s (xs.take k)).2.1 (rfS s (xs.take k)).2.2 (fun j => decide (j ∈ (rfS s (xs.take k)).1))) ∧ Below w.heap.size w wr)
    case atStart => exact ⟨0, 0, 0, none, none, rfl, by omega, by omega, by omega, rfl, by
      show RM _ _ _ _ _ _ _ _ _ _ _ _ _ _ _
      have h0 : (fun j : Int => decide (j ∈ (rfS s (xs.take 0)).1)) = fun _ => false := by funext j; simp [rfS]
      rw [h0]; exact hst.out, hbs⟩
    case round =>
      obtain ⟨k, nm, nh, gq, go, rfl, hk, hnm, hnh, hn, hM, hbl⟩ := hrel
      clear hst hbs
      by_cases hlt : k < xs.length
      · have hlti : (k : Int) < (xs.length : Int) := by omega
        obtain ⟨b, o, rfl, hcl⟩ := HC.out k hlt
        have hc0 := hcl k hlt
        have hci := (hbl.cell (block_lt_of_cell hc0)).trans hc0
        have HST : Hid (rfS s (xs.take (k + 1)) = rfStep s (rfS s (xs.take k)) (xs.getD k 0)) := rfS_step hlt
        obtain ⟨i1, i2, i3, i4, i5⟩ := rfS_inv s hs1 (xs.take k)
        have hpf : fits (xs.getD k 0) := HX.out _ (by rw [getD_eq hlt]; exact List.getElem_mem hlt)
        have HCF : Hid (∀ x ∈ (rfS s (xs.take k)).1, fits x) := fun x hx => HX.out x (List.mem_of_mem_take (i5 x hx))
        have HND : Hid ((rfS s (xs.take k)).1.Nodup) := rfS_nodup s _
        have htl : (xs.take k).length = k := by rw [List.length_take]; omega
        rw [htl] at i2 i3 i4
        obtain ⟨p, hp⟩ : ∃ p, p = xs.getD k 0 := ⟨_, rfl⟩
        rw [← hp] at hci HST hpf
        generalize rfS s (xs.take k) = q at *
        obtain ⟨c, g, out⟩ := q
        simp only at i1 i2 i3 i4 i5 hM HCF HND
        have I4 : Hid (out.length = k) := i4
        clear hcl hc0 hp i4 i5 htl
        obtain ⟨aq, nq, cq, rfl⟩ := hM.out.oq.form
        obtain rfl := own_len hM.out.oq
        obtain ⟨ao, no, co, rfl⟩ := hM.out.oo.form
        obtain rfl := own_len hM.out.oo
        by_cases hin : p ∈ c
        · have HB : Hid (decide (p ∈ c) = true) := decide_eq_true hin
          have HS : Hid (rfS s (xs.take (k + 1)) = (c, g, out ++ [-1])) := by show _ = _; rw [HST.out]; unfold rfStep; rw [if_pos hin]
          clear hin HST
          go_upto_region 11 with (at_lookup; refine wpList_getB rfl _ _ rfl _ nh _ rfl hM.out.held p rfl hpf ?_; rw [HB.out])
          obtain ⟨w0, hw0⟩ : ∃ w0, w0 = wr.alloc (.cells #[.int .i64 (-1)] 3) := ⟨_, rfl⟩
          have hbel0 : Below wr.heap.size wr w0 := by rw [hw0]; exact (Below.refl _ wr).alloc (Nat.le_refl _) _
          have HM0 : Hid (RM w0 w.heap.size (w.heap.size + 1) w.heap.size (w.heap.size + 1 + 1) nm nh (.slice aq c.length cq) (.slice ao out.length co) gq go c g out (fun j => decide (j ∈ c))) := hM.out.below hbel0
          have HC0 : Hid (w0.cell? ⟨wr.heap.size, 0, none⟩ = some (.int .i64 (-1))) := by show _ = _; rw [hw0, cell_of_block (heap_alloc_new wr _)]; simp
          have hb0 : Below w.heap.size w w0 := hbl.trans (hbel0.mono hbl.size)
          have hs0 := hb0.size
          have HW0 := Lib.hid hw0; clear hw0
          go_wp2_with (at_builtin; rw [← HW0.out]; refine wpList_push rfl _ _ rfl w.heap.size go _ out rfl HM0.out.oo _ _ (-1) rfl HC0.out (by have := I4.out; omega) (by omega) ?_; intro a1 n1 c1 g1 w1 ho1 hn1 hk1 hg1; have HM1 : Hid (RM w1 w.heap.size (w.heap.size + 1) w.heap.size (w.heap.size + 1 + 1) nm nh (.slice aq c.length cq) (.slice a1 n1 c1) gq g1 c g (out ++ [-1]) (fun j => decide (j ∈ c))) := HM0.out.said hk1 ho1 (fun b hb => (hg1 b hb).imp id fun h => h.1); have hb1 := hk1.low hb0 fun k hk e => HM0.out.low k hk (.inr (.inr (.inr (.inr e)))); clear ho1 hn1 hk1 hg1)
          go_roundg (xs.length - (k + 1))
          case rel => exact ⟨k + 1, nm, nh, gq, g1, by go_num, by omega, by omega, by omega, rfl, by
            show RM _ _ _ _ _ _ _ _ _ _ _ _ _ _ _
            rw [HS.out]; exact HM1.out, hb1⟩
          case measure => have := hn.out; omega
        · have HB : Hid (decide (p ∈ c) = false) := decide_eq_false hin
          have HIN := Lib.hid hin
          obtain ⟨d, hd⟩ : ∃ d, d = dst g p := ⟨_, rfl⟩
          have HD := Lib.hid hd
          have HCL : Hid (c.length ≤ 10000) := by show _ ≤ _; omega
          clear hin hd
          obtain ⟨w0, hw0⟩ : ∃ w0, w0 = wr.alloc (.cells #[.int .i64 d] 3) := ⟨_, rfl⟩
          have hbelw0 : Below wr.heap.size wr w0 := by rw [hw0]; exact (Below.refl _ wr).alloc (Nat.le_refl _) _
          have HMw0 : Hid (RM w0 w.heap.size (w.heap.size + 1) w.heap.size (w.heap.size + 1 + 1) nm nh (.slice aq c.length cq) (.slice ao out.length co) gq go c g out (fun j => decide (j ∈ c))) := hM.out.below hbelw0
          have HCw0 : Hid (w0.cell? ⟨wr.heap.size, 0, none⟩ = some (.int .i64 d)) := by show _ = _; rw [hw0, cell_of_block (heap_alloc_new wr _)]; simp
          have hbw0 : Below w.heap.size w w0 := hbl.trans (hbelw0.mono hbl.size)
          have hsw0 := hbw0.size
          have HWw0 := Lib.hid hw0; clear hw0 hbelw0
          go_upto_region 13 with (first | (at_lookup; refine wpList_getB rfl _ _ rfl _ nh _ rfl hM.out.held p rfl hpf ?_; rw [HB.out]) | (go_at_call 25; refine (hdist_any wr w.heap.size (w.heap.size + 1) w.heap.size nm g p hM.out.hist hpf (by omega)).mono ?_; rintro e wv ⟨rfl, hwv⟩; rw [hwv, ← HD.out]; clear hwv wv) | (at_builtin; rw [← HWw0.out]; refine wpList_push rfl _ _ rfl w.heap.size go _ out rfl HMw0.out.oo _ _ d rfl HCw0.out (by have := I4.out; omega) (by omega) ?_; intro a1 n1 c1 g1 w1 ho1 hn1 hk1 hg1; have HM1 : Hid (RM w1 w.heap.size (w.heap.size + 1) w.heap.size (w.heap.size + 1 + 1) nm nh (.slice aq c.length cq) (.slice a1 n1 c1) gq g1 c g (out ++ [d]) (fun j => decide (j ∈ c))) := HMw0.out.said hk1 ho1 (fun b hb => (hg1 b hb).imp id fun h => h.1); have hb1 := hk1.low hbw0 fun k hk e => HMw0.out.low k hk (.inr (.inr (.inr (.inr e)))); clear ho1 hn1 hk1 hg1))
          by_cases hfull : (c.length : Int) = s
          · have hfu : ((c.length : Int) == s) = true := by simpa using hfull
            have hne : c ≠ [] := by intro e; rw [e] at hfull; simp at hfull; omega
            have HS : Hid (rfS s (xs.take (k + 1)) = (c.tail ++ [p], g ++ [c.headD 0], out ++ [d])) := by show _ = _; rw [HST.out]; unfold rfStep; rw [if_neg HIN.out, if_pos hfull, HD.out]
            obtain ⟨x, hx⟩ : ∃ x, x = c.headD 0 := ⟨_, rfl⟩
            have hxf : fits x := HCF.out x (by rw [hx]; cases c with | nil => exact absurd rfl hne | cons a c => simp)
            have HP : Hid ((fun j : Int => if j = p then true else if j = x then false else decide (j ∈ c)) = fun j => decide (j ∈ c.tail ++ [p])) := by
              show _ = _
              have h1 := HND.out
              have h2 := HIN.out
              funext j
              cases c with
              | nil => exact absurd rfl hne
              | cons a c =>
                simp only [List.headD_cons] at hx
                subst hx
                have h3 := (List.nodup_cons.1 h1).1
                by_cases e1 : j = p
                · simp [e1]
                · by_cases e2 : j = x
                  · subst e2; simp [e1, h3]
                  · simp [e1, e2]
            rw [← hx] at HS
            obtain ⟨bq, oq, cq', hgq, hvq, hcq⟩ := HM1.out.oq.head hne
            rw [← hx] at hcq
            injection hvq with hv1 _ hv3
            subst hv1 hv3
            have h0 : (0 : Int) < (c.length : Int) := by omega
            have HX1 := Lib.hid hx
            have HGQ := Lib.hid hgq
            have HNE := Lib.hid hne
            clear hx hgq hfull hne
            go_upto_region 17 with (first | (at_delete; refine wpList_delB rfl _ _ rfl _ nh _ rfl HM1.out.held x rfl hxf ?_; intro w2 hm2 hk2; have HM2 := Lib.hid (HM1.out.set hk2 hm2); have hb2 := hk2.low hb1 fun k hk e => HM1.out.low k hk (.inr (.inr (.inl e))); have hcq2 := (hk2.cell' (HM1.out.oq) HGQ.out fun e => HM1.out.qh (by rw [HGQ.out, e])).trans hcq; clear hm2 hk2) | (go_at_call 26; refine (hevict_any w2 w.heap.size (w.heap.size + 1) w.heap.size nm g x HM2.out.hist hxf (by omega) (by omega)).mono ?_; rintro e w3 ⟨rfl, hm3, hk3⟩; have HM3 := Lib.hid (HM2.out.evicted hk3 hm3); have hb3 := hk3.low hb2 fun k hk e => HM2.out.low k hk (e.imp id .inl); clear hm3 hk3; (obtain ⟨a', n', c', g', hrun, ho, -, hg'⟩ := run_tail w3 w.heap.size gq _ c HM3.out.oq HNE.out); have HM4 := Lib.hid (HM3.out.queue (Keeps.refl _ _) ho fun b hb => .inl (hg' b hb)); clear ho hg'))
            obtain ⟨wp, hwp⟩ : ∃ wp, wp = w3.alloc (.cells #[.int .i64 p] 3) := ⟨_, rfl⟩
            have hbelwp : Below w3.heap.size w3 wp := by rw [hwp]; exact (Below.refl _ w3).alloc (Nat.le_refl _) _
            have HMwp : Hid (RM wp w.heap.size (w.heap.size + 1) w.heap.size (w.heap.size + 1 + 1) (nm + 1) nh (.slice a' n' c') (.slice a1 n1 c1) g' g1 c.tail (g ++ [x]) (out ++ [d]) (fun j => if j = x then false else decide (j ∈ c))) := HM4.out.below hbelwp
            have HCwp : Hid (wp.cell? ⟨w3.heap.size, 0, none⟩ = some (.int .i64 p)) := by show _ = _; rw [hwp, cell_of_block (heap_alloc_new w3 _)]; simp
            have hbwp : Below w.heap.size w wp := hb3.trans (hbelwp.mono hb3.size)
            have hswp := hbwp.size
            have HWwp := Lib.hid hwp; clear hwp hbelwp
            go_wp2_with (first | (at_builtin; rw [← HWwp.out]; refine wpList_push rfl _ _ rfl w.heap.size g' _ c.tail rfl HMwp.out.oq _ _ p rfl HCwp.out (by have := HCL.out; simp; omega) (by omega) ?_; intro a5 n5 c5 g5 w5 ho5 hn5 hk5 hg5; have HM5 : Hid (RM w5 w.heap.size (w.heap.size + 1) w.heap.size (w.heap.size + 1 + 1) (nm + 1) nh (.slice a5 n5 c5) (.slice a1 n1 c1) g5 g1 (c.tail ++ [p]) (g ++ [x]) (out ++ [d]) (fun j => if j = x then false else decide (j ∈ c))) := HMwp.out.queue hk5 ho5 (fun b hb => (hg5 b hb).imp id fun h => h.1); have hb5 := hk5.low hbwp fun k hk e => HMwp.out.low k hk (.inr (.inr (.inr (.inl e)))); clear ho5 hn5 hk5 hg5) | (at_mapUpdate; refine wpList_setB rfl _ _ _ rfl _ nh _ rfl HM5.out.held (by omega) p rfl rfl hpf ?_; intro w6 hm6 hk6; have HM6 := Lib.hid (HM5.out.set hk6 hm6); have hb6 := hk6.low hb5 fun k hk e => HM5.out.low k hk (.inr (.inr (.inl e))); clear hm6 hk6))
            go_roundg (xs.length - (k + 1))
            case rel => exact ⟨k + 1, nm + 1, nh + 1, g5, g1, by go_num, by omega, by omega, by omega, rfl, by
              show RM _ _ _ _ _ _ _ _ _ _ _ _ _ _ _
              rw [HS.out, ← HP.out]; exact HM6.out, hb6⟩
            case measure => have := hn.out; omega
          · have hfu : ((c.length : Int) == s) = false := by simpa using hfull
            have HS : Hid (rfS s (xs.take (k + 1)) = (c ++ [p], g, out ++ [d])) := by show _ = _; rw [HST.out]; unfold rfStep; rw [if_neg HIN.out, if_neg hfull, HD.out]
            have HP : Hid ((fun j : Int => if j = p then true else decide (j ∈ c)) = fun j => decide (j ∈ c ++ [p])) := by
              show _ = _
              funext j
              by_cases e1 : j = p
              · simp [e1]
              · simp [e1]
            clear hfull
            go_upto_region 17 with fail
            obtain ⟨wp, hwp⟩ : ∃ wp, wp = w1.alloc (.cells #[.int .i64 p] 3) := ⟨_, rfl⟩
            have hbelwp : Below w1.heap.size w1 wp := by rw [hwp]; exact (Below.refl _ w1).alloc (Nat.le_refl _) _
            have HMwp : Hid (RM wp w.heap.size (w.heap.size + 1) w.heap.size (w.heap.size + 1 + 1) nm nh (.slice aq c.length cq) (.slice a1 n1 c1) gq g1 c g (out ++ [d]) (fun j => decide (j ∈ c))) := HM1.out.below hbelwp
            have HCwp : Hid (wp.cell? ⟨w1.heap.size, 0, none⟩ = some (.int .i64 p)) := by show _ = _; rw [hwp, cell_of_block (heap_alloc_new w1 _)]; simp
            have hbwp : Below w.heap.size w wp := hb1.trans (hbelwp.mono hb1.size)
            have hswp := hbwp.size
            have HWwp := Lib.hid hwp; clear hwp hbelwp
            go_wp2_with (first | (at_builtin; rw [← HWwp.out]; refine wpList_push rfl _ _ rfl w.heap.size gq _ c rfl HMwp.out.oq _ _ p rfl HCwp.out (by have := HCL.out; omega) (by omega) ?_; intro a5 n5 c5 g5 w5 ho5 hn5 hk5 hg5; have HM5 : Hid (RM w5 w.heap.size (w.heap.size + 1) w.heap.size (w.heap.size + 1 + 1) nm nh (.slice a5 n5 c5) (.slice a1 n1 c1) g5 g1 (c ++ [p]) g (out ++ [d]) (fun j => decide (j ∈ c))) := HMwp.out.queue hk5 ho5 (fun b hb => (hg5 b hb).imp id fun h => h.1); have hb5 := hk5.low hbwp fun k hk e => HMwp.out.low k hk (.inr (.inr (.inr (.inl e)))); clear ho5 hn5 hk5 hg5) | (at_mapUpdate; refine wpList_setB rfl _ _ _ rfl _ nh _ rfl HM5.out.held (by omega) p rfl rfl hpf ?_; intro w6 hm6 hk6; have HM6 := Lib.hid (HM5.out.set hk6 hm6); have hb6 := hk6.low hb5 fun k hk e => HM5.out.low k hk (.inr (.inr (.inl e))); clear hm6 hk6))
            go_roundg (xs.length - (k + 1))
            case rel => exact ⟨k + 1, nm, nh + 1, g5, g1, by go_num, by omega, by omega, by omega, rfl, by
              show RM _ _ _ _ _ _ _ _ _ _ _ _ _ _ _
              rw [HS.out, ← HP.out]; exact HM6.out, hb6⟩
            case measure => have := hn.out; omega
      · have HN : Hid (rfOut s xs = (rfS s (xs.take k)).2.2) := by
          show _ = _
          unfold rfOut; rw [if_pos HE.out, List.take_of_length_le (by omega)]
        go_wp2_with fail
        go_ret2
        exact ⟨_, by rw [HE.out]; rfl, hbl, by rw [HN.out]; exact hM.out.oo.rd⟩
  · have hne : (chkE xs.length s != 0) = true := by simpa using he
    have HN : Hid (rfOut s xs = []) := by show _ = _; unfold rfOut; rw [if_neg he]
    clear he hx
    go_enter Try.func16, Try.ntmps16
    go_wp2_with (go_at_call 24; refine (check_any xs.length s _ (by omega) hs).mono ?_; rintro e w' ⟨rfl, hw'⟩; rw [hw']; clear hw' w')
    go_ret2
    exact ⟨_, rfl, Below.refl _ _, by rw [HN.out]; exact .inl ⟨rfl, _, _, rfl⟩⟩
end Go.Proofs.Ytbalmmaoiebppaa
