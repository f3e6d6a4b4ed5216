/- The law Evicts: walked. Conditions: none. -/
import Derived.Test.YtbalmmaoiebppaaVn
import Derived.BigQuiet
namespace Go.Proofs.Ytbalmmaoiebppaa
open Go.RowKit

theorem rfOut_short {n : Int} {l : List Int} (h1 : 1 ≤ n) (h2 : n ≤ 10000) (h3 : l.length ≤ 10000) : chkE l.length n = 0 ∧ rfOut n l = (rfS n l).2.2 := by
  have e : chkE l.length n = 0 := by unfold chkE; rw [if_neg (by omega), if_neg (by omega)]
  exact ⟨e, by unfold rfOut; rw [if_pos e]⟩
theorem map_take_succ (f : Int → Int) {l : List Int} {k : Nat} (h : k < l.length) : (l.take (k + 1)).map f = (l.take k).map f ++ [f (l.getD k 0)] := by rw [take_snoc h]; simp
theorem map_getD (f : Int → Int) {l : List Int} {k : Nat} (h : k < l.length) : (l.map f).getD k 0 = f (l.getD k 0) := by
  rw [getD_eq (by simpa using h), getD_eq h]; simp

set_option maxRecDepth 100000 in
set_option maxHeartbeats 1000000 in
theorem evicts_walk (v : Value) (bs : List Int) (s : Int) (w : World) (h : bytesAt w v bs) (hs : 0 ≤ s ∧ s < 256) :
    Calls Try.prog 7 #[v, .int .u8 s] w fun e w' => e = .returned (.bool true) ∧ Below w.heap.size w w' := by
  obtain ⟨hs1, hs2⟩ := hs
  obtain ⟨a, c, rfl, hcell⟩ := h.split
  have HC := Lib.hid hcell
  clear h hcell
  by_cases hbig : 300 < bs.length
  · have hgt : decide ((bs.length : Int) > 300) = true := by simp; omega
    go_enter Try.func7, Try.ntmps7
    go_upto_region 2 with (go_at_call 11; refine (awake_any _).mono ?_; rintro e w1 ⟨rfl, hb1⟩)
    go_wp2_with (go_at_call 11; refine (awake_any _).mono ?_; rintro e w2 ⟨rfl, hb2⟩)
    go_ret
    exact ⟨rfl, hb1.trans (hb2.mono hb1.size)⟩
  · have hgt : decide ((bs.length : Int) > 300) = false := by simp; omega
    have hl3 : bs.length ≤ 300 := by omega
    obtain ⟨nn, hn0⟩ : ∃ nn : Int, 1 + s % 12 = nn := ⟨_, rfl⟩
    have hn1 : 1 ≤ nn := by omega
    have hn2 : nn ≤ 12 := by omega
    obtain ⟨L, hL⟩ : ∃ L, L = bs.map (· % 16) := ⟨_, rfl⟩
    have hLl : L.length = bs.length := by rw [hL]; simp
    have hLr : ∀ x ∈ L, 0 ≤ x ∧ x < 16 := fun x hx => by rw [hL] at hx; simp at hx; obtain ⟨y, _, rfl⟩ := hx; omega
    have HL := Lib.hid hL
    have HLL := Lib.hid hLl
    have HLR := Lib.hid hLr
    clear hbig hL hLl hLr
    go_enter Try.func7, Try.ntmps7
    go_upto_region 4 with (go_at_call 11; refine (awake_any _).mono ?_; rintro e w1 ⟨rfl, hb1⟩)
    go_wp2_with fail
    clear hn0
    go_loopg [6, 30] bs.length (fun n s6 s30 wr => ∃ (k : Nat) (g : Option Nat), s30 = .int .i64 k ∧ k ≤ bs.length ∧ Hid (n = bs.length - k) ∧ Hid (own wr w.heap.size g s6 ((bs.take k).map (· % 16))) ∧ Below w.heap.size w wr)
    case atStart => exact ⟨0, none, rfl, by omega, rfl, ⟨rfl, _, rfl⟩, hb1⟩
    case round =>
      obtain ⟨k, g, rfl, hk, hn, ho, hbl⟩ := hrel
      by_cases hlt : k < bs.length
      · have hlti : (k : Int) < (bs.length : Int) := by omega
        obtain ⟨b, o, rfl, hx01, hc0⟩ := HC.out k hlt
        obtain ⟨hx0, hx1⟩ := hx01
        have hci := (hbl.cell (block_lt_of_cell hc0)).trans hc0
        obtain ⟨y, hy⟩ : ∃ y : Nat, bs.getD k 0 % 16 = y := ⟨(bs.getD k 0 % 16).toNat, by omega⟩
        have HS : Hid ((bs.take (k + 1)).map (· % 16) = (bs.take k).map (· % 16) ++ [(y : Int)]) := by show _ = _; rw [map_take_succ _ hlt, hy]
        have HLE : Hid (((bs.take k).map (· % 16)).length ≤ 300) := by show _ ≤ _; simp; omega
        obtain ⟨x, hx⟩ : ∃ x, x = bs.getD k 0 := ⟨_, rfl⟩
        rw [← hx] at hx0 hx1 hci hy
        obtain ⟨ao, no, co, rfl⟩ := ho.out.form
        clear hc0 hx
        obtain ⟨w0, hw0⟩ : ∃ w0, w0 = wr.alloc (.cells #[.int .i64 (y : Int)] 3) := ⟨_, rfl⟩
        have hbel0 : Below wr.heap.size wr w0 := by rw [hw0]; exact (Below.refl _ wr).alloc (Nat.le_refl _) _
        have HO0 : Hid (own w0 w.heap.size g (.slice ao no co) ((bs.take k).map (· % 16))) := ho.out.keeps (P := fun _ => False) (Keeps.of_below hbel0) (fun _ _ => id)
        have HC0 : Hid (w0.cell? ⟨wr.heap.size, 0, none⟩ = some (.int .i64 (y : Int))) := by show _ = _; rw [hw0, cell_of_block (heap_alloc_new wr _)]; simp
        have hb0 : Below w.heap.size w w0 := hbl.trans (hbel0.mono hbl.size)
        have hs0 := hb0.size
        have HW0 := Lib.hid hw0; clear hw0
        go_wp2_with (at_builtin; rw [← HW0.out]; refine wpList_push rfl _ _ rfl w.heap.size g _ _ rfl HO0.out _ _ (y : Int) rfl HC0.out (by have := HLE.out; omega) (by omega) ?_; intro a1 n1 c1 g1 w1 ho1 hn1 hk1 hg1; have HO1 := Lib.hid ho1; have hb2 := hk1.low hb0 fun k hk e => HO0.out.fresh hk e; clear ho1 hn1 hk1 hg1)
        go_roundg (bs.length - (k + 1))
        case rel => exact ⟨k + 1, g1, by go_num, by omega, rfl, by
          show own _ _ _ _ _
          rw [HS.out]; exact HO1.out, hb2⟩
        case measure => have := hn.out; omega
      · obtain ⟨al, nl, cl, rfl⟩ := ho.out.form
        have HO : Hid (own wr w.heap.size g (.slice al nl cl) L) := by
          have h1 := ho.out
          rw [List.take_of_length_le (by omega), ← HL.out] at h1
          exact h1
        have HFX : Hid (∀ x ∈ L, fits x) := fun x hx => by have := HLR.out x hx; exact ⟨by omega, by omega⟩
        have HFN : Hid (fits nn) := ⟨by omega, by omega⟩
        have HRD : Hid (rd wr (.slice al nl cl) L) := HO.out.rd
        have HNN : Hid (nn = nn ∧ chkE L.length nn = 0 ∧ rfOut nn L = (rfS nn L).2.2) := ⟨rfl, rfOut_short (by omega) (by omega) (by rw [HLL.out]; omega)⟩
        obtain rfl := own_len HO.out
        clear hb1
        have hlm : L.length ≤ 300 := by have := HLL.out; omega
        go_upto_region 11 with (go_at_call 16; with_reducible refine (refaults_any _ L nn _ HRD.out HFX.out HFN.out).mono ?_; rintro e w2 ⟨v2, rfl, hb2, hr2⟩; rw [HNN.out.2.1]; rw [HNN.out.2.2] at hr2; have hbl2 := hbl.trans (hb2.mono hbl.size); have HR2 := Lib.hid hr2; have HRL := Lib.hid (HO.out.rd.below hb2); clear hr2 hb2)
        obtain ⟨av, cv, rfl, hlv, hcv⟩ := HR2.out.split
        have hrl := rfS_len nn L
        rw [hrl] at hlv hcv ⊢
        obtain ⟨al', cl', hel, _, hcl⟩ := HRL.out.split
        injection hel with hel1 _ hel2
        subst hel1 hel2
        have HCV := Lib.hid hcv
        have HCL := Lib.hid hcl
        clear hcv hcl hrl
        go_upto_region 14 with fail
        obtain ⟨wt, hwt⟩ : ∃ wt, wt = w2.alloc (.cells #[.int .i64 0, .int .i64 0, .int .i64 0, .int .i64 0, .int .i64 0, .int .i64 0, .int .i64 0, .int .i64 0, .int .i64 0, .int .i64 0, .int .i64 0, .int .i64 0, .int .i64 0, .int .i64 0, .int .i64 0, .int .i64 0] 37) := ⟨_, rfl⟩
        have HREC : Hid (recI wt w2.heap.size (fun _ => 0)) := by show recI _ _ _; rw [hwt]; exact recI_new w2
        have hbt : Below w2.heap.size w2 wt := by rw [hwt]; exact (Below.refl _ w2).alloc (Nat.le_refl _) _
        rw [← hwt]
        clear hwt
        go_wp2_with fail
        go_loopg [12, 13, 58] L.length (fun n s12 s13 s58 wr => ∃ (k : Nat) (gq : Option Nat), s58 = .int .i64 k ∧ k ≤ L.length ∧ Hid (n = L.length - k) ∧ s13 = .int .i64 ((rfS nn (L.take k)).2.1.length : Nat) ∧ Hid (own wr w2.heap.size gq s12 (rfS nn (L.take k)).1) ∧ Hid (recI wr w2.heap.size (atv (rfS nn (L.take k)).1 (rfS nn (L.take k)).2.1)) ∧ Below w2.heap.size w2 wr)
        case atStart => exact ⟨0, none, rfl, by omega, rfl, rfl, ⟨rfl, _, rfl⟩, by
          show recI _ _ _
          have : atv (rfS nn (L.take 0)).1 (rfS nn (L.take 0)).2.1 = fun _ => 0 := by funext j; rfl
          rw [this]; exact HREC.out, hbt⟩
        case round =>
          obtain ⟨k, gq, rfl, hk, hn, rfl, hq, hr, hbr⟩ := hrel
          clear hbt
          by_cases hlt : k < L.length
          · have hlti : (k : Int) < (L.length : Int) := by omega
            obtain ⟨bl, ol, rfl, hcl⟩ := HCL.out k hlt
            obtain ⟨bv, ov, rfl, hcv⟩ := HCV.out k hlt
            have hcl0 := hcl k hlt
            have hcv0 := hcv k hlt
            have hcp := (hbr.cell (block_lt_of_cell hcl0)).trans hcl0
            have hcd := (hbr.cell (block_lt_of_cell hcv0)).trans hcv0
            have HAT := rfS_at (s := nn) hlt
            have HST : Hid (rfS nn (L.take (k + 1)) = rfStep nn (rfS nn (L.take k)) (L.getD k 0)) := rfS_step hlt
            obtain ⟨i1, i2, i3, _, i5⟩ := rfS_inv nn (by omega) (L.take k)
            have HND : Hid ((rfS nn (L.take k)).1.Nodup) := rfS_nodup _ _
            have hpr := HLR.out (L.getD k 0) (by rw [getD_eq hlt]; exact List.getElem_mem hlt)
            have htl : (L.take k).length = k := by rw [List.length_take]; omega
            rw [htl] at i2 i3
            obtain ⟨p, hp⟩ : ∃ p : Nat, L.getD k 0 = p := ⟨(L.getD k 0).toNat, by omega⟩
            obtain ⟨d, hd⟩ : ∃ d, (rfS nn L).2.2.getD k 0 = d := ⟨_, rfl⟩
            rw [hd] at hcd
            rw [hp] at hcp HST hpr
            rw [hd, hp] at HAT
            have hp16 : p < 16 := by omega
            have hp16i : (p : Int) < 16 := by omega
            generalize rfS nn (L.take k) = q at *
            obtain ⟨cc, gg, oo⟩ := q
            simp only at i1 i2 i3 i5 HND HAT hq hr
            have HCR : Hid (∀ x ∈ cc, 0 ≤ x ∧ x < 16) := fun x hx => HLR.out x (List.mem_of_mem_take (i5 x hx))
            clear hcl hcv hcl0 hcv0 hp hd i5 htl hpr
            obtain ⟨aq, nq', cq, rfl⟩ := hq.out.form
            obtain rfl := own_len hq.out
            obtain ⟨hrc, hrf⟩ := hr.out.cell hp16
            by_cases hin : (p : Int) ∈ cc
            · rw [if_pos hin] at HAT
              subst HAT
              rw [atv_in hin] at hrc
              have HS : Hid ((rfS nn (L.take (k + 1))).1 = cc ∧ (rfS nn (L.take (k + 1))).2.1 = gg) := by
                have : rfS nn (L.take (k + 1)) = (cc, gg, oo ++ [-1]) := by rw [HST.out]; unfold rfStep; rw [if_pos hin]
                rw [this]; exact ⟨rfl, rfl⟩
              clear hin HST
              go_upto_region 21 with fail
              go_quiet (fail)
              go_wp2_with fail
              go_roundg (L.length - (k + 1))
              case rel => exact ⟨k + 1, gq, by go_num, by omega, rfl, by rw [HS.out.2], by
                show own _ _ _ _ _
                rw [HS.out.1]; exact hq.out, by
                show recI _ _ _
                rw [HS.out.1, HS.out.2]; exact hr.out, Below.drewN' hbr _⟩
              case measure => have := hn.out; omega
            · rw [if_neg hin] at HAT
              have HIN := Lib.hid hin
              have hav := atv_dst (g := gg) hin
              rw [← HAT] at hav
              generalize atv cc gg (p : Int) = av at *
              have HG : Hid (gg.length ≤ 300) := by show _ ≤ _; omega
              clear hin HAT
              have hcc : cc.length ≤ 300 := by omega
              have hgg : gg.length ≤ 300 := by omega
              clear i3
              rcases hav with ⟨rfl, rfl⟩ | ⟨hav1, hav2, rfl⟩
              all_goals
                go_upto_region 21 with fail
                go_quiet (fail)
                go_upto_region 24 with fail
                have HQ1 : Hid (own (wr.drewN nq) w2.heap.size gq (.slice aq cc.length cq) cc) := hq.out
                have HR1 : Hid (recI (wr.drewN nq) w2.heap.size (atv cc gg)) := hr.out
                have hbr1 : Below w2.heap.size w2 (wr.drewN nq) := Below.drewN' hbr _
                generalize wr.drewN nq = wd at *
                by_cases hfull : (cc.length : Int) = nn
                · have hfu : ((cc.length : Int) == nn) = true := by simpa using hfull
                  have hne : cc ≠ [] := by intro e; rw [e] at hfull; simp at hfull; omega
                  have HS : Hid ((rfS nn (L.take (k + 1))).1 = cc.tail ++ [(p : Int)] ∧ (rfS nn (L.take (k + 1))).2.1 = gg ++ [cc.headD 0]) := by
                    have : rfS nn (L.take (k + 1)) = (cc.tail ++ [(p : Int)], gg ++ [cc.headD 0], oo ++ [dst gg p]) := by rw [HST.out]; unfold rfStep; rw [if_neg HIN.out, if_pos hfull]
                    rw [this]; exact ⟨rfl, rfl⟩
                  have hxr := HCR.out (cc.headD 0) (by cases cc with | nil => exact absurd rfl hne | cons a c => simp)
                  obtain ⟨x, hx⟩ : ∃ x : Nat, cc.headD 0 = x := ⟨(cc.headD 0).toNat, by omega⟩
                  rw [hx] at hxr
                  have hx16 : x < 16 := by omega
                  have hx16i : (x : Int) < 16 := by omega
                  have HATV : Hid ((fun j => if j = (p : Int) then -1 else if j = (x : Int) then 1 + ((gg.length : Int) + 1) else atv cc gg j) = atv (cc.tail ++ [(p : Int)]) (gg ++ [(x : Int)])) := by
                    show _ = _
                    have h1 := HIN.out
                    have h2 := HND.out
                    cases cc with
                    | nil => exact absurd rfl hne
                    | cons a c =>
                      simp only [List.headD_cons] at hx
                      subst hx
                      exact (atv_full h1 h2).symm
                  rw [hx] at HS
                  obtain ⟨bq, oq, cq', hgq, hvq, hcq⟩ := HQ1.out.head hne
                  rw [hx] at hcq
                  injection hvq with hv1 _ hv3
                  subst hv1 hv3
                  have h0 : (0 : Int) < (cc.length : Int) := by omega
                  obtain ⟨hrx, hrxf⟩ := HR1.out.cell hx16
                  have HNE := Lib.hid hne
                  clear hx hgq hfull hne hxr hrc hrf
                  go_upto_region 27 with fail
                  have hset := setCell_keeps wd w2.heap.size x (.int .i64 (1 + ((gg.length : Int) + 1)))
                  have HR2 : Hid (recI (wd.setCell ⟨w2.heap.size, x, none⟩ (.int .i64 (1 + ((gg.length : Int) + 1)))) w2.heap.size (fun i => if i = (x : Int) then 1 + ((gg.length : Int) + 1) else atv cc gg i)) := HR1.out.set hx16 _
                  have HQ2 : Hid (own (wd.setCell ⟨w2.heap.size, x, none⟩ (.int .i64 (1 + ((gg.length : Int) + 1)))) w2.heap.size gq (.slice (some ⟨bq, oq, none⟩) cc.length cq) cc) := HQ1.out.keeps hset (fun b hb e => HR1.out.ne HQ1.out (by rw [hb, e]))
                  have hb2' : Below w2.heap.size w2 (wd.setCell ⟨w2.heap.size, x, none⟩ (.int .i64 (1 + ((gg.length : Int) + 1)))) := hset.low hbr1 fun k hk e => by omega
                  generalize wd.setCell ⟨w2.heap.size, x, none⟩ (.int .i64 (1 + ((gg.length : Int) + 1))) = ws at *
                  obtain ⟨a', n', c', g', hrun, ho, -, hg'⟩ := run_tail ws w2.heap.size gq _ cc HQ2.out HNE.out
                  have HO3 := Lib.hid ho
                  clear ho hcq hset hrx hrxf
                  obtain ⟨wp, hwp⟩ : ∃ wp, wp = ws.alloc (.cells #[.int .i64 (p : Int)] 3) := ⟨_, rfl⟩
                  have hbelp : Below ws.heap.size ws wp := by rw [hwp]; exact (Below.refl _ ws).alloc (Nat.le_refl _) _
                  have HQp : Hid (own wp w2.heap.size g' (.slice a' n' c') cc.tail) := HO3.out.keeps (P := fun _ => False) (Keeps.of_below hbelp) (fun _ _ => id)
                  have HRp : Hid (recI wp w2.heap.size (fun i => if i = (x : Int) then 1 + ((gg.length : Int) + 1) else atv cc gg i)) := HR2.out.keeps (P := fun _ => False) (Keeps.of_below hbelp) id
                  have HCp : Hid (wp.cell? ⟨ws.heap.size, 0, none⟩ = some (.int .i64 (p : Int))) := by show _ = _; rw [hwp, cell_of_block (heap_alloc_new ws _)]; simp
                  have hbp : Below w2.heap.size w2 wp := hb2'.trans (hbelp.mono hb2'.size)
                  have hsp := hbp.size
                  have HWp := Lib.hid hwp; clear hwp hbelp
                  go_wp2_with (at_builtin; rw [← HWp.out]; refine wpList_push rfl _ _ rfl w2.heap.size g' _ cc.tail rfl HQp.out _ _ (p : Int) rfl HCp.out (by simp; omega) (by omega) ?_; intro a5 n5 c5 g5 w5 ho5 hn5 hk5 hg5; have HQ5 := Lib.hid ho5; have HR5 := Lib.hid (HRp.out.keeps hk5 (fun e => HRp.out.ne HQp.out e)); have hb5 := hk5.low hbp fun k hk e => HQp.out.fresh hk e; (obtain ⟨hc5, hf5⟩ := HR5.out.cell hp16); clear ho5 hn5 hk5 hg5)
                  go_roundg (L.length - (k + 1))
                  case rel => exact ⟨k + 1, g5, by go_num, by omega, rfl, by rw [HS.out.2]; simp, by
                    show own _ _ _ _ _
                    rw [HS.out.1]; exact HQ5.out.keeps (setCell_keeps _ _ _ _) (fun b hb e => HR5.out.ne HQ5.out (by rw [hb, e])), by
                    show recI _ _ _
                    rw [HS.out.1, HS.out.2]; exact (HR5.out.set hp16 (-1)).eq HATV.out, (setCell_keeps _ _ _ _).low hb5 fun k hk e => by omega⟩
                  case measure => have := hn.out; omega
                · have hfu : ((cc.length : Int) == nn) = false := by simpa using hfull
                  have HS : Hid ((rfS nn (L.take (k + 1))).1 = cc ++ [(p : Int)] ∧ (rfS nn (L.take (k + 1))).2.1 = gg) := by
                    have : rfS nn (L.take (k + 1)) = (cc ++ [(p : Int)], gg, oo ++ [dst gg p]) := by rw [HST.out]; unfold rfStep; rw [if_neg HIN.out, if_neg hfull]
                    rw [this]; exact ⟨rfl, rfl⟩
                  have HATV : Hid ((fun j => if j = (p : Int) then -1 else atv cc gg j) = atv (cc ++ [(p : Int)]) gg) := atv_room.symm
                  clear hfull hrc hrf
                  obtain ⟨wp, hwp⟩ : ∃ wp, wp = wd.alloc (.cells #[.int .i64 (p : Int)] 3) := ⟨_, rfl⟩
                  have hbelp : Below wd.heap.size wd wp := by rw [hwp]; exact (Below.refl _ wd).alloc (Nat.le_refl _) _
                  have HQp : Hid (own wp w2.heap.size gq (.slice aq cc.length cq) cc) := HQ1.out.keeps (P := fun _ => False) (Keeps.of_below hbelp) (fun _ _ => id)
                  have HRp : Hid (recI wp w2.heap.size (atv cc gg)) := HR1.out.keeps (P := fun _ => False) (Keeps.of_below hbelp) id
                  have HCp : Hid (wp.cell? ⟨wd.heap.size, 0, none⟩ = some (.int .i64 (p : Int))) := by show _ = _; rw [hwp, cell_of_block (heap_alloc_new wd _)]; simp
                  have hbp : Below w2.heap.size w2 wp := hbr1.trans (hbelp.mono hbr1.size)
                  have hsp := hbp.size
                  have HWp := Lib.hid hwp; clear hwp hbelp
                  go_wp2_with (at_builtin; rw [← HWp.out]; refine wpList_push rfl _ _ rfl w2.heap.size gq _ cc rfl HQp.out _ _ (p : Int) rfl HCp.out (by omega) (by omega) ?_; intro a5 n5 c5 g5 w5 ho5 hn5 hk5 hg5; have HQ5 := Lib.hid ho5; have HR5 := Lib.hid (HRp.out.keeps hk5 (fun e => HRp.out.ne HQp.out e)); have hb5 := hk5.low hbp fun k hk e => HQp.out.fresh hk e; (obtain ⟨hc5, hf5⟩ := HR5.out.cell hp16); clear ho5 hn5 hk5 hg5)
                  go_roundg (L.length - (k + 1))
                  case rel => exact ⟨k + 1, g5, by go_num, by omega, rfl, by rw [HS.out.2], by
                    show own _ _ _ _ _
                    rw [HS.out.1]; exact HQ5.out.keeps (setCell_keeps _ _ _ _) (fun b hb e => HR5.out.ne HQ5.out (by rw [hb, e])), by
                    show recI _ _ _
                    rw [HS.out.1, HS.out.2]; exact (HR5.out.set hp16 (-1)).eq HATV.out, (setCell_keeps _ _ _ _).low hb5 fun k hk e => by omega⟩
                  case measure => have := hn.out; omega
          · go_wp2_with fail
            go_ret
            exact ⟨rfl, hbl2.trans (hbr.mono hbl2.size)⟩
end Go.Proofs.Ytbalmmaoiebppaa
