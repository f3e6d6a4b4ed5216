/- The law Enough: walked. Conditions: none. -/
import Derived.Test.YtbalmmaoiebppaaVb
namespace Go.Proofs.Ytbalmmaoiebppaa
open Go.RowKit

theorem lsOut_short {n b : Int} {l : List Int} (h1 : 1 ≤ n) (h2 : n ≤ 10000) (h3 : l.length ≤ 10000) (h4 : 0 ≤ b) (h5 : b ≤ n) : lsE l.length n b = 0 ∧ lsOut n b l = (lsS n b l).2.2.2 := by
  have e : lsE l.length n b = 0 := by unfold lsE; rw [if_pos (rfOut_short h1 h2 h3).1, if_neg (by omega)]
  exact ⟨e, by unfold lsOut; rw [if_pos e]⟩

set_option maxRecDepth 100000 in
set_option maxHeartbeats 2000000 in
theorem enough_walk (v : Value) (bs : List Int) (s t : Int) (w : World) (h : bytesAt w v bs) (hs : 0 ≤ s ∧ s < 256) (ht : 0 ≤ t ∧ t < 256) :
    Calls Try.prog 8 #[v, .int .u8 s, .int .u8 t] w fun e w' => e = .returned (.bool true) ∧ Below w.heap.size w w' := by
  obtain ⟨hs1, hs2⟩ := hs
  obtain ⟨ht1, ht2⟩ := ht
  obtain ⟨a, c, rfl, hcell⟩ := h.split
  have HC := Lib.hid hcell
  clear h hcell
  by_cases hbig : 300 < bs.length
  · have hgt : decide ((bs.length : Int) > 300) = true := by simp; omega
    go_enter Try.func8, Try.ntmps8
    go_upto_region 2 with (go_at_call 11; refine (awake_any _).mono ?_; rintro e w1 ⟨rfl, hb1⟩)
    go_wp2_with (go_at_call 11; refine (awake_any _).mono ?_; rintro e w2 ⟨rfl, hb2⟩)
    go_ret
    exact ⟨rfl, hb1.trans (hb2.mono hb1.size)⟩
  · have hgt : decide ((bs.length : Int) > 300) = false := by simp; omega
    have hl3 : bs.length ≤ 300 := by omega
    clear hbig
    go_enter Try.func8, Try.ntmps8
    go_upto_region 4 with (go_at_call 11; refine (awake_any _).mono ?_; rintro e w1 ⟨rfl, hb1⟩)
    obtain ⟨wt, hwt⟩ : ∃ wt, wt = w1.alloc (.cells Try.zeroCells39 39) := ⟨_, rfl⟩
    have HMK : Hid (marks wt w1.heap.size []) := by show marks _ _ _; rw [hwt]; exact marks_new w1
    have hbt : Below w1.heap.size w1 wt := by rw [hwt]; exact (Below.refl _ w1).alloc (Nat.le_refl _) _
    rw [← hwt]
    clear hwt
    go_wp2_with fail
    go_loopg [8, 9, 29] bs.length (fun n s8 s9 s29 wr => ∃ (k : Nat) (g : Option Nat), s29 = .int .i64 k ∧ k ≤ bs.length ∧ Hid (n = bs.length - k) ∧ s9 = .int .i64 ((dis (bs.take k)).length : Nat) ∧ Hid (own wr w1.heap.size g s8 (bs.take k)) ∧ Hid (marks wr w1.heap.size (dis (bs.take k))) ∧ Below w1.heap.size w1 wr)
    case atStart => exact ⟨0, none, rfl, by omega, rfl, rfl, ⟨rfl, _, rfl⟩, HMK.out, hbt⟩
    case round =>
      obtain ⟨k, g, rfl, hk, hn, rfl, ho, hm, hbl⟩ := hrel
      have hdl := dis_len_le (bs.take k)
      rw [List.length_take] at hdl
      by_cases hlt : k < bs.length
      · have hlti : (k : Int) < (bs.length : Int) := by omega
        obtain ⟨b, o, rfl, hx01, hc0⟩ := HC.out k hlt
        have hbw := hb1.trans (hbl.mono hb1.size)
        have hci := (hbw.cell (block_lt_of_cell hc0)).trans hc0
        have HS : Hid (bs.take (k + 1) = bs.take k ++ [bs.getD k 0]) := take_snoc hlt
        have HSD : Hid (dis (bs.take (k + 1)) = if bs.getD k 0 ∈ dis (bs.take k) then dis (bs.take k) else dis (bs.take k) ++ [bs.getD k 0]) := by show _ = _; rw [take_snoc hlt, dis_snoc]
        have HLE : Hid ((bs.take k).length ≤ 300) := by show _ ≤ _; simp; omega
        obtain ⟨x, hx⟩ : ∃ x : Nat, bs.getD k 0 = x := ⟨(bs.getD k 0).toNat, by omega⟩
        rw [hx] at hx01 hci HS HSD
        have hx1 : x < 256 := by omega
        have hx1i : (x : Int) < 256 := by omega
        obtain ⟨ao, no, co, rfl⟩ := ho.out.form
        obtain ⟨hmc, hmf⟩ := hm.out.cell hx1
        generalize dis (bs.take k) = D at *
        have hdl' : D.length ≤ 300 := by omega
        clear hc0 hx hx01 hbw hdl
        by_cases hin : (x : Int) ∈ D
        · rw [decide_eq_true hin] at hmc
          have HD : Hid (dis (bs.take (k + 1)) = D) := by show _ = _; rw [HSD.out, if_pos hin]
          clear hin HSD
          obtain ⟨w0, hw0⟩ : ∃ w0, w0 = wr.alloc (.cells #[.int .i64 (x : Int)] 3) := ⟨_, rfl⟩
          have hbel0 : Below wr.heap.size wr w0 := by rw [hw0]; exact (Below.refl _ wr).alloc (Nat.le_refl _) _
          have HO0 : Hid (own w0 w1.heap.size g (.slice ao no co) (bs.take k)) := ho.out.keeps (P := fun _ => False) (Keeps.of_below hbel0) (fun _ _ => id)
          have HM0 : Hid (marks w0 w1.heap.size D) := hm.out.keeps (P := fun _ => False) (Keeps.of_below hbel0) id
          have HC0 : Hid (w0.cell? ⟨wr.heap.size, 0, none⟩ = some (.int .i64 (x : Int))) := by show _ = _; rw [hw0, cell_of_block (heap_alloc_new wr _)]; simp
          have hb0 : Below w1.heap.size w1 w0 := hbl.trans (hbel0.mono hbl.size)
          have hs0 := hb0.size
          have HW0 := Lib.hid hw0; clear hw0
          go_wp2_with (at_builtin; rw [← HW0.out]; refine wpList_push rfl _ _ rfl w1.heap.size g _ _ rfl HO0.out _ _ (x : Int) rfl HC0.out (by have := HLE.out; omega) (by omega) ?_; intro a1 n1 c1 g1 w2 ho1 hn1 hk1 hg1; have HO1 := Lib.hid ho1; have HM1 := Lib.hid (HM0.out.keeps hk1 (fun e => HM0.out.ne HO0.out e)); have hb2 := hk1.low hb0 fun k hk e => HO0.out.fresh hk e; clear ho1 hn1 hk1 hg1)
          go_roundg (bs.length - (k + 1))
          case rel => exact ⟨k + 1, g1, by go_num, by omega, rfl, by rw [HD.out], by
            show own _ _ _ _ _
            rw [HS.out]; exact HO1.out, by
            show marks _ _ _
            rw [HD.out]; exact HM1.out, hb2⟩
          case measure => have := hn.out; omega
        · rw [decide_eq_false hin] at hmc
          have HD : Hid (dis (bs.take (k + 1)) = D ++ [(x : Int)]) := by show _ = _; rw [HSD.out, if_neg hin]
          clear hin HSD
          go_upto_region 12 with fail
          have hset := setCell_keeps wr w1.heap.size x (.bool true)
          have HMS : Hid (marks (wr.setCell ⟨w1.heap.size, x, none⟩ (.bool true)) w1.heap.size (D ++ [(x : Int)])) := hm.out.set hx1 (fun y => by simp)
          have HOS : Hid (own (wr.setCell ⟨w1.heap.size, x, none⟩ (.bool true)) w1.heap.size g (.slice ao no co) (bs.take k)) := ho.out.keeps hset (fun b hb e => hm.out.ne ho.out (by rw [hb, e]))
          have hbs : Below w1.heap.size w1 (wr.setCell ⟨w1.heap.size, x, none⟩ (.bool true)) := hset.low hbl fun k hk e => by omega
          generalize wr.setCell ⟨w1.heap.size, x, none⟩ (.bool true) = ws at *
          clear hmc hmf hset
          obtain ⟨w0, hw0⟩ : ∃ w0, w0 = ws.alloc (.cells #[.int .i64 (x : Int)] 3) := ⟨_, rfl⟩
          have hbel0 : Below ws.heap.size ws w0 := by rw [hw0]; exact (Below.refl _ ws).alloc (Nat.le_refl _) _
          have HO0 : Hid (own w0 w1.heap.size g (.slice ao no co) (bs.take k)) := HOS.out.keeps (P := fun _ => False) (Keeps.of_below hbel0) (fun _ _ => id)
          have HM0 : Hid (marks w0 w1.heap.size (D ++ [(x : Int)])) := HMS.out.keeps (P := fun _ => False) (Keeps.of_below hbel0) id
          have HC0 : Hid (w0.cell? ⟨ws.heap.size, 0, none⟩ = some (.int .i64 (x : Int))) := by show _ = _; rw [hw0, cell_of_block (heap_alloc_new ws _)]; simp
          have hb0 : Below w1.heap.size w1 w0 := hbs.trans (hbel0.mono hbs.size)
          have hs0 := hb0.size
          have HW0 := Lib.hid hw0; clear hw0
          go_wp2_with (at_builtin; rw [← HW0.out]; refine wpList_push rfl _ _ rfl w1.heap.size g _ _ rfl HO0.out _ _ (x : Int) rfl HC0.out (by have := HLE.out; omega) (by omega) ?_; intro a1 n1 c1 g1 w2 ho1 hn1 hk1 hg1; have HO1 := Lib.hid ho1; have HM1 := Lib.hid (HM0.out.keeps hk1 (fun e => HM0.out.ne HO0.out e)); have hb2 := hk1.low hb0 fun k hk e => HO0.out.fresh hk e; clear ho1 hn1 hk1 hg1)
          go_roundg (bs.length - (k + 1))
          case rel => exact ⟨k + 1, g1, by go_num, by omega, rfl, by rw [HD.out]; simp, by
            show own _ _ _ _ _
            rw [HS.out]; exact HO1.out, by
            show marks _ _ _
            rw [HD.out]; exact HM1.out, hb2⟩
          case measure => have := hn.out; omega
      · obtain ⟨al, nl, cl, rfl⟩ := ho.out.form
        have hbl1 := hb1.trans (hbl.mono hb1.size)
        rw [List.take_of_length_le (by omega)] at ho hdl ⊢
        obtain rfl := own_len ho.out
        have HRD : Hid (rd wr (.slice al bs.length cl) bs) := ho.out.rd
        have HFX : Hid (∀ x ∈ bs, fits x) := fun x hx => by
          obtain ⟨j, hj, rfl⟩ := List.getElem_of_mem hx
          obtain ⟨_, _, _, h1, _⟩ := HC.out j hj
          rw [getD_eq hj] at h1; exact ⟨by omega, by omega⟩
        obtain ⟨N, hN⟩ : ∃ N : Nat, N = max 1 (dis bs).length := ⟨_, rfl⟩
        have HNN : Hid ((dis bs).length ≤ N) := by show _ ≤ _; omega
        have HF1 := Lib.hid (rf_few (1 + s) (by omega) bs)
        have HF2 := Lib.hid (rf_all N bs (by omega)).2.2
        have HF3 : Hid (flt (lsS N (t % (N + 1)) bs).2.2.2 = (dis bs).length) := (ls_all N (t % (N + 1)) bs (by omega)).2.2
        have hN1 : 1 ≤ N := by omega
        have hN2 : N ≤ 300 := by omega
        have HM1 : Hid (max 1 ((dis bs).length : Int) = N) := by show _ = _; omega
        generalize (dis bs).length = D at *
        go_upto_region 15 with fail
        rw [HM1.out]
        obtain ⟨z, hz⟩ : ∃ z : Int, t % (N + 1) = z := ⟨_, rfl⟩
        have hz0 : 0 ≤ z := by rw [← hz]; exact Int.emod_nonneg _ (by omega)
        have hz1 : z ≤ N := by have := Int.emod_lt_of_pos t (b := (N : Int) + 1) (by omega); omega
        rw [hz] at HF3
        obtain ⟨n1, n2⟩ := rfOut_short (n := 1 + s) (l := bs) (by omega) (by omega) (by omega)
        obtain ⟨n3, n4⟩ := rfOut_short (n := (N : Int)) (l := bs) (by omega) (by omega) (by omega)
        obtain ⟨n5, n6⟩ := lsOut_short (n := (N : Int)) (b := z) (l := bs) (by omega) (by omega) (by omega) hz0 hz1
        have q1 := rfS_len (1 + s) bs
        have q2 := rfS_len N bs
        have q3 := lsS_len N z bs
        have N1 := Lib.hid n1
        have N2 := Lib.hid n2
        have N3 := Lib.hid n3
        have N4 := Lib.hid n4
        have N5 := Lib.hid n5
        have N6 := Lib.hid n6
        have FA : Hid (fits (1 + s)) := ⟨by omega, by omega⟩
        have FB : Hid (fits N) := ⟨by omega, by omega⟩
        have FC : Hid (fits z) := ⟨by omega, by omega⟩
        clear n1 n2 n3 n4 n5 n6 hb1 hN
        generalize (rfS (1 + s) bs).2.2 = o1 at *
        generalize (rfS N bs).2.2 = o2 at *
        generalize (lsS N z bs).2.2.2 = o3 at *
        have Q1 := Lib.hid q1
        have Q2 := Lib.hid q2
        have Q3 := Lib.hid q3
        clear q1 q2 q3
        have e1 : ((bs.length : Int) != (bs.length : Int)) = false := by simp
        go_upto_region 16 with (go_at_call 16; with_reducible refine (refaults_any _ bs (1 + s) _ HRD.out HFX.out FA.out).mono ?_; rintro e w2 ⟨v2, rfl, hb2, hr2⟩; rw [N1.out]; rw [N2.out] at hr2; have hbl2 := hbl1.trans (hb2.mono hbl1.size); have HR2 := Lib.hid hr2; have HRL2 := Lib.hid (HRD.out.below hb2); clear hr2 hb2)
        go_upto_region 17 with (go_at_call 16; with_reducible refine (refaults_any _ bs N _ HRL2.out HFX.out FB.out).mono ?_; rintro e w3 ⟨v3, rfl, hb3, hr3⟩; rw [N3.out]; rw [N4.out] at hr3; have hbl3 := hbl2.trans (hb3.mono hbl2.size); have HR3 := Lib.hid hr3; have HR2' := Lib.hid (HR2.out.below hb3); have HRL3 := Lib.hid (HRL2.out.below hb3); clear hr3 hb3)
        go_upto_region 18 with (go_at_call 19; with_reducible refine (lists_any _ bs N z _ HRL3.out HFX.out FB.out FC.out).mono ?_; rintro e w4 ⟨v4, rfl, hb4, hr4⟩; rw [N5.out]; rw [N6.out] at hr4; have hbl4 := hbl3.trans (hb4.mono hbl3.size); have HR4 := Lib.hid hr4; have HR3' := Lib.hid (HR3.out.below hb4); have HR2'' := Lib.hid (HR2'.out.below hb4); clear hr4 hb4)
        obtain ⟨p2, c2, rfl, _, _⟩ := HR2.out.split
        obtain ⟨p3, c3, rfl, _, _⟩ := HR3.out.split
        obtain ⟨p4, c4, rfl, _, _⟩ := HR4.out.split
        have HRa : Hid (rd w4 (.slice p2 bs.length c2) o1) := by have h := HR2''.out; rw [Q1.out] at h; exact h
        have HRb : Hid (rd w4 (.slice p3 bs.length c3) o2) := by have h := HR3'.out; rw [Q2.out] at h; exact h
        have HRc : Hid (rd w4 (.slice p4 bs.length c4) o3) := by have h := HR4.out; rw [Q3.out] at h; exact h
        rw [Q1.out, Q2.out, Q3.out]
        clear hz
        go_wp2_with (first | (go_at_call 22; with_reducible refine (faults_any _ o2 _ HRb.out (by have := Q2.out; omega)).mono ?_; rintro e wv ⟨rfl, hwv⟩; rw [hwv, HF2.out]; clear hwv wv) | (go_at_call 22; with_reducible refine (faults_any _ o3 _ HRc.out (by have := Q3.out; omega)).mono ?_; rintro e wv ⟨rfl, hwv⟩; rw [hwv, HF3.out]; clear hwv wv) | (go_at_call 22; with_reducible refine (faults_any _ o1 _ HRa.out (by have := Q1.out; omega)).mono ?_; rintro e wv ⟨rfl, hwv⟩; rw [hwv]; clear hwv wv; have hge := HF1.out))
        go_ret
        exact ⟨rfl, hbl4⟩
end Go.Proofs.Ytbalmmaoiebppaa
