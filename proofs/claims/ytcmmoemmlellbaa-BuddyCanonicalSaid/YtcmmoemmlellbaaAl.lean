/- Alloc: walked. Conditions: the numbers fit. -/
import Derived.Test.YtcmmoemmlellbaaCl
import Derived.Test.YtcmmoemmlellbaaAm
namespace Go.Proofs.Ytcmmoemmlellbaa
open Go.RowKit

attribute [local go_sem] wrap_pow

def fitsL (L : FL) : Prop := ∀ k, k ≤ 4 → ∀ x, x ∈ L k → fits x

set_option maxRecDepth 100000 in
set_option maxHeartbeats 1000000 in
theorem alloc_err (z : Zh) (s : Nat → Value) (L : FL) (o : Int) (w : World) (hz : z.fits) (hrd : rdZ w s L) (hfit : fitsL L) (he : chkM z L ≠ 0) :
    Calls Try.prog 21 #[zv z s, .int .i64 o] w fun e w' => e = .returned (.tuple #[zv z0 nilS, .int .i64 0, .int .i64 (chkM z L)]) ∧ Below w.heap.size w w' := by
  have HR := Lib.hid hrd; clear hrd
  have HF := Lib.hid hfit; clear hfit
  go_enter Try.func21, Try.ntmps21
  go_upto_region 3 with (go_at_call 16; refine (check_any z s L _ hz (HR.out.below (below_two w _ _)) HF.out).mono ?_; rintro e w1 ⟨rfl, hb1⟩)
  have hbox : boxed w1 (w.heap.size + 1) z0 nilS := (hb1.block (w.heap.size + 1) (by rw [size_two]; omega)).trans (heap_alloc2_new w _ _)
  have hbel := below_box hb1
  clear hb1
  go_wp2_with (refine store_zone rfl (.tmp 4) (.tmp 18) rfl (w.heap.size + 1) z0 nilS z0 nilS rfl rfl hbox slices_nil ?_; intro w2 hbx2 hk2)
  exact bodyPost_ret (results_zone3 rfl _ _ (w.heap.size + 1) z0 nilS rfl hbx2) rfl ⟨rfl, hbel.trans (hk2.to_below hbel.size fun k hk => by omega)⟩

set_option maxRecDepth 100000 in
set_option maxHeartbeats 1000000 in
theorem alloc_ord (z : Zh) (s : Nat → Value) (L : FL) (o : Int) (w : World) (hz : z.ok = true) (hv : Valid z L) (hrd : rdZ w s L) (ho : o < 0 ∨ 4 < o) :
    Calls Try.prog 21 #[zv z s, .int .i64 o] w fun e w' => e = .returned (.tuple #[zv z0 nilS, .int .i64 0, .int .i64 2]) ∧ Below w.heap.size w w' := by
  have HR := Lib.hid hrd; clear hrd
  have HV := Lib.hid hv; clear hv
  rcases ho with ho | ho
  all_goals
    try (have ho' : ¬ o < 0 := by omega)
    go_enter Try.func21, Try.ntmps21
    go_upto_region 5 with (go_at_call 16; refine (check_ok z s L _ hz HV.out (HR.out.below (below_two w _ _))).mono ?_; rintro e w1 ⟨rfl, hb1⟩)
    have hbox : boxed w1 (w.heap.size + 1) z0 nilS := (hb1.block (w.heap.size + 1) (by rw [size_two]; omega)).trans (heap_alloc2_new w _ _)
    have hbel := below_box hb1
    clear hb1
    go_wp2_with (refine store_zone rfl (.tmp 4) (.tmp 26) rfl (w.heap.size + 1) z0 nilS z0 nilS rfl rfl hbox slices_nil ?_; intro w2 hbx2 hk2)
    exact bodyPost_ret (results_zone3 rfl _ _ (w.heap.size + 1) z0 nilS rfl hbx2) rfl ⟨rfl, hbel.trans (hk2.to_below hbel.size fun k hk => by omega)⟩

theorem tail_len (l : List Int) : l.tail.length = l.length - 1 := by simp
theorem own_tail_none {w : World} {base b o c : Nat} {xs : List Int} (hlen : xs.length ≤ c) (h1 : xs ≠ []) (hc : c = 1) :
    Go.Proofs.Ytcmmoemmlellbaa.own w base none (.slice (some ⟨b, o, none⟩) 0 0) xs.tail := by
  have : 0 < xs.length := by cases xs <;> simp at *
  have h2 : xs.length - 1 = 0 := by omega
  exact ⟨List.length_eq_zero_iff.1 (by rw [tail_len]; exact h2), ⟨_, rfl⟩⟩
theorem own_tail_some {w : World} {base b o c : Nat} {C : Array Value} {xs : List Int} (hb : base ≤ b) (hlen : xs.length ≤ c) (hm : c ≤ 9223372036854775807) (hh : w.heap[b]? = some (.cells C 3 (0, 0))) (hs : o + c ≤ C.size)
    (hc : ∀ j, j < xs.length → C[o + j]? = some (.int .i64 (xs.getD j 0))) (h1 : xs ≠ []) :
    Go.Proofs.Ytcmmoemmlellbaa.own w base (some b) (.slice (some ⟨b, o + 1, none⟩) (xs.length - 1) (c - 1)) xs.tail := by
  have h0 : 0 < xs.length := by cases xs <;> simp at *
  refine ⟨hb, o + 1, c - 1, C, by rw [tail_len], by rw [tail_len]; omega, by omega, hh, by omega, fun j hj => ?_⟩
  rw [tail_len] at hj
  rw [show o + 1 + j = o + (j + 1) by omega, hc (j + 1) (by omega)]
  cases xs <;> simp at *

set_option maxRecDepth 100000 in
set_option maxHeartbeats 2000000 in
theorem alloc_far (z : Zh) (s : Nat → Value) (L : FL) (o : Nat) (w : World) (hz : z.ok = true) (hv : Valid z L) (hrd : rdZ w s L) (ho : o ≤ 4) :
    Calls Try.prog 21 #[zv z s, .int .i64 o] w fun e w' => Below w.heap.size w w' ∧ ((findK L (5 - o) o = none ∧ e = .returned (.tuple #[zv z0 nilS, .int .i64 0, .int .i64 16])) ∨
      ∃ k s', findK L (5 - o) o = some k ∧ e = .returned (.tuple #[zv z s', .int .i64 ((L k).headD 0), .int .i64 0]) ∧ farZ w' w.heap.size s' (allocL L o k) ∧ slices s') := by
  have HR := Lib.hid hrd; clear hrd
  have HV := Lib.hid hv; clear hv
  go_enter Try.func21, Try.ntmps21
  go_upto_block 0 with (go_at_call 16; refine (check_ok z s L _ hz HV.out (HR.out.below (below_two w _ _))).mono ?_; rintro e w1 ⟨rfl, hb1⟩)
  have hbox : boxed w1 (w.heap.size + 1) z0 nilS := (hb1.block (w.heap.size + 1) (by rw [size_two]; omega)).trans (heap_alloc2_new w _ _)
  have hbox0 : boxed w1 w.heap.size z s := (hb1.block w.heap.size (by rw [size_two]; omega)).trans (heap_alloc2_old w _ _)
  have hsz : w.heap.size + 2 ≤ w1.heap.size := Nat.le_trans (by rw [size_two]; omega) hb1.size
  have hbel := below_box hb1
  have H0 := Lib.hid hbox0
  have H1 := Lib.hid hbox
  clear hb1 hbox hbox0
  go_cut [8] from 28 (fun s8 wx => Hid (wx = w1) ∧ ∃ k : Nat, s8 = .int .i64 k ∧ k ≤ 5 ∧ Hid (findK L (5 - k) k = findK L (5 - o) o) ∧ Hid (k < 5 → L k ≠ []))
  case first =>
    go_wp2_with fail
    go_loopg [8] (5 - o) (fun n s8 wr => Hid (wr = w1) ∧ ∃ k : Nat, s8 = .int .i64 k ∧ k ≤ 5 ∧ Hid (n = 5 - k) ∧ Hid (findK L (5 - k) k = findK L (5 - o) o))
    case atStart => exact ⟨rfl, o, rfl, by omega, rfl, rfl⟩
    case round =>
      obtain ⟨hw, k, rfl, hk, hn, hf⟩ := hrel
      have hw' := hw.out
      subst hw'
      by_cases hk4 : k ≤ 4
      · obtain ⟨a, c, hs, hlen, hcell⟩ := (HR.out k hk4).split
        have hfl := box_field H0.out k hk4
        rw [hs] at hfl
        clear hcell hs
        have hk4' : (k : Int) < 5 := by omega
        by_cases hnil : L k = []
        · rw [hnil] at hfl
          have hfl' : wr.cell? ⟨w.heap.size, 5 + k, none⟩ = some (.slice a 0 c) := hfl
          clear hfl
          have HN := Lib.hid hnil; clear hnil
          go_wp2_with fail
          go_roundg (5 - (k + 1))
          case rel => exact ⟨rfl, k + 1, by go_num, by omega, rfl, by
            have h1 := hf.out; rw [show 5 - k = (5 - (k + 1)) + 1 by omega, findK, if_pos HN.out] at h1; exact h1⟩
          case measure => have := hn.out; omega
        · have hpos : 0 < (L k).length := by rcases hL : L k with _ | ⟨x, l⟩; exact (hnil hL).elim; simp
          have hne : (((L k).length : Int) == 0) = false := by simp; omega
          have HN := Lib.hid hnil; clear hnil
          go_wp2_with fail
          go_meet
          case rel => exact ⟨rfl, k, rfl, hk, hf.out, fun _ => HN.out⟩
      · go_wp2_with fail
        go_meet
        case rel => exact ⟨rfl, k, rfl, hk, hf.out, fun h => by omega⟩
  case rest =>
    obtain ⟨hw, k, rfl, hk, hf, hne⟩ := hcut
    have hw' := hw.out
    subst hw'
    by_cases hk4 : k ≤ 4
    · go_upto_region 12 with (first | (refine load_zone rfl (.tmp 2) rfl w.heap.size z s rfl H0.out ?_) | (go_at_call 50; refine (clone_zone z s L wc (HR.out.below hbel) (fun k hk => by have := HV.out.len hz hk; omega)).mono ?_; rintro e w2 ⟨s2, g2, rfl, ho2, hb2⟩) | (refine store_zone rfl (.tmp 9) (.tmp 44) rfl w2.heap.size z0 nilS z s2 rfl rfl (heap_alloc_new w2 _) ho2.slices ?_; intro w3 hbx3 hk3))
      have hb3 : Below w2.heap.size w2 w3 := ((Below.refl _ w2).alloc (Nat.le_refl _) _).trans (hk3.to_below (by simp) fun k hk => by omega)
      have hZ := (ho2.lower (base' := w.heap.size + 2) hsz).box hb3 hbx3 (Nat.le_refl _) (Nat.le_trans hsz hb2.size)
      have hbel3 : Below wc.heap.size wc w3 := hb2.trans (hb3.mono hb2.size)
      have hres : boxed w3 (w.heap.size + 1) z0 nilS := (hbel3.block _ (by omega)).trans H1.out
      have hsz3 : w.heap.size + 2 ≤ w3.heap.size := Nat.le_trans hsz hbel3.size
      have HZ := Lib.hid hZ
      have HRES := Lib.hid hres
      have hhead := (tail_delAt (HV.out.sorted k hk4) (hne.out (by omega)))
      obtain ⟨f, hf0⟩ : ∃ f, f = (L k).headD 0 := ⟨_, rfl⟩
      have HF : Hid (f = (L k).headD 0) := hf0
      rw [← hf0] at hhead
      clear hf0 hZ hres hbx3 hk3
      have hnn := hne.out (by omega)
      have hown := HZ.out.own k hk4
      rcases hg2 : g2 k with _ | b
      · rw [hg2] at hown; exact (hnn hown.1).elim
      rw [hg2] at hown
      obtain ⟨hbb, o1, c1, C, hs2, hlc, hmc, hh, hsC, hcC⟩ := hown
      have hpos : 0 < (L k).length := List.length_pos_iff.2 hnn
      have hfl := box_field HZ.out.box k hk4
      rw [hs2] at hfl
      have hfc : w3.cell? ⟨b, o1, none⟩ = some (.int .i64 f) := by
        rw [cell_of_block hh]
        have h1 := hcC 0 hpos
        rw [Nat.add_zero] at h1
        rw [h1, HF.out]
        rcases hL : L k with _ | ⟨x, l⟩
        · exact (hnn hL).elim
        · rfl
      have hfr : w3.frozen? ⟨w2.heap.size, 5 + k, none⟩ = false := frozen_of_block HZ.out.box _
      have hk5' : (k : Int) < 5 := by omega
      have hpos' : (0 : Int) < ((L k).length : Int) := by omega
      have hgt : ¬ (4 : Int) < (k : Int) := by omega
      have HO : Hid (∃ s4 g4, c1 = 1 → True) := ⟨s2, g2, fun _ => trivial⟩
      have HX : Hid (L k ≠ [] ∧ (L k).length ≤ c1 ∧ c1 ≤ 9223372036854775807 ∧ w.heap.size + 2 ≤ b ∧ w3.heap[b]? = some (.cells C 3 (0, 0)) ∧ o1 + c1 ≤ C.size ∧ ∀ j, j < (L k).length → C[o1 + j]? = some (.int .i64 ((L k).getD j 0))) := ⟨hnn, hlc, hmc, hbb, hh, hsC, hcC⟩
      have HG := Lib.hid hg2
      clear HO hnn hbb hh hsC hcC hs2 hg2 hhead
      go_upto_region 13 with fail
      go_cut [] from 51 to 58 (fun wx => ∃ s4 g4, Hid (ZS wx (w.heap.size + 2) w2.heap.size z s4 (upd L k (L k).tail) g4) ∧ Hid (boxed wx (w.heap.size + 1) z0 nilS) ∧ w.heap.size + 2 ≤ wx.heap.size ∧ Below w.heap.size w wx)
      case first =>
        have HBW : Hid (Below w.heap.size w w3) := hbel.trans (hbel3.mono (by omega))
        have HB1 : Hid (Below (w.heap.size + 2) w3 (w3.setCell ⟨w2.heap.size, 5 + k, none⟩ (.slice none 0 0))) := (Below.refl _ _).setCell (by have := HZ.out.lo; exact this) _
        have hlo := HZ.out.lo
        by_cases hc1 : c1 = 1
        · have HC1 := Lib.hid hc1
          have hset := HZ.out.set hk4 (Keeps.refl _ w3) (own_tail_none (base := w.heap.size + 2) (b := b) (o := o1) HX.out.2.1 HX.out.1 hc1) (fun b hb => by cases hb) hsz3
          have HSET := Lib.hid hset
          have hcond : (1 : Int) ≤ ((L k).length : Int) := by omega
          clear hset
          subst hc1
          go_wp2_with fail
          go_meet
          case rel => exact ⟨_, _, HSET.out.1, (HSET.out.2.block _ (by omega)).trans HRES.out, Nat.le_trans hsz3 HSET.out.2.size, HBW.out.trans (HSET.out.2.mono (by omega))⟩
        · have hset := HZ.out.set hk4 (Keeps.refl _ w3) (own_tail_some HX.out.2.2.2.1 HX.out.2.1 HX.out.2.2.1 HX.out.2.2.2.2.1 HX.out.2.2.2.2.2.1 HX.out.2.2.2.2.2.2 HX.out.1) (fun b' hb => .inl (by rw [HG.out, hb])) hsz3
          have HSET := Lib.hid hset
          clear hset
          go_wp2_with fail
          go_meet
          case rel => exact ⟨_, _, HSET.out.1, (HSET.out.2.block _ (by omega)).trans HRES.out, Nat.le_trans hsz3 HSET.out.2.size, HBW.out.trans (HSET.out.2.mono (by omega))⟩
      case rest =>
        obtain ⟨s4, g4, hz4, hr4, hsz4, hbl4⟩ := hcut
        have hk5 : k < 5 := by omega
        have hfind : findK L (5 - o) o = some k := by
          have h1 := hf.out
          rw [show 5 - k = (5 - (k + 1)) + 1 by omega, findK, if_neg HX.out.1] at h1
          exact h1.symm
        have hok := (findK_some _ _ _ hfind).1
        have hav := alloc_valid HV.out hfind
        have hdel := HV.out.delete hk4 hav.2.2.2.1
        rw [← (tail_delAt (HV.out.sorted k hk4) HX.out.1).1] at hdel
        have HFIND := Lib.hid hfind
        have hins := HV.out.ins k hk4 _ hav.2.2.2.1
        rw [← HF.out] at hins hdel
        have hzz := Zh.ok_iff.1 hz
        have hii := insB_iff.1 hins
        have hpk := pow_pos' k
        have hf0 : 0 ≤ f := by omega
        have hf1 : f ≤ 255 := by omega
        have HI := Lib.hid hins
        have HD := Lib.hid hdel
        clear hfind hav hdel hins hzz hii hpk
        go_wp2_with fail
        go_loopg [8] (k - o) (fun n s8 wr => ∃ (j : Nat) (s' : Nat → Value) (L' : FL) (g' : Nat → Option Nat), s8 = .int .i64 j ∧ o ≤ j ∧ j ≤ k ∧ Hid (n = j - o) ∧ Hid (ZS wr (w.heap.size + 2) w2.heap.size z s' L' g') ∧ Hid (Valid z L') ∧ Hid (insB z f j = true) ∧ Hid (∀ x, inBlk x f j → ¬ free L' x) ∧
          Hid (splitM f o (j - o) L' = allocL L o k) ∧ Hid (boxed wr (w.heap.size + 1) z0 nilS) ∧ w.heap.size + 2 ≤ wr.heap.size ∧ Below w.heap.size w wr)
        case atStart => exact ⟨k, s4, _, g4, rfl, hok, Nat.le_refl _, rfl, hz4.out, HD.out.1, HI.out, fun x hx hfr => ((HD.out.2 x).1 hfr).2 hx, by rw [HF.out]; rfl, hr4.out, hsz4, hbl4⟩
        case round =>
          obtain ⟨j, s', L', g', rfl, hoj, hjk, hn, hzs, hv', hi', hd', hsp, hres, hszr, hbl⟩ := hrel
          by_cases hlt : o < j
          · obtain ⟨q, rfl⟩ : ∃ q, j = q + 1 := ⟨j - 1, by omega⟩
            have hq4 : q ≤ 4 := by omega
            have hq5 : (q : Int) < 5 := by omega
            have hlt' : (o : Int) < (q : Int) + 1 := by omega
            have hp1 := (pw_bounds hq4).1
            have hp16 := (pw_bounds hq4).2
            obtain ⟨x, hx⟩ : ∃ x, x = f + pw q := ⟨_, rfl⟩
            have hfl := box_field hzs.out.box q hq4
            have hlen := hv'.out.len hz hq4
            have hrd := (hzs.out.own q hq4).rd
            have HRD := Lib.hid hrd
            clear hrd
            go_upto_region 18 with (go_at_call 43; with_reducible refine (search_any (s' q) (L' q) (f + pw q) _ HRD.out (hv'.out.sorted q hq4) (by omega)).mono ?_; rintro e w5 ⟨rfl, hb5⟩; have hfl5 := (hb5.cell (block_lt_of_cell hfl)).trans hfl)
            have hzs5 : ZS w5 (w.heap.size + 2) w2.heap.size z s' L' g' := hzs.out.below hb5
            have hbel5 : Below w5.heap.size w5 (w5.alloc (.cells #[.int .i64 (f + pw q)] 3)) := (Below.refl _ w5).alloc (Nat.le_refl _) _
            have H5 := Lib.hid (hzs5.below hbel5)
            have H5b : Hid ((w5.alloc (.cells #[.int .i64 (f + pw q)] 3)).heap[w5.heap.size]? = some (.cells #[.int .i64 (f + pw q)] 3 (0, 0))) := alloc_at w5 _
            have hne5 : g' q ≠ some w5.heap.size := fun h => by have h1 := hzs5.own q hq4; rw [h] at h1; have := h1.lt; omega
            have hsz5 : w.heap.size + 2 ≤ w5.heap.size := Nat.le_trans hszr hb5.size
            have hbs5 : w.heap.size + 2 ≤ (w5.alloc (.cells #[.int .i64 (f + pw q)] 3)).heap.size := Nat.le_trans hsz5 hbel5.size
            have HB5 := Lib.hid hbs5
            have hca : (w5.alloc (.cells #[.int .i64 (f + pw q)] 3)).cell? ⟨w2.heap.size, 5 + q, none⟩ = some (s' q) := box_field H5.out.box q hq4
            have hst := split_step hv'.out (show q < 4 by omega) hi'.out hd'.out
            have HST := Lib.hid hst
            have HBL5 : Hid (Below wr.heap.size wr (w5.alloc (.cells #[.int .i64 (f + pw q)] 3))) := hb5.trans (hbel5.mono hb5.size)
            have HBL : Hid (Below w.heap.size w (w5.alloc (.cells #[.int .i64 (f + pw q)] 3))) := (hbl.trans (hb5.mono hbl.size)).trans (hbel5.mono (Nat.le_trans hbl.size hb5.size))
            clear hzs5 hbel5 hbs5 hst
            go_wp2_with (go_at_call 51; with_reducible refine (insert_at (s' q) (L' q) (f + pw q) (w5.alloc (.cells #[.int .i64 (f + pw q)] 3)) (w.heap.size + 2) w5.heap.size 1 (g' q) (H5.out.own q hq4) (by omega) H5b.out hne5 HB5.out).mono ?_; rintro e w6 ⟨a6, n6, k6, g6, rfl, ho6, hk6, hg6⟩; (have hb6 := (hk6.block w2.heap.size (lt_of_block H5.out.box) (H5.out.notB q hq4)).trans H5.out.box); have hc6 := box_field hb6 q hq4; have hf6 : w6.frozen? ⟨w2.heap.size, 5 + q, none⟩ = false := frozen_of_block hb6 _; clear hb6)
            have hset := H5.out.set hq4 hk6 ho6 hg6 HB5.out
            have HSET := Lib.hid hset
            clear hset
            go_roundg (q - o)
            case rel => exact ⟨q, _, _, _, rfl, by omega, by omega, rfl, HSET.out.1, HST.out.1, HST.out.2.1, HST.out.2.2, (splitM_step L' (by omega)).symm.trans hsp.out,
              (HSET.out.2.block _ (by have := HB5.out; omega)).trans ((HBL5.out.block _ (by omega)).trans hres.out), Nat.le_trans HB5.out HSET.out.2.size, HBL.out.trans (HSET.out.2.mono (by omega))⟩
            case measure => have := hn.out; omega
          · have hjo : Hid (j = o) := (show j = o by omega)
            have hbx := hzs.out.box
            have hsl := hzs.out.slices
            have hbr := hres.out
            have hlo := hzs.out.lo
            go_wp2_with (first | (refine load_zone rfl (.tmp 9) rfl w2.heap.size z s' rfl hbx ?_) | (refine store_zone rfl (.tmp 4) (.tmp 88) rfl (w.heap.size + 1) z0 nilS z s' rfl rfl hbr hsl ?_; intro w7 hbx7 hk7))
            have hzs7 := hzs.out.keeps hk7 (fun k hk e => by omega)
            refine bodyPost_ret (results_zone3 rfl _ _ (w.heap.size + 1) z s' rfl hbx7) rfl ⟨hbl.trans (hk7.to_below hbl.size fun k hk => by omega), .inr ⟨k, s', HFIND.out, ?_, ?_, hsl⟩⟩
            · rw [← HF.out]; rfl
            · have h1 := hsp.out
              rw [hjo.out, Nat.sub_self, splitM] at h1
              rw [← h1]; exact hzs7.far (by omega)
    · have HN : Hid (findK L (5 - o) o = none) := by have h1 := hf.out; rw [show 5 - k = 0 by omega, findK] at h1; exact h1.symm
      have hbox := H1.out
      go_wp2_with (refine store_zone rfl (.tmp 4) (.tmp 42) rfl (w.heap.size + 1) z0 nilS z0 nilS rfl rfl hbox slices_nil ?_; intro w2 hbx2 hk2)
      exact bodyPost_ret (results_zone3 rfl _ _ (w.heap.size + 1) z0 nilS rfl hbx2) rfl ⟨hbel.trans (hk2.to_below hbel.size fun k hk => by omega), .inl ⟨HN.out, rfl⟩⟩
theorem alloc_main (z : Zh) (s : Nat → Value) (L : FL) (o : Nat) (w : World) (hz : z.ok = true) (hv : Valid z L) (hrd : rdZ w s L) (ho : o ≤ 4) :
    Calls Try.prog 21 #[zv z s, .int .i64 o] w fun e w' => Below w.heap.size w w' ∧ ((findK L (5 - o) o = none ∧ e = .returned (.tuple #[zv z0 nilS, .int .i64 0, .int .i64 16])) ∨
      ∃ k s', findK L (5 - o) o = some k ∧ e = .returned (.tuple #[zv z s', .int .i64 ((L k).headD 0), .int .i64 0]) ∧ rdZ w' s' (allocL L o k) ∧ slices s') :=
  (alloc_far z s L o w hz hv hrd ho).mono fun e w' ⟨h1, h2⟩ => ⟨h1, h2.imp id fun ⟨k, s', h3, h4, h5, h6⟩ => ⟨k, s', h3, h4, h5.rdZ, h6⟩⟩
end Go.Proofs.Ytcmmoemmlellbaa
