/- Build: walked. Conditions: the numbers fit. -/
import Derived.Test.YtcmmoemmlellbaaPg
import Derived.Test.YtcmmoemmlellbaaFr
import Derived.Test.YtcmmoemmlellbaaPm
namespace Go.Proofs.Ytcmmoemmlellbaa
open Go.RowKit
attribute [local go_sem] wrap_pow

set_option maxRecDepth 100000 in
set_option maxHeartbeats 1000000 in
theorem build_bad (z : Zh) (s : Nat → Value) (v : Value) (w : World) (hz : z.fits) (hb : z.ok = false) :
    Calls Try.prog 27 #[zv z s, v] w fun e w' => e = .returned (.tuple #[zv z0 nilS, .int .i64 2]) ∧ Below w.heap.size w w' := by
  go_enter Try.func27, Try.ntmps27
  go_upto_region 2 with (go_at_call 41; refine (ranges_any z s _ hz).mono ?_; rintro e w1 ⟨he, hb1⟩; rw [hb] at he; subst he)
  have hbox : boxed w1 (w.heap.size + 1) z0 nilS := (hb1.block (w.heap.size + 1) (by rw [size_two]; omega)).trans (heap_alloc2_new w _ _)
  have hbel := below_box hb1
  clear hb1
  go_wp2_with (refine store_zone rfl (.tmp 4) (.tmp 13) rfl (w.heap.size + 1) z0 nilS z0 nilS rfl rfl hbox slices_nil ?_; intro w2 hbx2 hk2)
  exact bodyPost_ret (results_zone2 rfl _ _ (w.heap.size + 1) z0 nilS rfl hbx2) rfl ⟨rfl, hbel.trans (hk2.to_below hbel.size fun k hk => by omega)⟩

/-- the error of Build: the first element that is out of the zone or out of order -/
def bErr (z : Zh) (l : List Int) (n i : Nat) : Int := if scanF z 0 l n i = 3 then 2 else scanF z 0 l n i
theorem bErr_zero (z : Zh) (l : List Int) (i : Nat) : bErr z l 0 i = 0 := by simp [bErr, scanF]
theorem bErr_step {z : Zh} {l : List Int} {i : Nat} (h : i < l.length) : bErr z l (l.length - i) i = if insB z (l.getD i 0) 0 = false then 2 else if 0 < i ∧ l.getD i 0 ≤ l.getD (i - 1) 0 then 10 else bErr z l (l.length - (i + 1)) (i + 1) := by
  unfold bErr
  rw [scanF_step h]
  by_cases h1 : insB z (l.getD i 0) 0 = false
  · rw [if_pos h1, if_pos h1]; rfl
  · rw [if_neg h1, if_neg h1]
    by_cases h2 : 0 < i ∧ l.getD i 0 ≤ l.getD (i - 1) 0
    · rw [if_pos h2, if_pos h2]; rfl
    · rw [if_neg h2, if_neg h2]
theorem bErr_ok {z : Zh} {l : List Int} : bErr z l l.length 0 = 0 ↔ (∀ b, b ∈ l → insB z b 0 = true) ∧ l.Pairwise (· < ·) := by
  rw [← scanL_zero]
  unfold bErr
  split
  · rename_i h; rw [h]; simp
  · exact Iff.rfl

/-- the frames of a list are put one by one -/
def buildM (z : Zh) (l : List Int) : FL := l.foldl (fun L f => putM z 4 L f 0) (fun _ => [])
theorem buildM_snoc (z : Zh) (l : List Int) (f : Int) : buildM z (l ++ [f]) = putM z 4 (buildM z l) f 0 := by simp [buildM, List.foldl_append]
theorem buildM_valid (z : Zh) : ∀ l : List Int, (∀ b, b ∈ l → insB z b 0 = true) → l.Nodup → Valid z (buildM z l) ∧ ∀ x, free (buildM z l) x ↔ x ∈ l := by
  intro l
  induction h : l.length generalizing l with
  | zero =>
    intro _ _
    obtain rfl : l = [] := List.length_eq_zero_iff.1 h
    exact ⟨empty_valid z, fun x => ⟨fun hf => (free_empty x hf).elim, fun hx => by simp at hx⟩⟩
  | succ n ih =>
    intro hi hn
    obtain ⟨l', f, rfl⟩ : ∃ l' f, l = l' ++ [f] := ⟨l.dropLast, l.getLast (by intro e; rw [e] at h; simp at h), (List.dropLast_concat_getLast (by intro e; rw [e] at h; simp at h)).symm⟩
    have hn' := List.nodup_append.1 hn
    obtain ⟨v, hf⟩ := ih l' (by simp at h; omega) (fun b hb => hi b (List.mem_append_left _ hb)) hn'.1
    have hnf : ¬ free (buildM z l') f := fun hx => hn'.2.2 f ((hf f).1 hx) f (by simp) rfl
    have hp := Valid.put 4 0 rfl v (hi f (by simp)) (fun x hx => by rw [inBlk_zero.1 hx]; exact hnf)
    rw [buildM_snoc]
    refine ⟨hp.1, fun x => ?_⟩
    rw [hp.2, hf, inBlk_zero]; simp

theorem nil_lists {w : World} {B : Nat} {z : Zh} {s : Nat → Value} (h : boxed w B z s) :
    boxed (((((w.setCell ⟨B, 5, none⟩ (.slice none 0 0)).setCell ⟨B, 6, none⟩ (.slice none 0 0)).setCell ⟨B, 7, none⟩ (.slice none 0 0)).setCell ⟨B, 8, none⟩ (.slice none 0 0)).setCell ⟨B, 9, none⟩ (.slice none 0 0)) B z nilS ∧
    Keeps (· = B) w (((((w.setCell ⟨B, 5, none⟩ (.slice none 0 0)).setCell ⟨B, 6, none⟩ (.slice none 0 0)).setCell ⟨B, 7, none⟩ (.slice none 0 0)).setCell ⟨B, 8, none⟩ (.slice none 0 0)).setCell ⟨B, 9, none⟩ (.slice none 0 0)) := by
  have hk : ∀ (x : World) (j : Nat) (v : Value), Keeps (· = B) x (x.setCell ⟨B, j, none⟩ v) := fun x j v => ⟨rfl, rfl, rfl, by simp [World.setCell], fun i _ hp => Below.heap_setCell x ⟨B, j, none⟩ _ i hp⟩
  refine ⟨?_, ((((hk _ _ _).trans (hk _ _ _)).trans (hk _ _ _)).trans (hk _ _ _)).trans (hk _ _ _)⟩
  have h5 := heap_setCell_at h 5 (.slice none 0 0)
  have h6 := heap_setCell_at h5 6 (.slice none 0 0)
  have h7 := heap_setCell_at h6 7 (.slice none 0 0)
  have h8 := heap_setCell_at h7 8 (.slice none 0 0)
  have h9 := heap_setCell_at h8 9 (.slice none 0 0)
  exact h9

set_option maxRecDepth 100000 in
set_option maxHeartbeats 4000000 in
theorem build_far (z : Zh) (s : Nat → Value) (v : Value) (l : List Int) (w : World) (hz : z.ok = true) (hrd : rd w v l) (hfit : ∀ x, x ∈ l → fits x) :
    Calls Try.prog 27 #[zv z s, v] w fun e w' => Below w.heap.size w w' ∧ ((bErr z l l.length 0 ≠ 0 ∧ e = .returned (.tuple #[zv z0 nilS, .int .i64 (bErr z l l.length 0)])) ∨
      (bErr z l l.length 0 = 0 ∧ ∃ s', e = .returned (.tuple #[zv z s', .int .i64 0]) ∧ farZ w' w.heap.size s' (buildM z l) ∧ slices s')) := by
  have HFZ := Lib.hid (Zh.fits_of_ok hz)
  have HFT := Lib.hid hfit
  obtain ⟨a, c, rfl, hlen, hcell⟩ := hrd.split
  have HC := Lib.hid hcell
  clear hcell hfit hrd
  go_enter Try.func27, Try.ntmps27
  go_upto_region 3 with (go_at_call 41; refine (ranges_any z s _ HFZ.out).mono ?_; rintro e w1 ⟨he, hb1⟩; rw [hz] at he; subst he)
  have hbox : boxed w1 (w.heap.size + 1) z0 nilS := (hb1.block (w.heap.size + 1) (by rw [size_two]; omega)).trans (heap_alloc2_new w _ _)
  have hbox0 : boxed w1 w.heap.size z s := (hb1.block w.heap.size (by rw [size_two]; omega)).trans (heap_alloc2_old w _ _)
  have hsz : w.heap.size + 2 ≤ w1.heap.size := Nat.le_trans (by rw [size_two]; omega) hb1.size
  have hbel := below_box hb1
  obtain ⟨c0, c1, c2, c3, c4, c5, c6, c7, c8, c9⟩ := boxed.head hbox0
  have f5 : w1.frozen? ⟨w.heap.size, 5, none⟩ = false := frozen_of_block hbox0 _
  have f6 : w1.frozen? ⟨w.heap.size, 6, none⟩ = false := frozen_of_block hbox0 _
  have f7 : w1.frozen? ⟨w.heap.size, 7, none⟩ = false := frozen_of_block hbox0 _
  have f8 : w1.frozen? ⟨w.heap.size, 8, none⟩ = false := frozen_of_block hbox0 _
  have f9 : w1.frozen? ⟨w.heap.size, 9, none⟩ = false := frozen_of_block hbox0 _
  have H0 := Lib.hid hbox0
  have H1 := Lib.hid hbox
  clear hb1 hbox hbox0
  go_upto_region 4 with fail
  obtain ⟨hbxN, hkN⟩ := nil_lists H0.out
  obtain ⟨w2, hw2⟩ : ∃ w2, w2 = (((((w1.setCell ⟨w.heap.size, 5, none⟩ (.slice none 0 0)).setCell ⟨w.heap.size, 6, none⟩ (.slice none 0 0)).setCell ⟨w.heap.size, 7, none⟩ (.slice none 0 0)).setCell ⟨w.heap.size, 8, none⟩ (.slice none 0 0)).setCell ⟨w.heap.size, 9, none⟩ (.slice none 0 0)) := ⟨_, rfl⟩
  rw [← hw2] at hbxN hkN ⊢
  have HB2 := Lib.hid hbxN
  have HR2 : Hid (boxed w2 (w.heap.size + 1) z0 nilS) := (hkN.block _ (by omega) (by omega)).trans H1.out
  have hbel2 : Below w.heap.size w w2 := hbel.trans (hkN.to_below hbel.size fun k hk => by omega)
  have hsz2 : w.heap.size + 2 ≤ w2.heap.size := Nat.le_trans hsz hkN.size
  clear hw2 hbxN hkN c0 c1 c2 c3 c4 c5 c6 c7 c8 c9 f5 f6 f7 f8 f9 hbel hsz
  go_upto_block 0 with fail
  go_cut [] from 18 to 40 (fun wx => Hid (bErr z l l.length 0 = 0) ∧ Hid (boxed wx w.heap.size z nilS) ∧ Hid (boxed wx (w.heap.size + 1) z0 nilS) ∧ w.heap.size + 2 ≤ wx.heap.size ∧ Below w.heap.size w wx)
  case first =>
    go_wp2_with fail
    go_loopg [18] l.length (fun n s18 wr => ∃ i : Nat, s18 = .int .i64 i ∧ i ≤ l.length ∧ Hid (n = l.length - i) ∧ Hid (bErr z l (l.length - i) i = bErr z l l.length 0) ∧ Hid (boxed wr w.heap.size z nilS) ∧ Hid (boxed wr (w.heap.size + 1) z0 nilS) ∧ w.heap.size + 2 ≤ wr.heap.size ∧ Below w.heap.size w wr)
    case atStart => exact ⟨0, rfl, by omega, rfl, rfl, HB2.out, HR2.out, hsz2, hbel2⟩
    case round =>
      obtain ⟨i, rfl, hi, hn, hbe, hbx, hres, hszr, hbl⟩ := hrel
      by_cases hlt : i < l.length
      · have hlt' : (i : Int) < (l.length : Int) := by omega
        obtain ⟨b, o, rfl, hcl⟩ := HC.out i hlt
        obtain ⟨x, hx⟩ : ∃ x, x = l.getD i 0 := ⟨_, rfl⟩
        have hfx : fits x := HFT.out x (by rw [hx, getD_eq hlt]; exact List.getElem_mem hlt)
        have hc0 : w.cell? ⟨b, o + i, none⟩ = some (.int .i64 x) := by rw [hx]; exact hcl i hlt
        have hc := (hbl.cell (block_lt_of_cell hc0)).trans hc0
        have HX : Hid (x = l.getD i 0) := hx
        have HFX := Lib.hid hfx
        have hstep := bErr_step (z := z) hlt
        rw [← hx] at hstep
        have hbx' := hbx.out
        clear hc0 hx hfx
        by_cases hin : insB z x 0 = true
        · rw [if_neg (by rw [hin]; simp)] at hstep
          by_cases h0 : 0 < i
          · obtain ⟨y, hy⟩ : ∃ y, y = l.getD (i - 1) 0 := ⟨_, rfl⟩
            have hc1 : w.cell? ⟨b, o + (i - 1), none⟩ = some (.int .i64 y) := by rw [hy]; exact hcl (i - 1) (by omega)
            have HCY := Lib.hid hc1
            rw [← hy] at hstep
            have hi0 : (0 : Int) < (i : Int) := by omega
            have hi1 : (0 : Int) ≤ (i : Int) - 1 := by omega
            have hi2 : (i : Int) - 1 < (l.length : Int) := by omega
            have hi3 : ((i : Int) - 1).toNat = i - 1 := by omega
            clear hc1 hy
            by_cases hle : x ≤ y
            · rw [if_pos ⟨h0, hle⟩] at hstep
              have HE : Hid (bErr z l l.length 0 = 10) := hbe.out.symm.trans hstep
              clear hstep
              go_wp2_with (first | (refine load_zone rfl (.tmp 2) rfl w.heap.size z nilS rfl hbx' ?_) | (go_at_call 42; with_reducible refine (inside_zero z nilS x _ hz HFX.out).mono ?_; rintro e w3 ⟨he, hb3⟩; rw [hin] at he; subst he; have hres3 := (hb3.block _ (lt_of_block hres.out)).trans hres.out; have hcy := ((hbl.trans (hb3.mono hbl.size)).cell (block_lt_of_cell HCY.out)).trans HCY.out) | (refine store_zone rfl (.tmp 4) (.tmp 39) rfl (w.heap.size + 1) z0 nilS z0 nilS rfl rfl hres3 slices_nil ?_; intro w4 hbx4 hk4))
              refine bodyPost_ret (results_zone2 rfl _ _ (w.heap.size + 1) z0 nilS rfl hbx4) rfl ⟨?_, .inl ⟨by rw [HE.out]; omega, by rw [HE.out]; rfl⟩⟩
              have hbl3 := hbl.trans (hb3.mono hbl.size)
              exact hbl3.trans (hk4.to_below hbl3.size fun k hk => by omega)
            · rw [if_neg fun h => hle h.2] at hstep
              have HE : Hid (bErr z l (l.length - (i + 1)) (i + 1) = bErr z l l.length 0) := hstep.symm.trans hbe.out
              clear hstep
              go_wp2_with (first | (refine load_zone rfl (.tmp 2) rfl w.heap.size z nilS rfl hbx' ?_) | (go_at_call 42; with_reducible refine (inside_zero z nilS x _ hz HFX.out).mono ?_; rintro e w3 ⟨he, hb3⟩; rw [hin] at he; subst he; have hcy := ((hbl.trans (hb3.mono hbl.size)).cell (block_lt_of_cell HCY.out)).trans HCY.out))
              go_roundg (l.length - (i + 1))
              case rel => exact ⟨i + 1, by go_num, by omega, rfl, HE.out, (hb3.block _ (lt_of_block hbx.out)).trans hbx.out, (hb3.block _ (lt_of_block hres.out)).trans hres.out, Nat.le_trans hszr hb3.size, hbl.trans (hb3.mono hbl.size)⟩
              case measure => have := hn.out; omega
          · have hi0 : ¬ (0 : Int) < (i : Int) := by omega
            have hi00 : decide ((0 : Int) < (i : Int)) = false := decide_eq_false hi0
            rw [if_neg fun h => h0 h.1] at hstep
            have HE : Hid (bErr z l (l.length - (i + 1)) (i + 1) = bErr z l l.length 0) := hstep.symm.trans hbe.out
            clear hstep
            go_wp2_with (first | (refine load_zone rfl (.tmp 2) rfl w.heap.size z nilS rfl hbx' ?_) | (go_at_call 42; with_reducible refine (inside_zero z nilS x _ hz HFX.out).mono ?_; rintro e w3 ⟨he, hb3⟩; rw [hin] at he; subst he))
            go_roundg (l.length - (i + 1))
            case rel => exact ⟨i + 1, by go_num, by omega, rfl, HE.out, (hb3.block _ (lt_of_block hbx.out)).trans hbx.out, (hb3.block _ (lt_of_block hres.out)).trans hres.out, Nat.le_trans hszr hb3.size, hbl.trans (hb3.mono hbl.size)⟩
            case measure => have := hn.out; omega
        · have hin' : insB z x 0 = false := by simpa using hin
          rw [if_pos hin'] at hstep
          have HE : Hid (bErr z l l.length 0 = 2) := hbe.out.symm.trans hstep
          clear hstep
          go_wp2_with (first | (refine load_zone rfl (.tmp 2) rfl w.heap.size z nilS rfl hbx' ?_) | (go_at_call 42; with_reducible refine (inside_zero z nilS x _ hz HFX.out).mono ?_; rintro e w3 ⟨he, hb3⟩; rw [hin'] at he; subst he; have hres3 := (hb3.block _ (lt_of_block hres.out)).trans hres.out) | (refine store_zone rfl (.tmp 4) (.tmp 27) rfl (w.heap.size + 1) z0 nilS z0 nilS rfl rfl hres3 slices_nil ?_; intro w4 hbx4 hk4))
          refine bodyPost_ret (results_zone2 rfl _ _ (w.heap.size + 1) z0 nilS rfl hbx4) rfl ⟨?_, .inl ⟨by rw [HE.out]; omega, by rw [HE.out]; rfl⟩⟩
          have hbl3 := hbl.trans (hb3.mono hbl.size)
          exact hbl3.trans (hk4.to_below hbl3.size fun k hk => by omega)
      · have HE : Hid (bErr z l l.length 0 = 0) := by have h := hbe.out; rw [show l.length - i = 0 by omega, bErr_zero] at h; exact h.symm
        go_wp2_with fail
        go_meet
        case rel => exact ⟨HE.out, hbx.out, hres.out, hszr, hbl⟩
  case rest =>
    obtain ⟨hok, hbx, hres, hszr, hbl⟩ := hcut
    have hpl := bErr_ok.1 hok.out
    have HIN := Lib.hid hpl.1
    have HND : Hid l.Nodup := hpl.2.imp (fun h e => by omega)
    clear hpl
    go_wp2_with fail
    go_loopg [43] l.length (fun n s43 wr => ∃ (t : Nat) (s' : Nat → Value) (g' : Nat → Option Nat), s43 = .int .i64 t ∧ t ≤ l.length ∧ Hid (n = l.length - t) ∧ Hid (ZG wr (w.heap.size + 2) w.heap.size z s' (buildM z (l.take t)) g') ∧ Hid (boxed wr (w.heap.size + 1) z0 nilS) ∧ w.heap.size + 2 ≤ wr.heap.size ∧ Below w.heap.size w wr)
    case atStart => exact ⟨0, nilS, fun _ => none, rfl, by omega, rfl, ZG.nil hbx.out, hres.out, hszr, hbl⟩
    case round =>
      obtain ⟨t, s', g', rfl, ht, hn, hzs, hres', hszt, hbl'⟩ := hrel
      by_cases hlt : t < l.length
      · have hlt' : (t : Int) < (l.length : Int) := by omega
        obtain ⟨b, o, rfl, hcl⟩ := HC.out t hlt
        obtain ⟨x, hx⟩ : ∃ x, x = l[t] := ⟨_, rfl⟩
        have hc0 : w.cell? ⟨b, o + t, none⟩ = some (.int .i64 x) := by rw [hx, ← getD_eq hlt]; exact hcl t hlt
        have hc := (hbl'.cell (block_lt_of_cell hc0)).trans hc0
        have hmem : x ∈ l := by rw [hx]; exact List.getElem_mem hlt
        have htk : l.take (t + 1) = l.take t ++ [x] := by rw [hx]; exact (List.take_append_getElem hlt).symm
        have hnd := HND.out
        have hparts := list_parts hlt
        rw [← hx] at hparts
        have hnx : x ∉ l.take t := fun h => by
          rw [hparts] at hnd
          exact (List.nodup_append.1 hnd).2.2 x h x (by simp) rfl
        have hbv := buildM_valid z (l.take t) (fun y hy => HIN.out y (List.mem_of_mem_take hy)) (HND.out.sublist (List.take_sublist t l))
        have HBV := Lib.hid hbv.1
        have HNF : Hid (¬ free (buildM z (l.take t)) x) := fun h => hnx ((hbv.2 x).1 h)
        have HIX : Hid (insB z x 0 = true) := HIN.out x hmem
        have HTK : Hid (buildM z (l.take (t + 1)) = putM z 4 (buildM z (l.take t)) x 0) := by rw [htk, buildM_snoc]; exact rfl
        clear hc0 hx hmem htk hnd hparts hnx hbv
        go_wp2_with (go_at_call 48; refine (putg_zero z s' _ g' x wr (w.heap.size + 2) w.heap.size hz hzs.out hszt HBV.out HIX.out HNF.out).mono ?_; rintro e w3 ⟨rfl, s3, g3, hz3, hk3⟩; have HZ3 := Lib.hid hz3; clear hz3)
        go_roundg (l.length - (t + 1))
        case rel => exact ⟨t + 1, s3, g3, by go_num, by omega, rfl, by rw [HTK.out]; exact HZ3.out, (hk3.block _ (lt_of_block hres'.out) (by unfold PG; omega)).trans hres'.out, Nat.le_trans hszt hk3.size, hbl'.trans (hk3.to_below hbl'.size fun k hk => by unfold PG; omega)⟩
        case measure => have := hn.out; omega
      · have htl : t = l.length := by omega
        subst htl
        have hzf := hzs.out
        rw [List.take_length] at hzf
        have HZF := Lib.hid hzf
        have hbx' := hzf.box
        have hsl := hzf.slices
        have hres2 := hres'.out
        clear hzf hzs
        go_wp2_with (first | (refine load_zone rfl (.tmp 2) rfl w.heap.size z s' rfl hbx' ?_) | (refine store_zone rfl (.tmp 4) (.tmp 50) rfl (w.heap.size + 1) z0 nilS z s' rfl rfl hres2 hsl ?_; intro w4 hbx4 hk4))
        refine bodyPost_ret (results_zone2 rfl _ _ (w.heap.size + 1) z s' rfl hbx4) rfl ⟨hbl'.trans (hk4.to_below hbl'.size fun k hk => by omega), .inr ⟨hok.out, s', rfl, ?_, hsl⟩⟩
        exact fun k hk => ⟨_, ((HZF.out.keeps hk4 (fun b hb e => by omega) (by omega)).own k hk).base_le (by omega)⟩
theorem build_main (z : Zh) (s : Nat → Value) (v : Value) (l : List Int) (w : World) (hz : z.ok = true) (hrd : rd w v l) (hfit : ∀ x, x ∈ l → fits x) :
    Calls Try.prog 27 #[zv z s, v] w fun e w' => Below w.heap.size w w' ∧ ((bErr z l l.length 0 ≠ 0 ∧ e = .returned (.tuple #[zv z0 nilS, .int .i64 (bErr z l l.length 0)])) ∨
      (bErr z l l.length 0 = 0 ∧ ∃ s', e = .returned (.tuple #[zv z s', .int .i64 0]) ∧ rdZ w' s' (buildM z l) ∧ slices s')) :=
  (build_far z s v l w hz hrd hfit).mono fun e w' ⟨h1, h2⟩ => ⟨h1, h2.imp id fun ⟨h3, s', h4, h5, h6⟩ => ⟨h3, s', h4, h5.rdZ, h6⟩⟩
end Go.Proofs.Ytcmmoemmlellbaa
