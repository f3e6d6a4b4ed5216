/- The reference's Build: walked. Conditions: the numbers fit. -/
import Derived.Test.YtcmmoemmlellbaaBd
import Derived.Test.YtcmmoemmlellbaaWn
import Derived.BigQuiet
import Derived.Deep.QuietTactic
namespace Go.Proofs.Ytcmmoemmlellbaa
open Go.RowKit
attribute [local go_sem] wrap_pow

set_option maxRecDepth 100000 in
set_option maxHeartbeats 1000000 in
theorem rbuild_bad (z : Zh) (s : Nat → Value) (v : Value) (w : World) (hz : z.fits) (hb : z.ok = false) :
    Calls Try.prog 28 #[zv z s, v] w fun e w' => e = .returned (.tuple #[zv z0 nilS, .int .i64 2]) ∧ Below w.heap.size w w' := by
  go_enter Try.func28, Try.ntmps28
  go_upto_region 2 with (go_at_call 44; refine (inRange_any z s _ hz).mono ?_; rintro e w1 ⟨he, hb1⟩; rw [hb] at he; subst he)
  have hbox : boxed w1 (w.heap.size + 1) z0 nilS := (hb1.block (w.heap.size + 1) (by rw [size_two]; omega)).trans (heap_alloc2_new w _ _)
  have hbel := below_box hb1
  clear hb1
  go_wp2_with (refine store_zone rfl (.tmp 4) (.tmp 11) rfl (w.heap.size + 1) z0 nilS z0 nilS rfl rfl hbox slices_nil ?_; intro w2 hbx2 hk2)
  exact bodyPost_ret (results_zone2 rfl _ _ (w.heap.size + 1) z0 nilS rfl hbx2) rfl ⟨rfl, hbel.trans (hk2.to_below hbel.size fun k hk => by omega)⟩

/-- what is known of the memory of Build's loop -/
structure BI (w wx : World) (z : Zh) (s : Nat → Value) (S : Nat) (lf : Int → Int) : Prop where
  row : rowI wx S lf
  box : boxed wx w.heap.size z s
  res : boxed wx (w.heap.size + 1) z0 nilS
  bel : Below w.heap.size w wx
theorem BI.drewN {w wx : World} {z : Zh} {s : Nat → Value} {S : Nat} {lf : Int → Int} (h : BI w wx z s S lf) (n : Nat) : BI w (wx.drewN n) z s S lf := ⟨h.row, h.box, h.res, Below.drewN' h.bel _⟩
theorem BI.set {w wx : World} {z : Zh} {s : Nat → Value} {S : Nat} {lf : Int → Int} (h : BI w wx z s S lf) (hS : w.heap.size + 2 ≤ S) (X : Nat) : BI w (wx.setCell ⟨S, X, none⟩ (.int .i64 1)) z s S (fun x => if x = X then 1 else lf x) := by
  have hk : Keeps (· = S) wx (wx.setCell ⟨S, X, none⟩ (.int .i64 1)) := ⟨rfl, rfl, rfl, by simp [World.setCell], fun j _ hp => Below.heap_setCell wx ⟨S, X, none⟩ _ j hp⟩
  exact ⟨h.row.set 1, (hk.block _ (lt_of_block h.box) (by omega)).trans h.box, (hk.block _ (lt_of_block h.res) (by omega)).trans h.res, h.bel.trans (hk.to_below h.bel.size fun k hk => by omega)⟩

set_option maxRecDepth 100000 in
set_option maxHeartbeats 4000000 in
theorem rbuild_main (z : Zh) (s : Nat → Value) (v : Value) (l : List Int) (w : World) (hz : z.ok = true) (hrd : rd w v l) (hfit : ∀ x, x ∈ l → fits x) :
    Calls Try.prog 28 #[zv z s, v] w fun e w' => Below w.heap.size w w' ∧ ((bErr z l l.length 0 ≠ 0 ∧ e = .returned (.tuple #[zv z0 nilS, .int .i64 (bErr z l l.length 0)])) ∨
      (bErr z l l.length 0 = 0 ∧ ∃ s' M, e = .returned (.tuple #[zv z s', .int .i64 0]) ∧ ownsZ w' w.heap.size s' M ∧ Valid z M ∧ ∀ x, free M x ↔ x ∈ l)) := by
  have HFZ := Lib.hid (Zh.fits_of_ok hz)
  have HFT := Lib.hid hfit
  obtain ⟨a, c, rfl, hlen, hcell⟩ := hrd.split
  have HC := Lib.hid hcell
  have hzz := Zh.ok_iff.1 hz
  have hz1 : 0 ≤ z.st := by omega
  have hz2 : z.st + z.ct ≤ 256 := by omega
  have hz3 : 1 ≤ z.ct := by omega
  have hmk := fun w => make256 w
  clear hcell hfit hrd hzz
  go_enter Try.func28, Try.ntmps28
  go_upto_block 0 with (go_at_call 44; refine (inRange_any z s _ HFZ.out).mono ?_; rintro e w1 ⟨he, hb1⟩; rw [hz] at he; subst he)
  have hbox : boxed w1 (w.heap.size + 1) z0 nilS := (hb1.block (w.heap.size + 1) (by rw [size_two]; omega)).trans (heap_alloc2_new w _ _)
  have hbox0 : boxed w1 w.heap.size z s := (hb1.block w.heap.size (by rw [size_two]; omega)).trans (heap_alloc2_old w _ _)
  have hsz : w.heap.size + 2 ≤ w1.heap.size := Nat.le_trans (by rw [size_two]; omega) hb1.size
  have hbel := below_box hb1
  have hb2 : Below w1.heap.size w1 (w1.alloc (.cells (Array.replicate 256 (.int .i64 0)) 3)) := (Below.refl _ w1).alloc (Nat.le_refl _) _
  have hrow := rowI_new w1
  have hBI : BI w (w1.alloc (.cells (Array.replicate 256 (.int .i64 0)) 3)) z s w1.heap.size (fun _ => 0) := ⟨hrow, (hb2.block _ (lt_of_block hbox0)).trans hbox0, (hb2.block _ (lt_of_block hbox)).trans hbox, hbel.trans (hb2.mono hbel.size)⟩
  obtain ⟨S, hS⟩ : ∃ S, S = w1.heap.size := ⟨_, rfl⟩
  obtain ⟨w2, hw2⟩ : ∃ w2, w2 = w1.alloc (.cells (Array.replicate 256 (.int .i64 0)) 3) := ⟨_, rfl⟩
  rw [← hS, ← hw2] at hBI
  rw [← hS] at hsz
  rw [← hS, ← hw2]
  have HBI := Lib.hid hBI
  clear hb1 hbox hbox0 hbel hb2 hrow hBI hS hw2 hmk
  go_wp2_with fail
  go_loopg [7] l.length (fun n s7 wr => ∃ i : Nat, s7 = .int .i64 i ∧ i ≤ l.length ∧ Hid (n = l.length - i) ∧ Hid (bErr z l (l.length - i) i = bErr z l l.length 0) ∧ Hid (∀ x, x ∈ l.take i → z.st ≤ x ∧ x < z.st + z.ct) ∧ Hid (BI w wr z s S (fun x => if x ∈ l.take i then 1 else 0)))
  case atStart => exact ⟨0, rfl, by omega, rfl, rfl, fun x hx => by simp at hx, by
    have e : (fun x : Int => if x ∈ l.take 0 then (1 : Int) else 0) = fun _ => 0 := by funext x; simp
    rw [e]; exact HBI.out⟩
  case round =>
    obtain ⟨i, rfl, hi, hn, hbe, hrg, hbi⟩ := hrel
    by_cases hlt : i < l.length
    · have hlt' : (i : Int) < (l.length : Int) := by omega
      obtain ⟨b, o, rfl, hcl⟩ := HC.out i hlt
      obtain ⟨x, hx⟩ : ∃ x, x = l.getD i 0 := ⟨_, rfl⟩
      have hfx : fits x := HFT.out x (by rw [hx, getD_eq hlt]; exact List.getElem_mem hlt)
      have hx1 := hfx.1
      have hx2 := hfx.2
      have hc0 : w.cell? ⟨b, o + i, none⟩ = some (.int .i64 x) := by rw [hx]; exact hcl i hlt
      have hc := (hbi.out.bel.cell (block_lt_of_cell hc0)).trans hc0
      have htk : l.take (i + 1) = l.take i ++ [x] := by rw [hx, getD_eq hlt]; exact (List.take_append_getElem hlt).symm
      have HTK := Lib.hid htk
      have hstep := bErr_step (z := z) hlt
      rw [← hx] at hstep
      obtain ⟨c0, c1, c2, c3, c4, c5, c6, c7, c8, c9⟩ := boxed.head hbi.out.box
      have hres := hbi.out.res
      have hbl := hbi.out.bel
      have hww : IntKind.i64.wrap (z.st + z.ct) = z.st + z.ct := IntWalk.i64_in _ (by omega)
      have hip : (0 : Int) ≤ (i : Int) := by omega
      clear hc0 hfx htk
      by_cases hin : insB z x 0 = true
      · rw [if_neg (by rw [hin]; simp)] at hstep
        have hiz := insB_zero.1 hin
        have d1 : decide (x < z.st) = false := decide_eq_false (by omega)
        have d2 : decide (z.st + z.ct ≤ x) = false := decide_eq_false (by omega)
        obtain ⟨X, hX⟩ : ∃ X : Nat, x = X := ⟨x.toNat, by omega⟩
        have HXZ := Lib.hid hiz
        have hX256 : (X : Int) < 256 := by omega
        have hXp : (0 : Int) ≤ (X : Int) := by omega
        have hrg' : Hid (∀ y, y ∈ l.take (i + 1) → z.st ≤ y ∧ y < z.st + z.ct) := fun y hy => by
          rw [HTK.out] at hy
          rcases List.mem_append.1 hy with hy | hy
          · exact hrg.out y hy
          · rw [List.mem_singleton] at hy; subst hy; exact HXZ.out
        have HST : Hid (∀ a, BI w ((wr.drewN a).setCell ⟨S, X, none⟩ (.int .i64 1)) z s S (fun y => if y ∈ l.take (i + 1) then 1 else 0)) := fun a => by
          have e : (fun y : Int => if y ∈ l.take (i + 1) then (1 : Int) else 0) = fun y => if y = (X : Int) then 1 else if y ∈ l.take i then 1 else 0 := by
            funext y
            rw [HTK.out, hX]
            by_cases e : y = (X : Int)
            · rw [if_pos e, if_pos (List.mem_append_right _ (by simp [e]))]
            · rw [if_neg e]
              by_cases h2 : y ∈ l.take i
              · rw [if_pos h2, if_pos (List.mem_append_left _ h2)]
              · rw [if_neg h2, if_neg (fun h => by rcases List.mem_append.1 h with h | h; exact h2 h; rw [List.mem_singleton] at h; exact e h)]
          rw [e]
          exact (hbi.out.drewN a).set (by omega) X
        have hfS : wr.frozen? ⟨S, X, none⟩ = false := hbi.out.row.frozen X
        have hcS := hbi.out.row.cell (show X < 256 by omega)
        generalize (if (X : Int) ∈ l.take i then (1 : Int) else 0) = vS at hcS
        subst hX
        clear hiz hin
        by_cases h0 : 0 < i
        · obtain ⟨y, hy⟩ : ∃ y, y = l.getD (i - 1) 0 := ⟨_, rfl⟩
          have hc1 : w.cell? ⟨b, o + (i - 1), none⟩ = some (.int .i64 y) := by rw [hy]; exact hcl (i - 1) (by omega)
          have hcy := (hbl.cell (block_lt_of_cell hc1)).trans hc1
          rw [← hy] at hstep
          have hd : decide ((0 : Int) < (i : Int)) = true := by simp; omega
          have hw1 : IntKind.i64.wrap ((i : Int) - 1) = (i : Int) - 1 := IntWalk.i64_in _ (by omega)
          have hi0 : (0 : Int) ≤ (i : Int) - 1 := by omega
          have hi1 : (i : Int) - 1 < (l.length : Int) := by omega
          have hi2 : ((i : Int) - 1).toNat = i - 1 := by omega
          clear hc1 hy hx hcl
          by_cases hle : (X : Int) ≤ y
          · rw [if_pos ⟨h0, hle⟩] at hstep
            have HE : Hid (bErr z l l.length 0 = 10) := hbe.out.symm.trans hstep
            have dle : decide ((X : Int) ≤ y) = true := decide_eq_true hle
            clear hstep
            go_upto_region 7 with fail
            go_quiet (fail)
            go_upto_region 9 with fail
            go_quiet (fail)
            clear hw1 hi2
            have hres2 : ∀ a, boxed (wr.drewN a) (w.heap.size + 1) z0 nilS := fun a => hres
            have hbl2 : ∀ a, Below w.heap.size w (wr.drewN a) := fun a => Below.drewN' hbl _
            go_wp2_with (refine store_zone rfl (.tmp 4) (.tmp 53) rfl (w.heap.size + 1) z0 nilS z0 nilS rfl rfl (hres2 _) slices_nil ?_; intro w4 hbx4 hk4)
            exact bodyPost_ret (results_zone2 rfl _ _ (w.heap.size + 1) z0 nilS rfl hbx4) rfl ⟨(hbl2 _).trans (hk4.to_below (hbl2 _).size fun k hk => by omega), .inl ⟨by rw [HE.out]; omega, by rw [HE.out]; rfl⟩⟩
          · rw [if_neg fun h => hle h.2] at hstep
            have HE : Hid (bErr z l (l.length - (i + 1)) (i + 1) = bErr z l l.length 0) := hstep.symm.trans hbe.out
            have dle : decide ((X : Int) ≤ y) = false := decide_eq_false hle
            clear hstep
            go_upto_region 7 with fail
            go_quiet (fail)
            go_upto_region 9 with fail
            go_quiet (fail)
            clear hw1 hi2
            go_wp2_with fail
            go_roundg (l.length - (i + 1))
            case rel => exact ⟨i + 1, by go_num, by omega, rfl, HE.out, hrg'.out, HST.out _⟩
            case measure => have := hn.out; omega
        · have hd : decide ((0 : Int) < (i : Int)) = false := by simp; omega
          rw [if_neg fun h => h0 h.1] at hstep
          have HE : Hid (bErr z l (l.length - (i + 1)) (i + 1) = bErr z l l.length 0) := hstep.symm.trans hbe.out
          clear hstep hx hcl
          go_upto_region 7 with fail
          go_quiet (fail)
          go_upto_region 9 with fail
          go_quiet (fail)
          go_wp2_with fail
          go_roundg (l.length - (i + 1))
          case rel => exact ⟨i + 1, by go_num, by omega, rfl, HE.out, hrg'.out, HST.out _⟩
          case measure => have := hn.out; omega
      · have hin' : insB z x 0 = false := by simpa using hin
        rw [if_pos hin'] at hstep
        have HE : Hid (bErr z l l.length 0 = 2) := hbe.out.symm.trans hstep
        have hres2 : ∀ a, boxed (wr.drewN a) (w.heap.size + 1) z0 nilS := fun a => hres
        have hbl2 : ∀ a, Below w.heap.size w (wr.drewN a) := fun a => Below.drewN' hbl _
        have HO : Hid (¬ (z.st ≤ x ∧ x < z.st + z.ct)) := fun h => hin (insB_zero.2 h)
        clear hstep hx hcl hin hin'
        by_cases h1 : x < z.st
        · have d1 : decide (x < z.st) = true := decide_eq_true h1
          go_upto_region 7 with fail
          go_quiet (fail)
          go_wp2_with (refine store_zone rfl (.tmp 4) (.tmp 38) rfl (w.heap.size + 1) z0 nilS z0 nilS rfl rfl (hres2 _) slices_nil ?_; intro w4 hbx4 hk4)
          exact bodyPost_ret (results_zone2 rfl _ _ (w.heap.size + 1) z0 nilS rfl hbx4) rfl ⟨(hbl2 _).trans (hk4.to_below (hbl2 _).size fun k hk => by omega), .inl ⟨by rw [HE.out]; omega, by rw [HE.out]; rfl⟩⟩
        · have d1 : decide (x < z.st) = false := decide_eq_false h1
          have d2 : decide (z.st + z.ct ≤ x) = true := decide_eq_true (by have := HO.out; omega)
          go_upto_region 7 with fail
          go_quiet (fail)
          go_wp2_with (refine store_zone rfl (.tmp 4) (.tmp 38) rfl (w.heap.size + 1) z0 nilS z0 nilS rfl rfl (hres2 _) slices_nil ?_; intro w4 hbx4 hk4)
          exact bodyPost_ret (results_zone2 rfl _ _ (w.heap.size + 1) z0 nilS rfl hbx4) rfl ⟨(hbl2 _).trans (hk4.to_below (hbl2 _).size fun k hk => by omega), .inl ⟨by rw [HE.out]; omega, by rw [HE.out]; rfl⟩⟩
    · have hil : i = l.length := by omega
      subst hil
      have HE : Hid (bErr z l l.length 0 = 0) := by have h := hbe.out; rw [Nat.sub_self, bErr_zero] at h; exact h.symm
      have hbx' := hbi.out.box
      have hres' := hbi.out.res
      have hbl := hbi.out.bel
      go_wp2_with (first | (refine load_zone rfl (.tmp 2) rfl w.heap.size z s rfl hbx' ?_) | (go_at_call 49; refine (with_any z s S _ _ hz hbi.out.row).mono ?_; rintro e w4 ⟨s', M, rfl, hrd', hv', hfr, hb4⟩; have hsl := hrd'.slices; have hres4 := (hb4.block _ (lt_of_block hres')).trans hres'; have HFR := Lib.hid hfr; have HV2 := Lib.hid hv'; have HRD := Lib.hid hrd'; clear hfr hv' hrd') | (refine store_zone rfl (.tmp 4) (.tmp 62) rfl (w.heap.size + 1) z0 nilS z s' rfl rfl hres4 hsl ?_; intro w5 hbx5 hk5))
      refine bodyPost_ret (results_zone2 rfl _ _ (w.heap.size + 1) z s' rfl hbx5) rfl ⟨(hbl.trans (hb4.mono hbl.size)).trans (hk5.to_below (Nat.le_trans hbl.size hb4.size) fun k hk => by omega), .inr ⟨HE.out, s', M, rfl, ?_, HV2.out, fun x => ?_⟩⟩
      · exact (HRD.out.keeps hk5 (fun b hb => by have := hbl.size; have := lt_of_block hres'; omega)).mono hbl.size
      · rw [HFR.out x, List.take_length]
        have hr := hrg.out x
        rw [List.take_length] at hr
        by_cases hx : x ∈ l
        · rw [if_pos hx]; exact ⟨fun _ => hx, fun _ => ⟨(hr hx).1, (hr hx).2, by omega⟩⟩
        · rw [if_neg hx]; exact ⟨fun h => (h.2.2 rfl).elim, fun h => (hx h).elim⟩
end Go.Proofs.Ytcmmoemmlellbaa
