/- The law BuddyApart: walked. Conditions: none. -/
import Derived.Test.YtcmmoemmlellbaaLs
import Derived.Test.YtcmmoemmlellbaaPa
namespace Go.Proofs.Ytcmmoemmlellbaa
open Go.RowKit
attribute [local go_sem] wrap_pow

/-- block B holds the 80 numbers lf -/
def row80 (w : World) (B : Nat) (lf : Int → Int) : Prop := ∃ C, w.heap[B]? = some (.cells C 46 (0, 0)) ∧ C.size = 80 ∧ ∀ j : Nat, j < 80 → C[j]? = some (.int .i64 (lf j))
theorem zeroCells_80 : Try.zeroCells46 = Array.replicate 80 (Value.int .i64 0) := by kernel_rfl
theorem row80_new (w : World) : row80 (w.alloc (.cells Try.zeroCells46 46)) w.heap.size (fun _ => 0) := by
  refine ⟨_, alloc_at w _, ?_, fun j hj => ?_⟩
  · rw [zeroCells_80]; simp
  · rw [zeroCells_80]; simp [hj]
theorem row80.cell {w : World} {B : Nat} {lf : Int → Int} (h : row80 w B lf) {j : Nat} (hj : j < 80) : w.cell? ⟨B, j, none⟩ = some (.int .i64 (lf j)) := by
  obtain ⟨C, h1, h2, h3⟩ := h; rw [cell_of_block h1]; exact h3 j hj
theorem row80.frozen {w : World} {B : Nat} {lf : Int → Int} (h : row80 w B lf) (j : Nat) : w.frozen? ⟨B, j, none⟩ = false := by
  obtain ⟨C, h1, _⟩ := h; exact frozen_of_block h1 j
theorem row80.lt {w : World} {B : Nat} {lf : Int → Int} (h : row80 w B lf) : B < w.heap.size := by obtain ⟨C, h1, _⟩ := h; exact lt_of_block h1
theorem row80.below {w w' : World} {B : Nat} {lf : Int → Int} (h : row80 w B lf) (hb : Below w.heap.size w w') : row80 w' B lf := by
  obtain ⟨C, h1, h2, h3⟩ := h; exact ⟨C, (hb.block B (lt_of_block h1)).trans h1, h2, h3⟩
theorem row80.set {w : World} {B : Nat} {lf : Int → Int} (h : row80 w B lf) {j : Nat} (v : Int) : row80 (w.setCell ⟨B, j, none⟩ (.int .i64 v)) B (fun x => if x = j then v else lf x) := by
  obtain ⟨C, h1, h2, h3⟩ := h
  refine ⟨_, heap_setCell_at h1 j _, by simpa using h2, fun i hi => ?_⟩
  rw [Array.getElem?_setIfInBounds]
  by_cases e : j = i
  · subst e; rw [if_pos rfl, if_pos (by omega)]; simp
  · rw [if_neg e, h3 i hi]
    have : ¬ ((i : Int) = (j : Int)) := by omega
    simp [this]
theorem setCell_keeps (w : World) (B j : Nat) (v : Value) : Keeps (· = B) w (w.setCell ⟨B, j, none⟩ v) := ⟨rfl, rfl, rfl, by simp [World.setCell], fun i _ hp => Below.heap_setCell w ⟨B, j, none⟩ _ i hp⟩

set_option maxRecDepth 100000 in
set_option maxHeartbeats 4000000 in
theorem apart_walk (p q : Int) (v : Value) (l : List OpM) (w : World) (hp : 0 ≤ p ∧ p < 256) (hq : 0 ≤ q ∧ q < 256) (hops : opsAt w v l) :
    Calls Try.prog 8 #[.int .u8 p, .int .u8 q, v] w fun e w' => e = .returned (.bool true) ∧ Below w.heap.size w w' := by
  have HZ := Lib.hid (zP_ok p q)
  have HO := Lib.hid hops
  have HP := Lib.hid hp
  have HQ := Lib.hid hq
  obtain ⟨a, c, rfl⟩ := hops.form
  have hp0 := hp.1
  have hp1 := hp.2
  have hq0 := hq.1
  have hq1 := hq.2
  have hm1 : p % 16 ≤ 15 := by omega
  have hm2 : 0 ≤ p % 16 := by omega
  have hm3 : q % 64 ≤ 63 := by omega
  have hm4 : 0 ≤ q % 64 := by omega
  clear hops hp hq
  go_enter Try.func8, Try.ntmps8
  by_cases hl : l.length ≤ 30
  · have hl' : ¬ (30 : Int) < (l.length : Int) := by omega
    have hlb : decide ((30 : Int) < (l.length : Int)) = false := decide_eq_false hl'
    go_upto_region 3 with (first | (go_at_call 14; refine (awake_any _).mono ?_; rintro e w1 ⟨rfl, hb1⟩))
    have HO1 := Lib.hid (HO.out.below hb1)
    go_upto_region 6 with (first | (go_at_call 25; refine (play_any p q _ l _ HP.out HQ.out HO1.out hl).mono ?_; rintro e w2 ⟨s, L, hv, H, rfl, hpi, hH30, ⟨B0, hpm⟩, hb2⟩; have HPI := Lib.hid hpi; have hsl := hpm.slices; have HPM := Lib.hid hpm; clear hpi hpm) | (refine store_zone rfl (.tmp 7) (.tmp 31) rfl w2.heap.size z0 nilS (zP p q) s rfl rfl (heap_alloc_new w2 _) hsl ?_; intro w3 hbx3 hk3))
    have hal : Below w2.heap.size w2 (w2.alloc (.cells #[.int .i64 0, .int .i64 0, .int .i64 0, .int .i64 0, .int .i64 0, .slice none 0 0, .slice none 0 0, .slice none 0 0, .slice none 0 0, .slice none 0 0] 25)) := (Below.refl _ w2).alloc (Nat.le_refl _) _
    have hb3 : Below w2.heap.size w2 w3 := hal.trans (hk3.to_below (by simp) fun k hk => by omega)
    have hpm3 := ((((HPM.out.fresh (Nat.le_refl _)).below hal).keeps hk3 (fun b _ h => h)).lower hb1.size)
    have hbel3 : Below w.heap.size w w3 := (hb1.trans (hb2.mono hb1.size)).trans (hb3.mono (Nat.le_trans hb1.size hb2.size))
    have hpm4 := hpm3.fresh (Nat.le_refl w3.heap.size)
    have hal4 : Below w3.heap.size w3 (w3.alloc (.cells Try.zeroCells46 46)) := (Below.refl _ w3).alloc (Nat.le_refl _) _
    have HR0 := Lib.hid (row80_new w3)
    have HPM4 := Lib.hid (hpm4.below hal4)
    have HBX4 := Lib.hid ((hal4.block _ (lt_of_block hbx3)).trans hbx3)
    have hbel4 : Below w.heap.size w (w3.alloc (.cells Try.zeroCells46 46)) := hbel3.trans (hal4.mono hbel3.size)
    have hBO : w2.heap.size < w3.heap.size := lt_of_block hbx3
    have hOw : w.heap.size ≤ w3.heap.size := hbel3.size
    obtain ⟨b0, d0, rfl⟩ := HPM4.out.held.form
    go_upto_region 8 with fail
    obtain ⟨O, hO⟩ : ∃ O, O = w3.heap.size := ⟨_, rfl⟩
    obtain ⟨B, hB⟩ : ∃ B, B = w2.heap.size := ⟨_, rfl⟩
    obtain ⟨w4, hw4⟩ : ∃ w4, w4 = w3.alloc (.cells Try.zeroCells46 46) := ⟨_, rfl⟩
    rw [← hO, ← hw4] at HR0 HPM4
    rw [← hB, ← hw4] at HBX4
    rw [← hO, ← hB] at hBO
    rw [← hO] at hOw
    rw [← hw4] at hbel4
    rw [← hO, ← hB, ← hw4]
    clear hO hB hw4 hal hb3 hk3 hpm3 hpm4 hal4 hbel3 hbx3 HPM HO1 hb1 hb2
    go_wp2_with fail
    go_loopg [49] H.length (fun k s49 wr => ∃ i : Nat, s49 = .int .i64 i ∧ i ≤ H.length ∧ Hid (k = H.length - i) ∧ Hid (row80 wr O (fun x => cnt (H.take i) x)) ∧ Hid (PM wr w.heap.size O s L (.slice b0 H.length d0) H) ∧ Hid (boxed wr B (zP p q) s) ∧ Below w.heap.size w wr)
    case atStart => exact ⟨0, rfl, by omega, rfl, by
      have e : (fun x : Int => cnt (H.take 0) x) = fun _ => 0 := by funext x; simp [cnt]
      rw [e]; exact HR0.out, HPM4.out, HBX4.out, hbel4⟩
    case round =>
      obtain ⟨i, rfl, hi, hk, hrow, hpm, hbx, hbl⟩ := hrel
      by_cases hlt : i < H.length
      · have hlt' : (i : Int) < (H.length : Int) := by omega
        obtain ⟨⟨f, o⟩, hh⟩ : ∃ h, h = H[i] := ⟨_, rfl⟩
        have hE := list_parts hlt
        rw [← hh] at hE
        have hAl : (H.take i).length = i := by simp; omega
        have htk : Hid (H.take (i + 1) = H.take i ++ [(f, o)]) := by rw [hh]; exact (List.take_append_getElem hlt).symm
        have hin := HPI.out.ins (f, o) (by rw [hh]; exact List.getElem_mem hlt)
        have hown := hpm.out.held
        rw [hE] at hown
        obtain ⟨gb, cap, hve, _, _, _, _, k0, k1, _, _⟩ := ownsH.parts hown
        rw [hAl] at k0 k1
        rw [← hE] at hve
        injection hve with hb hl2 hd
        subst hb hd
        simp only at k0 k1 hin
        have ho4 := hin.1
        have hii := insB_iff.1 hin.2
        rw [← pw_eq] at hii
        have hst : (zP p q).st = p % 16 := rfl
        have hct : (zP p q).ct = 1 + q % 64 := rfl
        rw [hst, hct] at hii
        obtain ⟨F, rfl⟩ : ∃ F : Nat, f = F := ⟨f.toNat, by omega⟩
        have hp1' := (pw_bounds ho4).1
        have hp16 := (pw_bounds ho4).2
        have g1 : ¬ (F : Int) < p % 16 := by omega
        have g2 : (F : Int) % pw o = 0 := hii.2.1
        have g3 : ¬ p % 16 + 1 + q % 64 < (F : Int) + pw o := by omega
        have g1b : decide ((F : Int) < p % 16) = false := decide_eq_false g1
        have g3b : decide (p % 16 + 1 + q % 64 < (F : Int) + pw o) = false := decide_eq_false g3
        have hF80 : (F : Int) + pw o ≤ 80 := by omega
        obtain ⟨m, hm⟩ : ∃ m : Nat, pw o = m := ⟨2 ^ o, by rw [pw_eq]; simp⟩
        have HM : Hid (pw o = m ∧ pw o = 2 ^ o) := ⟨hm, pw_eq o⟩
        clear hE hAl hh hin hown hl2 hii hst hct hm
        go_upto_region 11 with fail
        have hal : Below wr.heap.size wr (wr.alloc (.cells #[.int .i64 F, .int .i64 o] 48)) := (Below.refl _ wr).alloc (Nat.le_refl _) _
        have hX := alloc_at wr (.cells #[.int .i64 F, .int .i64 o] 48)
        obtain ⟨X, hXs⟩ : ∃ X, X = wr.heap.size := ⟨_, rfl⟩
        obtain ⟨wa, hwa⟩ : ∃ wa, wa = wr.alloc (.cells #[.int .i64 F, .int .i64 o] 48) := ⟨_, rfl⟩
        rw [← hwa] at hal
        have hrowA := Lib.hid (hrow.out.below hal)
        have hpmA := Lib.hid (hpm.out.below hal)
        have hbxA := Lib.hid ((hal.block _ (lt_of_block hbx.out)).trans hbx.out)
        have hblA : Below w.heap.size w wa := hbl.trans (hal.mono hbl.size)
        have hXO : X ≠ O := by have := hrow.out.lt; omega
        rw [← hwa, ← hXs] at hX
        have HX := Lib.hid hX
        have f0 : wa.cell? ⟨X, 0, none⟩ = some (.int .i64 F) := by rw [cell_of_block hX]; rfl
        have f1 : wa.cell? ⟨X, 1, none⟩ = some (.int .i64 o) := by rw [cell_of_block hX]; rfl
        rw [← hwa, ← hXs]
        clear hal hX hXs hwa hrow hpm hbx hbl k0 k1
        go_upto_region 12 with fail
        rw [wrap_pow o ho4]
        go_wp2_with fail
        clear f0 f1 g1 g2 g3 g1b g3b
        go_loopg [16] m (fun k s16 wr => ∃ q2 : Nat, s16 = .int .i64 q2 ∧ F ≤ q2 ∧ (q2 : Int) ≤ (F : Int) + pw o ∧ Hid (k = F + m - q2) ∧ Hid (row80 wr O (fun x => cnt (H.take i) x + if (F : Int) ≤ x ∧ x < q2 then 1 else 0)) ∧ Hid (PM wr w.heap.size O s L (.slice (some ⟨gb, 0, none⟩) H.length d0) H) ∧ Hid (boxed wr B (zP p q) s) ∧ Hid (wr.heap[X]? = some (.cells #[.int .i64 F, .int .i64 o] 48 (0, 0))) ∧ Below w.heap.size w wr)
        case atStart => exact ⟨F, rfl, by omega, by omega, (show m = F + m - F by omega), by
          have e : (fun x : Int => cnt (H.take i) x + if (F : Int) ≤ x ∧ x < (F : Int) then 1 else 0) = fun x => cnt (H.take i) x := by funext x; rw [if_neg (by omega)]; omega
          rw [e]; exact hrowA.out, hpmA.out, hbxA.out, HX.out, hblA⟩
        case round =>
          obtain ⟨q2, rfl, hq0', hq1', hk2, hrow2, hpm2, hbx2, hx2, hbl2⟩ := hrel
          have f0 : wr.cell? ⟨X, 0, none⟩ = some (.int .i64 F) := by rw [cell_of_block hx2.out]; rfl
          by_cases hlt2 : (q2 : Int) < (F : Int) + pw o
          · have hq80 : q2 < 80 := by omega
            have hqi : (q2 : Int) < 80 := by omega
            have hc := hrow2.out.cell hq80
            have hf : wr.frozen? ⟨O, q2, none⟩ = false := hrow2.out.frozen q2
            have e0 : (cnt (H.take i) (q2 : Int) + if (F : Int) ≤ (q2 : Int) ∧ (q2 : Int) < q2 then 1 else 0) = cnt (H.take i) q2 := by rw [if_neg (by omega)]; omega
            rw [e0] at hc
            have hcb := cnt_bound (H := H.take i) (x := (q2 : Int))
            have hcl : (H.take i).length ≤ 30 := by rw [List.length_take]; omega
            obtain ⟨vv, hvv⟩ : ∃ vv, vv = cnt (H.take i) (q2 : Int) := ⟨_, rfl⟩
            rw [← hvv] at hc hcb
            have hv0 : 0 ≤ vv := hcb.1
            have hv1 : vv ≤ 30 := by omega
            have HS := Lib.hid (hrow2.out.set (j := q2) (vv + 1))
            have HK := Lib.hid (setCell_keeps wr O q2 (.int .i64 (vv + 1)))
            have HVV := Lib.hid hvv
            clear e0 hcb hcl hvv
            go_wp2_with fail
            go_roundg (F + m - (q2 + 1))
            case rel => exact ⟨q2 + 1, by go_num, by omega, by omega, rfl, by
              have e : (fun x : Int => cnt (H.take i) x + if (F : Int) ≤ x ∧ x < ((q2 + 1 : Nat) : Int) then 1 else 0) = fun x => if x = (q2 : Int) then vv + 1 else cnt (H.take i) x + if (F : Int) ≤ x ∧ x < (q2 : Int) then 1 else 0 := by
                funext x
                by_cases e : x = (q2 : Int)
                · subst e; rw [if_pos (by omega), if_pos rfl, HVV.out]
                · rw [if_neg e]
                  by_cases h2 : (F : Int) ≤ x ∧ x < (q2 : Int)
                  · rw [if_pos h2, if_pos (by omega)]
                  · rw [if_neg h2, if_neg (by omega)]
              rw [e]; exact HS.out, hpm2.out.keeps HK.out (fun b _ h => h), (HK.out.block _ (lt_of_block hbx2.out) (by omega)).trans hbx2.out, (HK.out.block _ (lt_of_block hx2.out) hXO).trans hx2.out, hbl2.trans (HK.out.to_below hbl2.size fun k hk => by omega)⟩
            case measure =>
              have h1 := hk2.out
              have h2 := HM.out.1
              omega
          · have HR2 : Hid (row80 wr O (fun x => cnt (H.take (i + 1)) x)) := by
              have e : (fun x : Int => cnt (H.take (i + 1)) x) = fun x => cnt (H.take i) x + if (F : Int) ≤ x ∧ x < (q2 : Int) then 1 else 0 := by
                funext x
                have e2 : (q2 : Int) = (F : Int) + 2 ^ o := by rw [← HM.out.2]; omega
                rw [htk.out, cnt_snoc, e2]
              rw [e]; exact hrow2.out
            go_wp2_with fail
            go_roundg (H.length - (i + 1))
            case rel => exact ⟨i + 1, by go_num, by omega, rfl, HR2.out, hpm2.out, hbx2.out, hbl2⟩
            case measure => have := hk.out; omega
      · have hiH : i = H.length := by omega
        subst hiH
        have HR3 : Hid (row80 wr O (fun x => cnt H x)) := by have := hrow.out; rwa [List.take_length] at this
        go_wp2_with fail
        go_loopg [92] 80 (fun k s92 wr => ∃ (t : Nat) (lf : Int → Int), s92 = .int .i64 t ∧ t ≤ 80 ∧ Hid (k = 80 - t) ∧ Hid (row80 wr O lf) ∧ Hid (∀ x, (t : Int) ≤ x → lf x = cnt H x) ∧ Hid (PM wr w.heap.size O s L (.slice b0 H.length d0) H) ∧ Hid (boxed wr B (zP p q) s) ∧ Below w.heap.size w wr)
        case atStart => exact ⟨0, _, rfl, by omega, rfl, HR3.out, fun x _ => rfl, hpm.out, hbx.out, hbl⟩
        case round =>
          obtain ⟨t, lf, rfl, ht, hk3, hrow3, hlf, hpm3, hbx3, hbl3⟩ := hrel
          by_cases hlt3 : t < 80
          · have hti : (t : Int) < 80 := by omega
            have hc := hrow3.out.cell hlt3
            rw [hlf.out t (by omega)] at hc
            have htot := HPI.out.total (t : Int)
            have hst : (zP p q).st = p % 16 := rfl
            have hct : (zP p q).ct = 1 + q % 64 := rfl
            rw [hst, hct] at htot
            have hfin : Hid (fits (t : Int)) := ⟨by omega, by omega⟩
            have hcb := (cnt_bound (H := H) (x := (t : Int))).1
            have hbx' := hbx3.out
            by_cases hfr : freeB L (t : Int) = true
            · rw [if_pos hfr] at htot
              by_cases hz : p % 16 ≤ (t : Int) ∧ (t : Int) < p % 16 + (1 + q % 64)
              · rw [if_pos hz] at htot
                rw [show cnt H (t : Int) = 0 by omega] at hc
                have hz1 := hz.1
                have hz2 : (t : Int) < p % 16 + 1 + q % 64 := by omega
                clear htot hz hst hct hcb
                go_wp2_with (first | (refine load_zone rfl (.tmp 7) rfl B (zP p q) s rfl hbx' ?_) | (go_at_call 26; refine (isFree_ok (zP p q) s L t _ HZ.out HPI.out.valid hpm3.out.rdZ hfin.out).mono ?_; rintro e w5 ⟨he, hb5⟩; rw [hfr] at he; subst he; have hc5 := (hb5.cell (block_lt_of_cell hc)).trans hc; have hf5 : w5.frozen? ⟨O, t, none⟩ = false := (hrow3.out.below hb5).frozen t; have HS := Lib.hid ((hrow3.out.below hb5).set (j := t) 1); have HK := Lib.hid (setCell_keeps w5 O t (.int .i64 1))))
                have hbl5 : Below w.heap.size w w5 := hbl3.trans (hb5.mono hbl3.size)
                have hbx5 := (hb5.block _ (lt_of_block hbx3.out)).trans hbx3.out
                go_roundg (80 - (t + 1))
                case rel => exact ⟨t + 1, _, by go_num, by omega, rfl, HS.out, fun x hx => by rw [if_neg (by omega)]; exact hlf.out x (by omega), (hpm3.out.below hb5).keeps HK.out (fun b _ h => h), (HK.out.block _ (lt_of_block hbx5) (by omega)).trans hbx5, hbl5.trans (HK.out.to_below hbl5.size fun k hk => by omega)⟩
                case measure => have := hk3.out; omega
              · rw [if_neg hz] at htot; omega
            · rw [if_neg hfr] at htot
              have hfr' : freeB L (t : Int) = false := by simpa using hfr
              clear hfr
              by_cases hz : p % 16 ≤ (t : Int) ∧ (t : Int) < p % 16 + (1 + q % 64)
              · rw [if_pos hz] at htot
                rw [show cnt H (t : Int) = 1 by omega] at hc
                have hz1 := hz.1
                have hz2 : (t : Int) < p % 16 + 1 + q % 64 := by omega
                clear htot hz hst hct hcb
                go_wp2_with (first | (refine load_zone rfl (.tmp 7) rfl B (zP p q) s rfl hbx' ?_) | (go_at_call 26; refine (isFree_ok (zP p q) s L t _ HZ.out HPI.out.valid hpm3.out.rdZ hfin.out).mono ?_; rintro e w5 ⟨he, hb5⟩; rw [hfr'] at he; subst he; have hc5 := (hb5.cell (block_lt_of_cell hc)).trans hc; have hf5 : w5.frozen? ⟨O, t, none⟩ = false := (hrow3.out.below hb5).frozen t))
                go_roundg (80 - (t + 1))
                case rel => exact ⟨t + 1, lf, by go_num, by omega, rfl, hrow3.out.below hb5, fun x hx => hlf.out x (by omega), hpm3.out.below hb5, (hb5.block _ (lt_of_block hbx3.out)).trans hbx3.out, hbl3.trans (hb5.mono hbl3.size)⟩
                case measure => have := hk3.out; omega
              · rw [if_neg hz] at htot
                rw [show cnt H (t : Int) = 0 by omega] at hc
                by_cases hz1 : p % 16 ≤ (t : Int)
                · have hz2 : ¬ (t : Int) < p % 16 + 1 + q % 64 := by omega
                  clear htot hz hst hct hcb
                  go_wp2_with (first | (refine load_zone rfl (.tmp 7) rfl B (zP p q) s rfl hbx' ?_) | (go_at_call 26; refine (isFree_ok (zP p q) s L t _ HZ.out HPI.out.valid hpm3.out.rdZ hfin.out).mono ?_; rintro e w5 ⟨he, hb5⟩; rw [hfr'] at he; subst he; have hc5 := (hb5.cell (block_lt_of_cell hc)).trans hc; have hf5 : w5.frozen? ⟨O, t, none⟩ = false := (hrow3.out.below hb5).frozen t))
                  go_roundg (80 - (t + 1))
                  case rel => exact ⟨t + 1, lf, by go_num, by omega, rfl, hrow3.out.below hb5, fun x hx => hlf.out x (by omega), hpm3.out.below hb5, (hb5.block _ (lt_of_block hbx3.out)).trans hbx3.out, hbl3.trans (hb5.mono hbl3.size)⟩
                  case measure => have := hk3.out; omega
                · clear htot hz hst hct hcb
                  go_wp2_with (first | (refine load_zone rfl (.tmp 7) rfl B (zP p q) s rfl hbx' ?_) | (go_at_call 26; refine (isFree_ok (zP p q) s L t _ HZ.out HPI.out.valid hpm3.out.rdZ hfin.out).mono ?_; rintro e w5 ⟨he, hb5⟩; rw [hfr'] at he; subst he; have hc5 := (hb5.cell (block_lt_of_cell hc)).trans hc; have hf5 : w5.frozen? ⟨O, t, none⟩ = false := (hrow3.out.below hb5).frozen t))
                  go_roundg (80 - (t + 1))
                  case rel => exact ⟨t + 1, lf, by go_num, by omega, rfl, hrow3.out.below hb5, fun x hx => hlf.out x (by omega), hpm3.out.below hb5, (hb5.block _ (lt_of_block hbx3.out)).trans hbx3.out, hbl3.trans (hb5.mono hbl3.size)⟩
                  case measure => have := hk3.out; omega
          · go_wp2_with fail
            go_ret
            exact ⟨rfl, hbl3⟩
  · have hl' : (30 : Int) < (l.length : Int) := by omega
    have hlb : decide ((30 : Int) < (l.length : Int)) = true := decide_eq_true hl'
    go_wp2_with (first | (go_at_call 14; refine (awake_any _).mono ?_; rintro e w2 ⟨rfl, hb2⟩; have hA2 := hb1.trans (hb2.mono hb1.size)) | (go_at_call 14; refine (awake_any _).mono ?_; rintro e w1 ⟨rfl, hb1⟩))
    go_ret
    exact ⟨rfl, hA2⟩
end Go.Proofs.Ytcmmoemmlellbaa
