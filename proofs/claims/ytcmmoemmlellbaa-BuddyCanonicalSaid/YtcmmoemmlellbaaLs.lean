/- The law BuddyServes: walked. Conditions: none. -/
import Derived.Test.YtcmmoemmlellbaaPl
import Derived.Test.YtcmmoemmlellbaaPs
namespace Go.Proofs.Ytcmmoemmlellbaa
open Go.RowKit
attribute [local go_sem] wrap_pow

theorem opsAt.below {w w' : World} {v : Value} {l : List OpM} (h : opsAt w v l) (hb : Below w.heap.size w w') : opsAt w' v l := by
  obtain ⟨a, c, rfl, h⟩ := h
  refine ⟨a, c, rfl, fun i x hx => ?_⟩
  obtain ⟨h0, b, o, h1, h2, h3, h4⟩ := h i x hx
  exact ⟨h0, b, o, h1, (hb.cell (block_lt_of_cell h2)).trans h2, (hb.cell (block_lt_of_cell h3)).trans h3, (hb.cell (block_lt_of_cell h4)).trans h4⟩
theorem opsAt.form {w : World} {v : Value} {l : List OpM} (h : opsAt w v l) : ∃ a c, v = .slice a l.length c := by
  obtain ⟨a, c, rfl, h⟩ := h; exact ⟨a, c, rfl⟩

set_option maxRecDepth 100000 in
set_option maxHeartbeats 4000000 in
theorem serves_walk (p q : Int) (v : Value) (l : List OpM) (o : Int) (w : World) (hp : 0 ≤ p ∧ p < 256) (hq : 0 ≤ q ∧ q < 256) (hops : opsAt w v l) (ho : 0 ≤ o ∧ o < 256) :
    Calls Try.prog 7 #[.agg #[.int .u8 p, .int .u8 q], v, .int .u8 o] w fun e w' => e = .returned (.bool true) ∧ Below w.heap.size w w' := by
  have HZ := Lib.hid (zP_ok p q)
  have HO := Lib.hid (hops.below ((Below.refl _ w).alloc (Nat.le_refl _) (.cells #[.int .u8 p, .int .u8 q] 39)))
  have HP := Lib.hid hp
  have HQ := Lib.hid hq
  obtain ⟨a, c, rfl⟩ := hops.form
  obtain ⟨n, hn⟩ : ∃ n : Nat, o % 5 = n := ⟨(o % 5).toNat, by omega⟩
  have hn4 : n ≤ 4 := by omega
  have ho0 := ho.1
  have ho1 := ho.2
  clear hops hp hq ho
  go_enter Try.func7, Try.ntmps7
  by_cases hl : l.length ≤ 30
  · have hl' : ¬ (30 : Int) < (l.length : Int) := by omega
    have hlb : decide ((30 : Int) < (l.length : Int)) = false := decide_eq_false hl'
    go_upto_region 3 with (first | (go_at_call 14; refine (awake_any _).mono ?_; rintro e w1 ⟨rfl, hb1⟩))
    have hx := (hb1.block w.heap.size (by simp)).trans (heap_alloc_new w _)
    have c0 : w1.cell? ⟨w.heap.size, 0, none⟩ = some (.int .u8 p) := by rw [cell_of_block hx]; rfl
    have c1 : w1.cell? ⟨w.heap.size, 1, none⟩ = some (.int .u8 q) := by rw [cell_of_block hx]; rfl
    have hbel1 : Below w.heap.size w w1 := box_one hb1
    have HO1 := Lib.hid (HO.out.below hb1)
    clear hx hb1
    go_upto_region 6 with (first | (go_at_call 25; refine (play_any p q _ l _ HP.out HQ.out HO1.out hl).mono ?_; rintro e w2 ⟨s, L, hv, H, rfl, hpi, _, ⟨B0, hpm⟩, hb2⟩; have HPI := Lib.hid hpi; have HRD := Lib.hid hpm.rdZ; have hsl := hpm.slices; clear hpi hpm) | (refine store_zone rfl (.tmp 7) (.tmp 34) rfl w2.heap.size z0 nilS (zP p q) s rfl rfl (heap_alloc_new w2 _) hsl ?_; intro w3 hbx3 hk3))
    obtain ⟨hv3, hb3⟩ := Var.made HRD.out hbx3 hk3
    have hbel3 : Below w.heap.size w w3 := (hbel1.trans (hb2.mono hbel1.size)).trans (hb3.mono (Nat.le_trans hbel1.size hb2.size))
    obtain ⟨B, hB⟩ : ∃ B, B = w2.heap.size := ⟨_, rfl⟩
    rw [← hB] at hv3 ⊢
    have HV3 := Lib.hid hv3
    clear hbx3 hk3 hv3 hB hb2 hb3 hbel1 c0 c1
    have hp1 := (pw_bounds hn4).1
    have hp16 := (pw_bounds hn4).2
    obtain ⟨m, hm⟩ : ∃ m : Nat, m = 2 ^ n := ⟨_, rfl⟩
    have HM : Hid (pw n = m ∧ m = 2 ^ n) := ⟨by rw [pw_eq, hm]; simp, hm⟩
    have hn5 : (o % 5) = (n : Int) := hn
    clear hn hm
    go_upto_region 7 with fail
    rw [hn5]
    clear hn5
    have hn0 : (0 : Int) ≤ (n : Int) := by omega
    go_upto_region 8 with fail
    rw [wrap_pow n hn4]
    go_wp2_with fail
    go_loopg [12, 13] 81 (fun k s12 s13 wr => ∃ F : Nat, s13 = .int .i64 F ∧ s12 = .bool (sB L m F) ∧ F ≤ 80 ∧ Hid (k = 81 - F) ∧ Hid (F % 2 ^ n = 0) ∧ Hid (Var wr B (zP p q) s L) ∧ Below w.heap.size w wr)
    case atStart => exact ⟨0, rfl, by rw [sB_zero], by omega, rfl, Nat.zero_mod _, HV3.out, hbel3⟩
    case round =>
      obtain ⟨F, rfl, rfl, hF, hk, hmod, hv, hbl⟩ := hrel
      obtain ⟨c1, hc1⟩ : ∃ c1, c1 = sB L m F := ⟨_, rfl⟩
      rw [← hc1]
      have HC1 := Lib.hid hc1
      clear hc1
      by_cases hlt : (F : Int) + pw n ≤ 80
      · go_wp2_with fail
        go_loopg [14, 15] m (fun k s14 s15 wr => ∃ g : Nat, s15 = .int .i64 g ∧ F ≤ g ∧ (g : Int) ≤ (F : Int) + pw n ∧ s14 = .bool (allTo L F (g - F)) ∧ Hid (k = F + m - g) ∧ Hid (Var wr B (zP p q) s L) ∧ Below w.heap.size w wr)
        case atStart => exact ⟨F, rfl, by omega, by omega, by rw [Nat.sub_self, allTo_zero], (show m = F + m - F by omega), hv.out, hbl⟩
        case round =>
          obtain ⟨g, rfl, hg0, hg1, rfl, hk', hv', hbl'⟩ := hrel
          by_cases hlt' : (g : Int) < (F : Int) + pw n
          · obtain ⟨c2, hc2⟩ : ∃ c2, c2 = allTo L F (g - F) := ⟨_, rfl⟩
            rw [← hc2]
            have HC2 := Lib.hid hc2
            clear hc2
            have hsucc : Hid (allTo L F (g + 1 - F) = (c2 && freeB L (g : Int))) := by
              rw [show g + 1 - F = (g - F) + 1 by omega, allTo_succ, ← HC2.out, show F + (g - F) = g by omega]; rfl
            obtain ⟨d0, d1, d2, d3, d4, d5, d6, d7, d8, d9⟩ := boxed.head hv'.out.box
            have hfg : fits (g : Int) := by unfold fits; omega
            have HFG := Lib.hid hfg
            clear hfg
            cases c2 with
            | false =>
              go_wp2_with fail
              go_roundg (F + m - (g + 1))
              case rel => exact ⟨g + 1, by go_num, by omega, by omega, by rw [hsucc.out]; rfl, rfl, hv'.out, hbl'⟩
              case measure =>
                have h1 := hk'.out
                have h2 := HM.out.1
                omega
            | true =>
              go_wp2_with (go_at_call 26; refine (isFree_ok (zP p q) s L g _ HZ.out HPI.out.valid hv'.out.rd HFG.out).mono ?_; rintro e w5 ⟨rfl, hb5⟩)
              go_roundg (F + m - (g + 1))
              case rel => exact ⟨g + 1, by go_num, by omega, by omega, by rw [hsucc.out]; rfl, rfl, hv'.out.below hb5, hbl'.trans (hb5.mono hbl'.size)⟩
              case measure =>
                have h1 := hk'.out
                have h2 := HM.out.1
                omega
          · have hgm : g - F = m := by have h2 := HM.out.1; omega
            rw [hgm]
            obtain ⟨c2, hc2⟩ : ∃ c2, c2 = allTo L F m := ⟨_, rfl⟩
            rw [← hc2]
            have HST : Hid (sB L m (F + m) = (c1 || c2)) := by rw [HC1.out, hc2, HM.out.2]; exact sB_step hn4 hmod.out
            have hmod2 : Hid ((F + m) % 2 ^ n = 0) := by rw [HM.out.2]; exact mod_step hn4 hmod.out
            have he : ((F + m : Nat) : Int) = (F : Int) + pw n := by have h2 := HM.out.1; omega
            have HEE := Lib.hid he
            clear hc2 hgm he
            cases c1 with
            | false =>
              go_wp2_with fail
              go_roundg (81 - (F + m))
              case rel => exact ⟨F + m, by rw [HEE.out], by rw [HST.out]; simp, by have h2 := HEE.out; omega, rfl, hmod2.out, hv'.out, hbl'⟩
              case measure =>
                have h1 := hk.out
                have h2 := HM.out.1
                omega
            | true =>
              go_wp2_with fail
              go_roundg (81 - (F + m))
              case rel => exact ⟨F + m, by rw [HEE.out], by rw [HST.out]; simp, by have h2 := HEE.out; omega, rfl, hmod2.out, hv'.out, hbl'⟩
              case measure =>
                have h1 := hk.out
                have h2 := HM.out.1
                omega
      · have hdone : c1 = (findK L (5 - n) n).isSome := by
          rw [HC1.out, HM.out.2]
          exact sB_done HPI.out.valid hn4 (zP_range p q).1 (zP_range p q).2 hmod.out (by have h2 := HM.out.1; have h3 := HM.out.2; omega) hF
        rcases hfind : findK L (5 - n) n with _ | k
        · rw [hfind] at hdone
          have hc1f : c1 = false := hdone
          subst hc1f
          have HFI := Lib.hid hfind
          clear hdone hfind
          have hbv := hv.out.box
          go_wp2_with (first | (refine load_zone rfl (.tmp 7) rfl B (zP p q) s rfl hbv ?_) | (go_at_call 21; refine (alloc_main (zP p q) s L n _ HZ.out HPI.out.valid hv.out.rd hn4).mono ?_; rintro e w5 ⟨hb5, (⟨_, rfl⟩ | ⟨k', s', hk', _⟩)⟩; (rotate_left; (exact absurd (HFI.out.symm.trans hk') (by simp)))) | (refine store_zone rfl (.tmp 16) (.tmp 74) rfl w5.heap.size z0 nilS z0 nilS rfl rfl (heap_alloc_new w5 _) slices_nil ?_; intro w6 hbx6 hk6))
          go_ret
          exact ⟨rfl, (hbl.trans (hb5.mono hbl.size)).trans ((((Below.refl _ w5).alloc (Nat.le_refl _) _).trans (hk6.to_below (by simp) fun k hk => by omega)).mono (Nat.le_trans hbl.size hb5.size))⟩
        · rw [hfind] at hdone
          have hc1f : c1 = true := hdone
          subst hc1f
          have HFI := Lib.hid hfind
          clear hdone hfind
          have hbv := hv.out.box
          go_wp2_with (first | (refine load_zone rfl (.tmp 7) rfl B (zP p q) s rfl hbv ?_) | (go_at_call 21; refine (alloc_main (zP p q) s L n _ HZ.out HPI.out.valid hv.out.rd hn4).mono ?_; rintro e w5 ⟨hb5, (⟨hk', _⟩ | ⟨k', s', hk', rfl, hr5, hs5⟩)⟩; (exact absurd (HFI.out.symm.trans hk') (by simp)); have HR5 := Lib.hid hr5; clear hr5 hk') | (refine store_zone rfl (.tmp 16) (.tmp 74) rfl w5.heap.size z0 nilS (zP p q) s' rfl rfl (heap_alloc_new w5 _) hs5 ?_; intro w6 hbx6 hk6))
          go_ret
          exact ⟨rfl, (hbl.trans (hb5.mono hbl.size)).trans ((((Below.refl _ w5).alloc (Nat.le_refl _) _).trans (hk6.to_below (by simp) fun k hk => by omega)).mono (Nat.le_trans hbl.size hb5.size))⟩
  · have hl' : (30 : Int) < (l.length : Int) := by omega
    have hlb : decide ((30 : Int) < (l.length : Int)) = true := decide_eq_true hl'
    go_wp2_with (first | (go_at_call 14; refine (awake_any _).mono ?_; rintro e w2 ⟨rfl, hb2⟩; have hA2 := hA.trans (hb2.mono hA.size)) | (go_at_call 14; refine (awake_any _).mono ?_; rintro e w1 ⟨rfl, hb1⟩; have hA := box_one hb1))
    go_ret
    exact ⟨rfl, hA2⟩
end Go.Proofs.Ytcmmoemmlellbaa
