/- The law BuddyBack: walked. Conditions: none. -/
import Derived.Test.YtcmmoemmlellbaaLs
namespace Go.Proofs.Ytcmmoemmlellbaa
open Go.RowKit
attribute [local go_sem] wrap_pow

/-- a slice of bytes reads as numbers -/
def bytesAt (w : World) (v : Value) (l : List Int) : Prop := ∃ a c, v = .slice a l.length c ∧ ∀ i x, l[i]? = some x → (0 ≤ x ∧ x < 256) ∧ ∃ b o, a = some ⟨b, o, none⟩ ∧ w.cell? ⟨b, o + i, none⟩ = some (.int .u8 x)

set_option maxRecDepth 100000 in
set_option maxHeartbeats 4000000 in
theorem back_walk (p q : Int) (v : Value) (l : List OpM) (u : Value) (ps : List Int) (w : World) (hp : 0 ≤ p ∧ p < 256) (hq : 0 ≤ q ∧ q < 256) (hops : opsAt w v l) (hpk : bytesAt w u ps) :
    Calls Try.prog 9 #[.agg #[.int .u8 p, .int .u8 q], v, u] w fun e w' => e = .returned (.bool true) ∧ Below w.heap.size w w' := by
  have HZ := Lib.hid (zP_ok p q)
  have HF := Lib.hid (Zh.fits_of_ok (zP_ok p q))
  have HO := Lib.hid (hops.below ((Below.refl _ w).alloc (Nat.le_refl _) (.cells #[.int .u8 p, .int .u8 q] 39)))
  have HP := Lib.hid hp
  have HQ := Lib.hid hq
  obtain ⟨a, c, rfl⟩ := hops.form
  obtain ⟨a2, c2, rfl, hpk⟩ := hpk
  have HPK := Lib.hid hpk
  have hp0 := hp.1
  have hp1 := hp.2
  have hq0 := hq.1
  have hq1 := hq.2
  have hm1 : p % 16 ≤ 15 := by omega
  have hm2 : 0 ≤ p % 16 := by omega
  have hm3 : q % 64 ≤ 63 := by omega
  have hm4 : 0 ≤ q % 64 := by omega
  clear hops hp hq hpk
  go_enter Try.func9, Try.ntmps9
  by_cases hl : l.length ≤ 30
  · have hl' : ¬ (30 : Int) < (l.length : Int) := by omega
    have hlb : decide ((30 : Int) < (l.length : Int)) = false := decide_eq_false hl'
    go_upto_region 3 with (first | (go_at_call 14; refine (awake_any _).mono ?_; rintro e w1 ⟨rfl, hb1⟩))
    have hx := (hb1.block w.heap.size (by simp)).trans (heap_alloc_new w _)
    have c0 : w1.cell? ⟨w.heap.size, 0, none⟩ = some (.int .u8 p) := by rw [cell_of_block hx]; rfl
    have c1 : w1.cell? ⟨w.heap.size, 1, none⟩ = some (.int .u8 q) := by rw [cell_of_block hx]; rfl
    have hbel1 : Below w.heap.size w w1 := box_one hb1
    have hsz1 : w.heap.size + 1 ≤ w1.heap.size := lt_of_block hx
    have HO1 := Lib.hid (HO.out.below hb1)
    have HX := Lib.hid hx
    clear hx hb1
    go_upto_region 6 with (first | (go_at_call 25; refine (play_any p q _ l _ HP.out HQ.out HO1.out hl).mono ?_; rintro e w2 ⟨s, L, hv, H, rfl, hpi, hH30, ⟨B0, hpm⟩, hb2⟩; have HPI := Lib.hid hpi; have hsl := hpm.slices; have HPM := Lib.hid hpm; clear hpi hpm) | (refine store_zone rfl (.tmp 7) (.tmp 31) rfl w2.heap.size z0 nilS (zP p q) s rfl rfl (heap_alloc_new w2 _) hsl ?_; intro w3 hbx3 hk3))
    have hal : Below w2.heap.size w2 (w2.alloc (.cells #[.int .i64 0, .int .i64 0, .int .i64 0, .int .i64 0, .int .i64 0, .slice none 0 0, .slice none 0 0, .slice none 0 0, .slice none 0 0, .slice none 0 0] 25)) := (Below.refl _ w2).alloc (Nat.le_refl _) _
    have hb3 : Below w2.heap.size w2 w3 := hal.trans (hk3.to_below (by simp) fun k hk => by omega)
    have hpm3 := ((((HPM.out.fresh (Nat.le_refl _)).below hal).keeps hk3 (fun b _ h => h)).lower hsz1)
    have hbel3 : Below w.heap.size w w3 := (hbel1.trans (hb2.mono hbel1.size)).trans (hb3.mono (Nat.le_trans hbel1.size hb2.size))
    have hpb3 := (hb3.block _ (by have := hb2.size; omega)).trans ((hb2.block _ (by omega)).trans HX.out)
    have hsz2 : w.heap.size + 1 ≤ w2.heap.size := Nat.le_trans hsz1 hb2.size
    obtain ⟨b0, d0, rfl⟩ := hpm3.held.form
    obtain ⟨B, hB⟩ : ∃ B, B = w2.heap.size := ⟨_, rfl⟩
    rw [← hB] at hpm3 hbx3 hsz2 ⊢
    have HPM3 := Lib.hid hpm3
    have HBX3 := Lib.hid hbx3
    have HPB3 := Lib.hid hpb3
    clear hpm3 hbx3 hpb3 hB hal hb3 hk3 HPM HX HO1 hb2 c0 c1 hsz1 hbel1
    go_wp2_with fail
    go_loopg [8, 10] H.length (fun k s8 s10 wr => ∃ (t : Nat) (s : Nat → Value) (L : FL) (H : List (Int × Nat)) (b : Option Addr) (d : Nat), s10 = .int .i64 t ∧ Hid (k = H.length) ∧ s8 = .slice b H.length d ∧ t + H.length ≤ 30 ∧ Hid (PI (zP p q) L H) ∧ Hid (PM wr (w.heap.size + 1) B s L (.slice b H.length d) H) ∧ Hid (boxed wr B (zP p q) s) ∧ Hid (wr.heap[w.heap.size]? = some (.cells #[.int .u8 p, .int .u8 q] 39 (0, 0))) ∧ Below w.heap.size w wr)
    case atStart => exact ⟨0, s, L, H, b0, d0, rfl, rfl, rfl, by omega, HPI.out, HPM3.out, HBX3.out, HPB3.out, hbel3⟩
    case round =>
      obtain ⟨t, s, L, H, b, d, rfl, hk, rfl, ht, hpi, hpmA, hbxA, hresA, hblA⟩ := hrel
      by_cases hpos : 0 < H.length
      · have hpos' : (0 : Int) < (H.length : Int) := by omega
        have hne0 : ¬ (H.length : Int) = 0 := by omega
        have hne : ((H.length : Int) == 0) = false := beq_eq_false_iff_ne.2 (by omega)
        go_upto_if 44 with fail
        go_cut [11] from 36 to 80 (fun s11 wx => wx = wr ∧ ∃ j : Nat, s11 = .int .i64 j ∧ j < H.length)
        case first =>
          by_cases htl : t < ps.length
          · obtain ⟨pk, hx⟩ : ∃ x, ps[t]? = some x := ⟨ps[t], List.getElem?_eq_getElem htl⟩
            obtain ⟨⟨h1, h2⟩, b2, o2, ha, hc0⟩ := HPK.out t pk hx
            subst ha
            have hc1 := (hblA.cell (block_lt_of_cell hc0)).trans hc0
            have htl' : (t : Int) < (ps.length : Int) := by omega
            clear hc0 hx
            go_wp2_with fail
            go_meet
            case rel => exact ⟨rfl, (pk % (H.length : Int)).toNat, by rw [Int.toNat_of_nonneg (Int.emod_nonneg _ hne0)], by have := Int.emod_lt_of_pos pk hpos'; omega⟩
          · have htl' : ¬ (t : Int) < (ps.length : Int) := by omega
            go_wp2_with fail
            go_meet
            case rel => exact ⟨rfl, 0, rfl, hpos⟩
        case rest =>
          obtain ⟨hwc, j, rfl, hjl⟩ := hcut
          subst hwc
          go_upto_region 12 with fail
          obtain ⟨A, ⟨f, o⟩, C, hE, hAl⟩ : ∃ A h C, H = A ++ h :: C ∧ A.length = j := ⟨_, _, _, list_parts hjl, by simp; omega⟩
          have HE : Hid (H = A ++ (f, o) :: C ∧ A.length = j) := ⟨hE, hAl⟩
          have hown := hpmA.out.held
          have hin := hpi.out.ins (f, o) (by rw [hE]; simp)
          have hhd := hpi.out
          rw [hE] at hhd
          have hheld := Lib.hid hhd.held
          have hdrop := Lib.hid hhd.drop
          clear hhd
          rw [hE] at hown
          obtain ⟨gb, cap, hve, hgb, hgl, hcap, hcm, k0, k1, hcA, hcC⟩ := ownsH.parts hown
          rw [hAl] at hcap k0 k1 hcC
          rw [← hE] at hve
          injection hve with hb hl2 hd
          subst hb hd
          simp only at k0 k1 hin hheld hdrop
          have HCA := Lib.hid hcA
          have HCC := Lib.hid hcC
          have hjp : (0 : Int) ≤ (j : Int) := by omega
          have hjl' : (j : Int) < (H.length : Int) := by omega
          obtain ⟨c0, c1, c2, c3, c4, c5, c6, c7, c8, c9⟩ := boxed.head hbxA.out
          clear hE hAl hown hcA hcC hl2
          clear c0 c1 c2 c3 c4 c5 c6 c7 c8 c9
          go_cut [12, 13] from 36 to 80 (fun s15 s16 wx => ∃ (Y : Nat) (s' : Nat → Value), s15 = .pointer (some ⟨Y, 0, none⟩) ∧ s16 = .int .i64 0 ∧ Hid (boxed wx Y (zP p q) s') ∧ Hid (boxed wx B (zP p q) s) ∧ Hid (PM wx (w.heap.size + 1) B s' (putM (zP p q) (4 - o) L f o) (.slice (some ⟨gb, 0, none⟩) H.length d) H) ∧ Hid (wx.heap[w.heap.size]? = some (.cells #[.int .u8 p, .int .u8 q] 39 (0, 0))) ∧ Below w.heap.size w wx)
          case first =>
            refine wp_region_held_drew (S := fun w' => Below wc.heap.size wc w') (by kernel_rfl) ((Below.refl _ wc).drew) fun hS => ?_
            refine wpAnyH_takeD 0 (some 54) (zv (zP p q) s) rfl rfl (by kernel_rfl) (by kernel_rfl) (by kernel_rfl) (fun _ _ _ h => h) (Or.inl ⟨by rfl, fun w' hw' => ?_⟩) hS ?_
            · obtain ⟨c0, c1, c2, c3, c4, c5, c6, c7, c8, c9⟩ := boxed.head ((hw'.block _ (lt_of_block hbxA.out)).trans hbxA.out); go_simp
            try simp only [Act.put, List.setIfInBounds_toArray, List.set_cons_zero, List.set_cons_succ]
            refine wpAnyH_takeD 1 (some 55) (.slice (some ⟨gb, 0, none⟩) H.length d) rfl rfl (by kernel_rfl) (by kernel_rfl) (by kernel_rfl) (fun _ _ _ h => h) (Or.inl ⟨by rfl, fun w' hw' => ?_⟩) hS ?_
            · go_simp
            try simp only [Act.put, List.setIfInBounds_toArray, List.set_cons_zero, List.set_cons_succ]
            refine wpAnyH_takeD 2 (some 56) (.int .i64 j) rfl rfl (by kernel_rfl) (by kernel_rfl) (by kernel_rfl) (fun _ _ _ h => h) (Or.inl ⟨by rfl, fun w' hw' => ?_⟩) hS ?_
            · go_simp
            try simp only [Act.put, List.setIfInBounds_toArray, List.set_cons_zero, List.set_cons_succ]
            refine wpAnyH_takeD 3 (some 57) (.pointer (some ⟨gb, j * 2, none⟩)) rfl rfl (by kernel_rfl) (by kernel_rfl) (by kernel_rfl) (fun _ _ _ h => h) (Or.inl ⟨by rfl, fun w' hw' => ?_⟩) hS ?_
            · go_simp
            try simp only [Act.put, List.setIfInBounds_toArray, List.set_cons_zero, List.set_cons_succ]
            refine wpAnyH_takeD 4 (some 58) (.pointer (some ⟨gb, j * 2, none⟩)) rfl rfl (by kernel_rfl) (by kernel_rfl) (by kernel_rfl) (fun _ _ _ h => h) (Or.inl ⟨by rfl, fun w' hw' => ?_⟩) hS ?_
            · go_simp
            try simp only [Act.put, List.setIfInBounds_toArray, List.set_cons_zero, List.set_cons_succ]
            refine wpAnyH_takeD 5 (some 59) (.int .i64 f) rfl rfl (by kernel_rfl) (by kernel_rfl) (by kernel_rfl) (fun _ _ _ h => h) (Or.inl ⟨by rfl, fun w' hw' => ?_⟩) hS ?_
            · have k0' := (hw'.cell (block_lt_of_cell k0)).trans k0; go_simp
            try simp only [Act.put, List.setIfInBounds_toArray, List.set_cons_zero, List.set_cons_succ]
            refine wpAnyH_takeD 6 (some 60) (.slice (some ⟨gb, 0, none⟩) H.length d) rfl rfl (by kernel_rfl) (by kernel_rfl) (by kernel_rfl) (fun _ _ _ h => h) (Or.inl ⟨by rfl, fun w' hw' => ?_⟩) hS ?_
            · go_simp
            try simp only [Act.put, List.setIfInBounds_toArray, List.set_cons_zero, List.set_cons_succ]
            refine wpAnyH_takeD 7 (some 61) (.int .i64 j) rfl rfl (by kernel_rfl) (by kernel_rfl) (by kernel_rfl) (fun _ _ _ h => h) (Or.inl ⟨by rfl, fun w' hw' => ?_⟩) hS ?_
            · go_simp
            try simp only [Act.put, List.setIfInBounds_toArray, List.set_cons_zero, List.set_cons_succ]
            refine wpAnyH_takeD 8 (some 62) (.pointer (some ⟨gb, j * 2, none⟩)) rfl rfl (by kernel_rfl) (by kernel_rfl) (by kernel_rfl) (fun _ _ _ h => h) (Or.inl ⟨by rfl, fun w' hw' => ?_⟩) hS ?_
            · go_simp
            try simp only [Act.put, List.setIfInBounds_toArray, List.set_cons_zero, List.set_cons_succ]
            refine wpAnyH_takeD 9 (some 63) (.pointer (some ⟨gb, j * 2 + 1, none⟩)) rfl rfl (by kernel_rfl) (by kernel_rfl) (by kernel_rfl) (fun _ _ _ h => h) (Or.inl ⟨by rfl, fun w' hw' => ?_⟩) hS ?_
            · go_simp
            try simp only [Act.put, List.setIfInBounds_toArray, List.set_cons_zero, List.set_cons_succ]
            refine wpAnyH_takeD 10 (some 64) (.int .i64 o) rfl rfl (by kernel_rfl) (by kernel_rfl) (by kernel_rfl) (fun _ _ _ h => h) (Or.inl ⟨by rfl, fun w' hw' => ?_⟩) hS ?_
            · have k1' := (hw'.cell (block_lt_of_cell k1)).trans k1; go_simp
            try simp only [Act.put, List.setIfInBounds_toArray, List.set_cons_zero, List.set_cons_succ]
            refine wpAnyH_ready (rs := [11, 15]) (by kernel_rfl) (by simp) (AllReadyH.cons rfl (fun K hK => ?_) (AllReadyH.cons rfl (fun K hK => ?_) AllReadyH.nil))
            · have hS0 : Below wc.heap.size wc wc.drew := hS
              go_simp
              go_at_call 23
              refine (free_far (zP p q) s L f o _ HZ.out hpi.out.valid (hpmA.out.rdZ.below hS) hin.1 hin.2).mono ?_
              rintro e w3 ⟨hb3, (⟨⟨x, hx1, hx2⟩, _⟩ | ⟨_, s', rfl, hf3, hs3⟩)⟩
              · exact (hheld.out x hx1 hx2).elim
              try go_simp
              refine hK.out _ _ (hS.trans (hb3.mono hS.size)) fun hS3 => ?_
              try simp only [Act.put, List.setIfInBounds_toArray, List.set_cons_zero, List.set_cons_succ]
              refine wpAnyH_takeD 12 (some 53) (.tuple #[zv (zP p q) s', .int .i64 0]) rfl rfl (by kernel_rfl) (by kernel_rfl) (by kernel_rfl) (fun _ _ _ h => h) (Or.inl ⟨by rfl, fun w' hw' => ?_⟩) hS3 ?_
              · go_simp
              try simp only [Act.put, List.setIfInBounds_toArray, List.set_cons_zero, List.set_cons_succ]
              refine wpAnyH_takeD 13 (some 66) (zv (zP p q) s') rfl rfl (by kernel_rfl) (by kernel_rfl) (by kernel_rfl) (fun _ _ _ h => h) (Or.inl ⟨by rfl, fun w' hw' => ?_⟩) hS3 ?_
              · go_simp
              try simp only [Act.put, List.setIfInBounds_toArray, List.set_cons_zero, List.set_cons_succ]
              refine wpAnyH_takeD 14 (some 67) (.int .i64 0) rfl rfl (by kernel_rfl) (by kernel_rfl) (by kernel_rfl) (fun _ _ _ h => h) (Or.inl ⟨by rfl, fun w' hw' => ?_⟩) hS3 ?_
              · go_simp
              try simp only [Act.put, List.setIfInBounds_toArray, List.set_cons_zero, List.set_cons_succ]
              refine wpAnyH_ready (rs := [15]) (by kernel_rfl) (by simp) (AllReadyH.cons rfl (fun K hK => ?_) AllReadyH.nil)
              go_simp
              refine hK.out _ _ (hS3.alloc hS3.size _) fun hS4 => ?_
              try simp only [Act.put, List.setIfInBounds_toArray, List.set_cons_zero, List.set_cons_succ]
              refine wpAnyH_ready (rs := [16]) (by kernel_rfl) (by simp) (AllReadyH.cons rfl (fun K hK => ?_) AllReadyH.nil)
              refine step_store_zone rfl (.tmp 12) (.tmp 66) rfl w3.heap.size z0 nilS (zP p q) s' (by rfl) (by rfl) (heap_alloc_new w3 _) hs3 ?_
              intro w5 hbx5 hk5
              have hS5 : Below wc.heap.size wc w5 := hS4.trans (hk5.to_below hS4.size fun k hk => by have := hS3.size; have : wc.drew.heap.size = wc.heap.size := rfl; omega)
              refine hK.out _ _ hS5 fun hS5 => ?_
              try simp only [Act.put, List.setIfInBounds_toArray, List.set_cons_zero, List.set_cons_succ]
              refine wpAnyH_takeD 17 (some 13) (.int .i64 0) rfl rfl (by kernel_rfl) (by kernel_rfl) (by kernel_rfl) (fun _ _ _ h => h) (Or.inl ⟨by rfl, fun w' hw' => ?_⟩) hS5 ?_
              · go_simp
              try simp only [Act.put, List.setIfInBounds_toArray, List.set_cons_zero, List.set_cons_succ]
              refine wpAnyH_done (by kernel_rfl) ?_ _
              go_wp2_with fail
              go_meet
              have hfz : farZ w5 wc.heap.size s' _ := hf3.below (((Below.refl _ w3).alloc (Nat.le_refl _) _).trans (hk5.to_below (by simp) fun k hk => by omega))
              have hBl := lt_of_block hbxA.out
              case rel => exact ⟨w3.heap.size, s', rfl, rfl, hbx5, (hS5.block _ hBl).trans hbxA.out, hpmA.out.zone hS5 hfz (by omega) hBl, (hS5.block _ (lt_of_block hresA.out)).trans hresA.out, hblA.trans (hS5.mono hblA.size)⟩
            · go_simp
              refine hK.out _ _ (hS.alloc hS.size _) fun hS2 => ?_
              try simp only [Act.put, List.setIfInBounds_toArray, List.set_cons_zero, List.set_cons_succ]
              refine wpAnyH_ready (rs := [11]) (by kernel_rfl) (by simp) (AllReadyH.cons rfl (fun K hK => ?_) AllReadyH.nil)
              go_simp
              go_at_call 23
              refine (free_far (zP p q) s L f o _ HZ.out hpi.out.valid (hpmA.out.rdZ.below hS2) hin.1 hin.2).mono ?_
              rintro e w3 ⟨hb3, (⟨⟨x, hx1, hx2⟩, _⟩ | ⟨_, s', rfl, hf3, hs3⟩)⟩
              · exact (hheld.out x hx1 hx2).elim
              try go_simp
              refine hK.out _ _ (hS2.trans (hb3.mono hS2.size)) fun hS3 => ?_
              try simp only [Act.put, List.setIfInBounds_toArray, List.set_cons_zero, List.set_cons_succ]
              refine wpAnyH_takeD 12 (some 53) (.tuple #[zv (zP p q) s', .int .i64 0]) rfl rfl (by kernel_rfl) (by kernel_rfl) (by kernel_rfl) (fun _ _ _ h => h) (Or.inl ⟨by rfl, fun w' hw' => ?_⟩) hS3 ?_
              · go_simp
              try simp only [Act.put, List.setIfInBounds_toArray, List.set_cons_zero, List.set_cons_succ]
              refine wpAnyH_takeD 13 (some 66) (zv (zP p q) s') rfl rfl (by kernel_rfl) (by kernel_rfl) (by kernel_rfl) (fun _ _ _ h => h) (Or.inl ⟨by rfl, fun w' hw' => ?_⟩) hS3 ?_
              · go_simp
              try simp only [Act.put, List.setIfInBounds_toArray, List.set_cons_zero, List.set_cons_succ]
              refine wpAnyH_takeD 14 (some 67) (.int .i64 0) rfl rfl (by kernel_rfl) (by kernel_rfl) (by kernel_rfl) (fun _ _ _ h => h) (Or.inl ⟨by rfl, fun w' hw' => ?_⟩) hS3 ?_
              · go_simp
              try simp only [Act.put, List.setIfInBounds_toArray, List.set_cons_zero, List.set_cons_succ]
              have hY := (hb3.block wc.drew.heap.size (by simp)).trans (heap_alloc_new wc.drew (.cells #[.int .i64 0, .int .i64 0, .int .i64 0, .int .i64 0, .int .i64 0, .slice none 0 0, .slice none 0 0, .slice none 0 0, .slice none 0 0, .slice none 0 0] 25))
              refine wpAnyH_ready (rs := [16]) (by kernel_rfl) (by simp) (AllReadyH.cons rfl (fun K hK => ?_) AllReadyH.nil)
              refine step_store_zone rfl (.tmp 12) (.tmp 66) rfl wc.drew.heap.size z0 nilS (zP p q) s' (by rfl) (by rfl) hY hs3 ?_
              intro w5 hbx5 hk5
              have hS5 : Below wc.heap.size wc w5 := hS3.trans (hk5.to_below hS3.size fun k hk => by have := hS3.size; have : wc.drew.heap.size = wc.heap.size := rfl; omega)
              refine hK.out _ _ hS5 fun hS5 => ?_
              try simp only [Act.put, List.setIfInBounds_toArray, List.set_cons_zero, List.set_cons_succ]
              refine wpAnyH_takeD 17 (some 13) (.int .i64 0) rfl rfl (by kernel_rfl) (by kernel_rfl) (by kernel_rfl) (fun _ _ _ h => h) (Or.inl ⟨by rfl, fun w' hw' => ?_⟩) hS5 ?_
              · go_simp
              try simp only [Act.put, List.setIfInBounds_toArray, List.set_cons_zero, List.set_cons_succ]
              refine wpAnyH_done (by kernel_rfl) ?_ _
              go_wp2_with fail
              go_meet
              have hfz : farZ w5 wc.heap.size s' _ := (hf3.keeps hk5 (fun b hb e => by subst e; have hb' : (wc.alloc (.cells #[.int .i64 0, .int .i64 0, .int .i64 0, .int .i64 0, .int .i64 0, .slice none 0 0, .slice none 0 0, .slice none 0 0, .slice none 0 0, .slice none 0 0] 25)).heap.size ≤ wc.heap.size := hb; simp at hb'; omega)).lower hS2.size
              have hBl := lt_of_block hbxA.out
              case rel => exact ⟨wc.drew.heap.size, s', rfl, rfl, hbx5, (hS5.block _ hBl).trans hbxA.out, hpmA.out.zone hS5 hfz (by omega) hBl, (hS5.block _ (lt_of_block hresA.out)).trans hresA.out, hblA.trans (hS5.mono hblA.size)⟩
          case rest =>
            obtain ⟨Y, s', rfl, rfl, hbxY, hbxB, hpmC, hresC, hblC⟩ := hcut
            have hslC := hpmC.out.slices
            clear k0 k1 hcap hcm
            go_upto_region 16 with (first | (refine load_zone rfl (.tmp 12) rfl Y (zP p q) s' rfl hbxY.out ?_) | (refine store_zone rfl (.tmp 7) (.tmp 70) rfl B (zP p q) s (zP p q) s' rfl rfl hbxB.out hslC ?_; intro w6 hbx6 hk6))
            have hpm6 := hpmC.out.keeps hk6 (fun b _ h => h)
            have hres6 : w6.heap[w.heap.size]? = some (.cells #[.int .u8 p, .int .u8 q] 39 (0, 0)) := (hk6.block _ (lt_of_block hresC.out) (by omega)).trans hresC.out
            have hbl6 : Below w.heap.size w w6 := hblC.trans (hk6.to_below hblC.size fun k hk => by omega)
            have hown6 := hpm6.held
            rw [HE.out.1] at hown6
            obtain ⟨gb2, cap2, hve, hgb, hgl, hcap, hcm, k0, k1, hcA, hcC⟩ := ownsH.parts hown6
            rw [HE.out.2] at hcap k0 k1 hcC
            rw [← HE.out.1] at hve
            injection hve with hb hl2 hd
            injection hb with hb
            injection hb with hb
            subst hb hd
            have HPM6 := Lib.hid hpm6
            have HCA6 := Lib.hid hcA
            have HCC6 := Lib.hid hcC
            have HRES6 := Lib.hid hres6
            have HBX6 := Lib.hid hbx6
            clear hpm6 hcA hcC hres6 hbx6 hown6 k0 k1 hl2
            have hjd : j ≤ d := by omega
            have hwr : IntKind.i64.wrap ((j : Int) + 1) = (j : Int) + 1 := IntWalk.i64_in _ (by omega)
            have hp0 : (0 : Int) ≤ (j : Int) + 1 := by omega
            have hp1' : (j : Int) + 1 ≤ (H.length : Int) := by omega
            have hp2 : ((j : Int) + 1).toNat = j + 1 := by omega
            have hlA : (cellsH A).length = j * 2 := by rw [cellsH_len, HE.out.2]
            have hlC : (cellsH C).length = (H.length - (j + 1)) * 2 := by rw [cellsH_len, HE.out.1, ← HE.out.2]; simp; omega
            have HOE : Hid (∀ wx : World, wx.heap = (w6.alloc (.cells #[] 48)).heap → wx.ownsRow (w.heap.size + 1) 48 2 (.slice (some ⟨w6.heap.size, 0, none⟩) 0 0) 0 []) := fun wx hx => ⟨rfl, .inr ⟨_, 0, #[], rfl, by have := lt_of_block HBX6.out; omega, by rw [hx]; exact alloc_at w6 _, Nat.le_refl _, by unfold maxLen; omega, rfl, rfl⟩⟩
            have HNA : Hid (∀ wx : World, wx.heap = (w6.alloc (.cells #[] 48)).heap → ∀ (i : Nat) u, (cellsH A)[i]? = some u → wx.cell? ((⟨gb, 0, none⟩ : Addr).add i) = some u) := fun wx hx i u hu => by
              rw [Addr.add_lit, Nat.zero_add, World.cell?_of_block (w := w6) (by rw [hx]; exact heap_alloc_old w6 _ hgl)]
              exact HCA6.out i u hu
            obtain ⟨AD, hAD, hnC⟩ : ∃ AD : Addr, (if d = j + 1 then some (⟨gb, 0, none⟩ : Addr) else some ⟨gb, (j + 1) * 2, none⟩) = some AD ∧ Hid (∀ wx : World, wx.heap[gb]? = w6.heap[gb]? → ∀ (i : Nat) u, (cellsH C)[i]? = some u → wx.cell? (AD.add i) = some u) := by
              by_cases h : d = j + 1
              · refine ⟨_, if_pos h, fun wx hx i u hu => ?_⟩
                have h0 := (List.getElem?_eq_some_iff.1 hu).1
                rw [cellsH_len] at h0
                omega
              · refine ⟨_, if_neg h, fun wx hx i u hu => ?_⟩
                rw [Addr.add_lit, World.cell?_of_block (w := w6) hx]
                exact HCC6.out i u hu
            have HGL := Lib.hid hgl
            have hinfo : (Try.prog.info? 48).map (fun i => (i.zero, i.size, i.bytes)) = some (some (.agg #[.int .i64 0, .int .i64 0]), 2, 16) := by kernel_rfl
            obtain ⟨i0, hi0, hiz0, hiz1, hiz2⟩ := info_parts hinfo
            have hsz6 : w.heap.size + 1 ≤ w6.heap.size := by have := lt_of_block HBX6.out; omega
            clear hgb hgl hcm hcap
            go_region_law (first
              | (refine step_append_at rfl (.tmp 71) (.tmp 74) 41 rfl (w.heap.size + 1) 48 i0 (.agg #[.int .i64 0, .int .i64 0]) 2 16 Try.underlying41 hi0 hiz0 hiz1 hiz2 rfl (by decide) _ 0 [] (by simp [Act.eval, Act.put]) (HOE.out _ rfl) ⟨gb, 0, none⟩ j d (cellsH A) (by simp [Act.eval, Act.put]) hlA (HNA.out _ rfl) (fun u hu => cellsH_one hu) (by unfold maxLen; omega) (by omega) (by show w.heap.size + 1 ≤ (w6.alloc (.cells #[] 48)).heap.size; simp; omega) ?_; intro v1 w7 hown7 hgrow7 hat7; have HO7 := Lib.hid hown7; have HS7 : Hid (HStep w6 w7 v1) := HStep.one hgrow7 hat7; clear hown7 hgrow7 hat7)
              | (refine step_append_at rfl (.tmp 75) (.tmp 79) 41 rfl (w.heap.size + 1) 48 i0 (.agg #[.int .i64 0, .int .i64 0]) 2 16 Try.underlying41 hi0 hiz0 hiz1 hiz2 rfl (by decide) v1 (0 + j) ([] ++ cellsH A) (by simp [Act.eval, Act.put]) HO7.out AD (H.length - (j + 1)) (d - (j + 1)) (cellsH C) (by simp [Act.eval, Act.put, hAD]) hlC (hnC.out _ (HS7.out.low gb HGL.out)) (fun u hu => cellsH_one hu) (by unfold maxLen; omega) (by omega) (Nat.le_trans hsz6 HS7.out.bel.size) ?_; intro v2 w8 hown8 hgrow8 hat8; have HO8 := Lib.hid hown8; have HS8 : Hid (HStep w6 w8 v2) := HS7.out.two hgrow8 hat8; clear hown8 hgrow8 hat8))
            have hown8 : ownsH w8 (w.heap.size + 1) v2 (A ++ C) := by
              have h := HO8.out
              have e1 : 0 + j + (H.length - (j + 1)) = (A ++ C).length := by rw [HE.out.1, ← HE.out.2]; simp; omega
              rw [e1, List.nil_append, ← cellsH_append] at h
              exact h
            obtain ⟨b3, c3, hv2⟩ := hown8.form
            have hB6 := lt_of_block HBX6.out
            have hpm8 := Lib.hid (HPM6.out.append hown8 (fun b hb _ => HS8.out.low b hb) (fun b hb => .inr (HS8.out.new b hb)) hB6)
            have hAC : (A ++ C).length + 1 = H.length := by have h := congrArg List.length HE.out.1; simp at h ⊢; omega
            have hbl8 : Below w.heap.size w w8 := hbl6.trans (HS8.out.bel.mono hbl6.size)
            have hbx8 := Lib.hid ((HS8.out.low B hB6).trans HBX6.out)
            have hres8 := Lib.hid ((HS8.out.low _ (lt_of_block HRES6.out)).trans HRES6.out)
            subst hv2
            go_wp2_with fail
            go_roundg (A ++ C).length
            case rel => exact ⟨t + 1, s', _, A ++ C, b3, c3, by go_num, rfl, by rw [List.length_append], by omega, hdrop.out, hpm8.out, hbx8.out, hres8.out, hbl8⟩
            case measure => have := hk.out; omega
      · have hH0 : H = [] := List.length_eq_zero_iff.1 (by omega)
        subst hH0
        have HSM : Hid (sameL L (newK (zP p q) (zP p q).ct.toNat) = true) := sameL_iff.2 (hpi.out.nil (by unfold zP; simp; omega))
        have c0 : wr.cell? ⟨w.heap.size, 0, none⟩ = some (.int .u8 p) := by rw [cell_of_block hresA.out]; rfl
        have c1 : wr.cell? ⟨w.heap.size, 1, none⟩ = some (.int .u8 q) := by rw [cell_of_block hresA.out]; rfl
        have HV : Hid (Var wr B (zP p q) s L) := ⟨hbxA.out, hpmA.out.rdZ⟩
        clear ht hpos
        simp only [List.length_nil]
        go_upto_region 18 with (first | (go_at_call 18; refine (new_ok (zP p q) _ HF.out HZ.out).mono ?_; rintro e w5 ⟨s5, rfl, hr5, hs5, hb5⟩; have HR5 := Lib.hid hr5; clear hr5) | (refine store_zone rfl (.tmp 14) (.tmp 92) rfl w5.heap.size z0 nilS (zP p q) s5 rfl rfl (heap_alloc_new w5 _) hs5 ?_; intro w6 hbx6 hk6))
        obtain ⟨hv6, hb6⟩ := Var.made HR5.out hbx6 hk6
        have hb56 : Below wr.heap.size wr w6 := hb5.trans (hb6.mono hb5.size)
        have HV6 := Lib.hid hv6
        have HV7 := Lib.hid (HV.out.below hb56)
        have hbl6 : Below w.heap.size w w6 := hblA.trans (hb56.mono hblA.size)
        clear hbx6 hk6 hv6 c0 c1
        obtain ⟨d0, d1, d2, d3, d4, d5, d6, d7, d8, d9⟩ := boxed.head HV6.out.box
        obtain ⟨e0, e1, e2, e3, e4, e5, e6, e7, e8, e9⟩ := boxed.head HV7.out.box
        go_wp2_with (go_at_call 20; refine (same_any (zP p q) s s5 L _ _ HV7.out.rd HV6.out.rd).mono ?_; rintro e w7 ⟨rfl, hb7⟩)
        go_ret
        exact ⟨ret_bool HSM.out, hbl6.trans (hb7.mono hbl6.size)⟩
  · have hl' : (30 : Int) < (l.length : Int) := by omega
    have hlb : decide ((30 : Int) < (l.length : Int)) = true := decide_eq_true hl'
    go_wp2_with (first | (go_at_call 14; refine (awake_any _).mono ?_; rintro e w2 ⟨rfl, hb2⟩; have hA2 := hA.trans (hb2.mono hA.size)) | (go_at_call 14; refine (awake_any _).mono ?_; rintro e w1 ⟨rfl, hb1⟩; have hA := box_one hb1))
    go_ret
    exact ⟨rfl, hA2⟩
end Go.Proofs.Ytcmmoemmlellbaa
