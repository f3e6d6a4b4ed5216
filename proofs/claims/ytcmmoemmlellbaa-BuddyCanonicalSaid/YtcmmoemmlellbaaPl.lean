/- Play: walked. Conditions: at most 30 steps. -/
import Derived.Test.YtcmmoemmlellbaaPh
import Derived.Deep.RegionHeld3
import Derived.Deep.CutRange
import Derived.Deep.RegionLaw
namespace Go.Proofs.Ytcmmoemmlellbaa
open Go.RowKit
attribute [local go_sem] wrap_pow

set_option maxRecDepth 100000 in
set_option maxHeartbeats 4000000 in
theorem play_any (p q : Int) (v : Value) (l : List OpM) (w : World) (hp : 0 ≤ p ∧ p < 256) (hq : 0 ≤ q ∧ q < 256) (hops : opsAt w v l) (hl : l.length ≤ 30) :
    Calls Try.prog 25 #[.int .u8 p, .int .u8 q, v] w fun e w' => ∃ s L hv H, e = .returned (.tuple #[zv (zP p q) s, hv, .bool true]) ∧ PI (zP p q) L H ∧ H.length ≤ 30 ∧ (∃ B, PM w' w.heap.size B s L hv H) ∧ Below w.heap.size w w' := by
  have HZ := Lib.hid (zP_ok p q)
  have HF := Lib.hid (Zh.fits_of_ok (zP_ok p q))
  obtain ⟨a, c, rfl, hcell⟩ := hops
  have HC := Lib.hid hcell
  clear hcell
  have hp0 := hp.1
  have hp1 := hp.2
  have hq0 := hq.1
  have hq1 := hq.2
  have hm1 : p % 16 ≤ 15 := by omega
  have hm2 : 0 ≤ p % 16 := by omega
  have hm3 : q % 64 ≤ 63 := by omega
  have hm4 : 0 ≤ q % 64 := by omega
  clear hp hq
  go_enter Try.func25, Try.ntmps25
  go_upto_region 2 with (first | (go_at_call 18; refine (new_far (zP p q) _ HF.out HZ.out).mono ?_; rintro e w1 ⟨s1, rfl, hf1, hs1, hb1⟩) | (refine store_zone rfl (.tmp 9) (.tmp 30) rfl w1.heap.size z0 nilS (zP p q) s1 rfl rfl (heap_alloc_new w1 _) hs1 ?_; intro w2 hbx2 hk2))
  have hsz1 : w.heap.size + 1 ≤ w1.heap.size := by have := hb1.size; simpa using this
  have hbel1 : Below w.heap.size w w1 := box_one hb1
  have hres1 : boxed w1 w.heap.size z0 nilS := (hb1.block w.heap.size (by simp)).trans (heap_alloc_new w _)
  have hal : Below w1.heap.size w1 (w1.alloc (.cells #[.int .i64 0, .int .i64 0, .int .i64 0, .int .i64 0, .int .i64 0, .slice none 0 0, .slice none 0 0, .slice none 0 0, .slice none 0 0, .slice none 0 0] 25)) := (Below.refl _ w1).alloc (Nat.le_refl _) _
  have hpm1 : PM w1 (w.heap.size + 1) w1.heap.size s1 (newK (zP p q) (zP p q).ct.toNat) (.slice none 0 0) [] := PM.start (by have := hf1; simpa using this) (Nat.le_refl _)
  have hpm2 := (hpm1.below hal).keeps hk2 (fun b _ h => h)
  have hbel2 : Below w.heap.size w w2 := hbel1.trans ((hal.trans (hk2.to_below (by simp) fun k hk => by omega)).mono hbel1.size)
  have hres2 : boxed w2 w.heap.size z0 nilS := (hk2.block _ (by simp; omega) (by omega)).trans ((hal.block _ (by omega)).trans hres1)
  obtain ⟨B, hB⟩ : ∃ B, B = w1.heap.size := ⟨_, rfl⟩
  rw [← hB] at hpm2 hbx2 hsz1 ⊢
  have HPI : Hid (PI (zP p q) (newK (zP p q) (zP p q).ct.toNat) []) := PI.start (by unfold zP; simp; omega)
  have HPM := Lib.hid hpm2
  have HBX := Lib.hid hbx2
  have HRES := Lib.hid hres2
  clear hf1 hs1 hb1 hbx2 hk2 hbel1 hres1 hal hpm1 hpm2 hres2 hB
  go_wp2_with fail
  go_loopg [11, 37] l.length (fun n s11 s37 wr => ∃ (i : Nat) (s : Nat → Value) (L : FL) (H : List (Int × Nat)) (b : Option Addr) (d : Nat), s37 = .int .i64 i ∧ i ≤ l.length ∧ Hid (n = l.length - i) ∧ s11 = .slice b H.length d ∧ H.length ≤ i ∧ Hid (PI (zP p q) L H) ∧ Hid (PM wr (w.heap.size + 1) B s L (.slice b H.length d) H) ∧ Hid (boxed wr B (zP p q) s) ∧ Hid (boxed wr w.heap.size z0 nilS) ∧ Below w.heap.size w wr)
  case atStart => exact ⟨0, s1, _, [], none, 0, rfl, by omega, rfl, rfl, by simp, HPI.out, HPM.out, HBX.out, HRES.out, hbel2⟩
  case round =>
    obtain ⟨i, s, L, H, b, d, rfl, hi, hn, rfl, hH, hpi, hpm, hbx, hres, hbl⟩ := hrel
    by_cases hlt : i < l.length
    · obtain ⟨⟨g, od, pk⟩, hx⟩ : ∃ x, l[i]? = some x := ⟨l[i], List.getElem?_eq_getElem hlt⟩
      obtain ⟨⟨h1, h2, h3, h4⟩, b2, o2, ha, hc0, hc1, hc2⟩ := HC.out i _ hx
      simp only at h1 h2 h3 h4 hc0 hc1 hc2
      subst ha
      have e0 := (hbl.cell (block_lt_of_cell hc0)).trans hc0
      have e1 := (hbl.cell (block_lt_of_cell hc1)).trans hc1
      have e2 := (hbl.cell (block_lt_of_cell hc2)).trans hc2
      clear hc0 hc1 hc2 hx
      have hlt' : (i : Int) < (l.length : Int) := by omega
      go_upto_region 8 with fail
      have hal : Below wr.heap.size wr (wr.alloc (.cells #[.bool g, .int .u8 od, .int .u8 pk] 69)) := (Below.refl _ wr).alloc (Nat.le_refl _) _
      have hX : (wr.alloc (.cells #[.bool g, .int .u8 od, .int .u8 pk] 69)).heap[wr.heap.size]? = some (.cells #[.bool g, .int .u8 od, .int .u8 pk] 69 (0, 0)) := alloc_at wr _
      obtain ⟨X, hXs⟩ : ∃ X, X = wr.heap.size := ⟨_, rfl⟩
      obtain ⟨wa, hwa⟩ : ∃ wa, wa = wr.alloc (.cells #[.bool g, .int .u8 od, .int .u8 pk] 69) := ⟨_, rfl⟩
      have hpmA := Lib.hid (hpm.out.below (hwa ▸ hal))
      have hbxA := Lib.hid (((hwa ▸ hal : Below wr.heap.size wr wa).block _ (lt_of_block hbx.out)).trans hbx.out)
      have hresA := Lib.hid (((hwa ▸ hal : Below wr.heap.size wr wa).block _ (lt_of_block hres.out)).trans hres.out)
      have hblA : Below w.heap.size w wa := hbl.trans ((hwa ▸ hal : Below wr.heap.size wr wa).mono hbl.size)
      rw [← hwa, ← hXs] at hX
      have f0 : wa.cell? ⟨X, 0, none⟩ = some (.bool g) := by rw [cell_of_block hX]; rfl
      have f1 : wa.cell? ⟨X, 1, none⟩ = some (.int .u8 od) := by rw [cell_of_block hX]; rfl
      have f2 : wa.cell? ⟨X, 2, none⟩ = some (.int .u8 pk) := by rw [cell_of_block hX]; rfl
      rw [← hwa, ← hXs]
      clear hal hX hXs hwa e0 e1 e2 hpm hbx hres hbl
      cases g with
      | true =>
        rcases H with _ | ⟨hd, H0⟩
        · simp only [List.length_nil] at hpmA hH ⊢
          go_wp2_with fail
          go_roundg (l.length - (i + 1))
          case rel => exact ⟨i + 1, s, L, [], b, d, by go_num, by omega, rfl, rfl, by simp, hpi.out, hpmA.out, hbxA.out, hresA.out, hblA⟩
          case measure => have := hn.out; omega
        · obtain ⟨H, hH1⟩ : ∃ H, H = hd :: H0 := ⟨_, rfl⟩
          have hpos : 0 < H.length := by rw [hH1]; simp
          rw [← hH1] at hpi hpmA hH ⊢
          clear hH1
          have hne : ((H.length : Int) == 0) = false := beq_eq_false_iff_ne.2 (by omega)
          have hne0 : ¬ (H.length : Int) = 0 := by omega
          go_upto_region 11 with fail
          obtain ⟨j, hj⟩ : ∃ j : Nat, pk % (H.length : Int) = j := ⟨(pk % (H.length : Int)).toNat, by have := Int.emod_nonneg pk hne0; omega⟩
          have hjl : j < H.length := by have := Int.emod_lt_of_pos pk (show (0 : Int) < H.length by omega); omega
          rw [hj]
          obtain ⟨A, ⟨f, o⟩, C, hE, hAl⟩ : ∃ A h C, H = A ++ h :: C ∧ A.length = j := ⟨_, _, _, list_parts hjl, by simp; omega⟩
          have HE : Hid (H = A ++ (f, o) :: C ∧ A.length = j) := ⟨hE, hAl⟩
          have hown := hpmA.out.held
          have hin := hpi.out.ins (f, o) (by rw [hE]; simp)
          have hhd := hpi.out
          rw [hE] at hhd
          have hheld := Lib.hid hhd.held
          have hdrop := Lib.hid hhd.drop
          clear hhd
          rw [hE] at hown
          obtain ⟨gb, cap, hve, hgb, hgl, hcap, hcm, k0, k1, hcA, hcC⟩ := ownsH.parts hown
          rw [hAl] at hcap k0 k1 hcC
          rw [← hE] at hve
          injection hve with hb hl2 hd
          subst hb hd
          simp only at k0 k1 hin hheld hdrop
          have HCA := Lib.hid hcA
          have HCC := Lib.hid hcC
          have hjp : (0 : Int) ≤ (j : Int) := by omega
          have hjl' : (j : Int) < (H.length : Int) := by omega
          obtain ⟨c0, c1, c2, c3, c4, c5, c6, c7, c8, c9⟩ := boxed.head hbxA.out
          clear hE hAl hown hcA hcC hl2
          clear c0 c1 c2 c3 c4 c5 c6 c7 c8 c9
          go_cut [15, 16] from 38 to 104 (fun s15 s16 wx => ∃ (Y : Nat) (s' : Nat → Value), s15 = .pointer (some ⟨Y, 0, none⟩) ∧ s16 = .int .i64 0 ∧ Hid (boxed wx Y (zP p q) s') ∧ Hid (boxed wx B (zP p q) s) ∧ Hid (PM wx (w.heap.size + 1) B s' (putM (zP p q) (4 - o) L f o) (.slice (some ⟨gb, 0, none⟩) H.length d) H) ∧ Hid (boxed wx w.heap.size z0 nilS) ∧ Below w.heap.size w wx)
          case first =>
            refine wp_region_held_drew (S := fun w' => Below wa.heap.size wa w') (by kernel_rfl) ((Below.refl _ wa).drew) fun hS => ?_
            refine wpAnyH_takeD 0 (some 53) (zv (zP p q) s) rfl rfl (by kernel_rfl) (by kernel_rfl) (by kernel_rfl) (fun _ _ _ h => h) (Or.inl ⟨by rfl, fun w' hw' => ?_⟩) hS ?_
            · obtain ⟨c0, c1, c2, c3, c4, c5, c6, c7, c8, c9⟩ := boxed.head ((hw'.block _ (lt_of_block hbxA.out)).trans hbxA.out); go_simp
            try simp only [Act.put, List.setIfInBounds_toArray, List.set_cons_zero, List.set_cons_succ]
            refine wpAnyH_takeD 1 (some 54) (.slice (some ⟨gb, 0, none⟩) H.length d) rfl rfl (by kernel_rfl) (by kernel_rfl) (by kernel_rfl) (fun _ _ _ h => h) (Or.inl ⟨by rfl, fun w' hw' => ?_⟩) hS ?_
            · go_simp
            try simp only [Act.put, List.setIfInBounds_toArray, List.set_cons_zero, List.set_cons_succ]
            refine wpAnyH_takeD 2 (some 55) (.int .i64 j) rfl rfl (by kernel_rfl) (by kernel_rfl) (by kernel_rfl) (fun _ _ _ h => h) (Or.inl ⟨by rfl, fun w' hw' => ?_⟩) hS ?_
            · go_simp
            try simp only [Act.put, List.setIfInBounds_toArray, List.set_cons_zero, List.set_cons_succ]
            refine wpAnyH_takeD 3 (some 56) (.pointer (some ⟨gb, j * 2, none⟩)) rfl rfl (by kernel_rfl) (by kernel_rfl) (by kernel_rfl) (fun _ _ _ h => h) (Or.inl ⟨by rfl, fun w' hw' => ?_⟩) hS ?_
            · go_simp
            try simp only [Act.put, List.setIfInBounds_toArray, List.set_cons_zero, List.set_cons_succ]
            refine wpAnyH_takeD 4 (some 57) (.pointer (some ⟨gb, j * 2, none⟩)) rfl rfl (by kernel_rfl) (by kernel_rfl) (by kernel_rfl) (fun _ _ _ h => h) (Or.inl ⟨by rfl, fun w' hw' => ?_⟩) hS ?_
            · go_simp
            try simp only [Act.put, List.setIfInBounds_toArray, List.set_cons_zero, List.set_cons_succ]
            refine wpAnyH_takeD 5 (some 58) (.int .i64 f) rfl rfl (by kernel_rfl) (by kernel_rfl) (by kernel_rfl) (fun _ _ _ h => h) (Or.inl ⟨by rfl, fun w' hw' => ?_⟩) hS ?_
            · have k0' := (hw'.cell (block_lt_of_cell k0)).trans k0; go_simp
            try simp only [Act.put, List.setIfInBounds_toArray, List.set_cons_zero, List.set_cons_succ]
            refine wpAnyH_takeD 6 (some 59) (.slice (some ⟨gb, 0, none⟩) H.length d) rfl rfl (by kernel_rfl) (by kernel_rfl) (by kernel_rfl) (fun _ _ _ h => h) (Or.inl ⟨by rfl, fun w' hw' => ?_⟩) hS ?_
            · go_simp
            try simp only [Act.put, List.setIfInBounds_toArray, List.set_cons_zero, List.set_cons_succ]
            refine wpAnyH_takeD 7 (some 60) (.int .i64 j) rfl rfl (by kernel_rfl) (by kernel_rfl) (by kernel_rfl) (fun _ _ _ h => h) (Or.inl ⟨by rfl, fun w' hw' => ?_⟩) hS ?_
            · go_simp
            try simp only [Act.put, List.setIfInBounds_toArray, List.set_cons_zero, List.set_cons_succ]
            refine wpAnyH_takeD 8 (some 61) (.pointer (some ⟨gb, j * 2, none⟩)) rfl rfl (by kernel_rfl) (by kernel_rfl) (by kernel_rfl) (fun _ _ _ h => h) (Or.inl ⟨by rfl, fun w' hw' => ?_⟩) hS ?_
            · go_simp
            try simp only [Act.put, List.setIfInBounds_toArray, List.set_cons_zero, List.set_cons_succ]
            refine wpAnyH_takeD 9 (some 62) (.pointer (some ⟨gb, j * 2 + 1, none⟩)) rfl rfl (by kernel_rfl) (by kernel_rfl) (by kernel_rfl) (fun _ _ _ h => h) (Or.inl ⟨by rfl, fun w' hw' => ?_⟩) hS ?_
            · go_simp
            try simp only [Act.put, List.setIfInBounds_toArray, List.set_cons_zero, List.set_cons_succ]
            refine wpAnyH_takeD 10 (some 63) (.int .i64 o) rfl rfl (by kernel_rfl) (by kernel_rfl) (by kernel_rfl) (fun _ _ _ h => h) (Or.inl ⟨by rfl, fun w' hw' => ?_⟩) hS ?_
            · have k1' := (hw'.cell (block_lt_of_cell k1)).trans k1; go_simp
            try simp only [Act.put, List.setIfInBounds_toArray, List.set_cons_zero, List.set_cons_succ]
            refine wpAnyH_ready (rs := [11, 15]) (by kernel_rfl) (by simp) (AllReadyH.cons rfl (fun K hK => ?_) (AllReadyH.cons rfl (fun K hK => ?_) AllReadyH.nil))
            · have hS0 : Below wa.heap.size wa wa.drew := hS
              go_simp
              go_at_call 23
              refine (free_far (zP p q) s L f o _ HZ.out hpi.out.valid (hpmA.out.rdZ.below hS) hin.1 hin.2).mono ?_
              rintro e w3 ⟨hb3, (⟨⟨x, hx1, hx2⟩, _⟩ | ⟨_, s', rfl, hf3, hs3⟩)⟩
              · exact (hheld.out x hx1 hx2).elim
              try go_simp
              refine hK.out _ _ (hS.trans (hb3.mono hS.size)) fun hS3 => ?_
              try simp only [Act.put, List.setIfInBounds_toArray, List.set_cons_zero, List.set_cons_succ]
              refine wpAnyH_takeD 12 (some 52) (.tuple #[zv (zP p q) s', .int .i64 0]) rfl rfl (by kernel_rfl) (by kernel_rfl) (by kernel_rfl) (fun _ _ _ h => h) (Or.inl ⟨by rfl, fun w' hw' => ?_⟩) hS3 ?_
              · go_simp
              try simp only [Act.put, List.setIfInBounds_toArray, List.set_cons_zero, List.set_cons_succ]
              refine wpAnyH_takeD 13 (some 65) (zv (zP p q) s') rfl rfl (by kernel_rfl) (by kernel_rfl) (by kernel_rfl) (fun _ _ _ h => h) (Or.inl ⟨by rfl, fun w' hw' => ?_⟩) hS3 ?_
              · go_simp
              try simp only [Act.put, List.setIfInBounds_toArray, List.set_cons_zero, List.set_cons_succ]
              refine wpAnyH_takeD 14 (some 66) (.int .i64 0) rfl rfl (by kernel_rfl) (by kernel_rfl) (by kernel_rfl) (fun _ _ _ h => h) (Or.inl ⟨by rfl, fun w' hw' => ?_⟩) hS3 ?_
              · go_simp
              try simp only [Act.put, List.setIfInBounds_toArray, List.set_cons_zero, List.set_cons_succ]
              refine wpAnyH_ready (rs := [15]) (by kernel_rfl) (by simp) (AllReadyH.cons rfl (fun K hK => ?_) AllReadyH.nil)
              go_simp
              refine hK.out _ _ (hS3.alloc hS3.size _) fun hS4 => ?_
              try simp only [Act.put, List.setIfInBounds_toArray, List.set_cons_zero, List.set_cons_succ]
              refine wpAnyH_ready (rs := [16]) (by kernel_rfl) (by simp) (AllReadyH.cons rfl (fun K hK => ?_) AllReadyH.nil)
              refine step_store_zone rfl (.tmp 15) (.tmp 65) rfl w3.heap.size z0 nilS (zP p q) s' (by rfl) (by rfl) (heap_alloc_new w3 _) hs3 ?_
              intro w5 hbx5 hk5
              have hS5 : Below wa.heap.size wa w5 := hS4.trans (hk5.to_below hS4.size fun k hk => by have := hS3.size; have : wa.drew.heap.size = wa.heap.size := rfl; omega)
              refine hK.out _ _ hS5 fun hS5 => ?_
              try simp only [Act.put, List.setIfInBounds_toArray, List.set_cons_zero, List.set_cons_succ]
              refine wpAnyH_takeD 17 (some 16) (.int .i64 0) rfl rfl (by kernel_rfl) (by kernel_rfl) (by kernel_rfl) (fun _ _ _ h => h) (Or.inl ⟨by rfl, fun w' hw' => ?_⟩) hS5 ?_
              · go_simp
              try simp only [Act.put, List.setIfInBounds_toArray, List.set_cons_zero, List.set_cons_succ]
              refine wpAnyH_done (by kernel_rfl) ?_ _
              go_wp2_with fail
              go_meet
              have hfz : farZ w5 wa.heap.size s' _ := hf3.below (((Below.refl _ w3).alloc (Nat.le_refl _) _).trans (hk5.to_below (by simp) fun k hk => by omega))
              have hBl := lt_of_block hbxA.out
              case rel => exact ⟨w3.heap.size, s', rfl, rfl, hbx5, (hS5.block _ hBl).trans hbxA.out, hpmA.out.zone hS5 hfz (by omega) hBl, (hS5.block _ (lt_of_block hresA.out)).trans hresA.out, hblA.trans (hS5.mono hblA.size)⟩
            · go_simp
              refine hK.out _ _ (hS.alloc hS.size _) fun hS2 => ?_
              try simp only [Act.put, List.setIfInBounds_toArray, List.set_cons_zero, List.set_cons_succ]
              refine wpAnyH_ready (rs := [11]) (by kernel_rfl) (by simp) (AllReadyH.cons rfl (fun K hK => ?_) AllReadyH.nil)
              go_simp
              go_at_call 23
              refine (free_far (zP p q) s L f o _ HZ.out hpi.out.valid (hpmA.out.rdZ.below hS2) hin.1 hin.2).mono ?_
              rintro e w3 ⟨hb3, (⟨⟨x, hx1, hx2⟩, _⟩ | ⟨_, s', rfl, hf3, hs3⟩)⟩
              · exact (hheld.out x hx1 hx2).elim
              try go_simp
              refine hK.out _ _ (hS2.trans (hb3.mono hS2.size)) fun hS3 => ?_
              try simp only [Act.put, List.setIfInBounds_toArray, List.set_cons_zero, List.set_cons_succ]
              refine wpAnyH_takeD 12 (some 52) (.tuple #[zv (zP p q) s', .int .i64 0]) rfl rfl (by kernel_rfl) (by kernel_rfl) (by kernel_rfl) (fun _ _ _ h => h) (Or.inl ⟨by rfl, fun w' hw' => ?_⟩) hS3 ?_
              · go_simp
              try simp only [Act.put, List.setIfInBounds_toArray, List.set_cons_zero, List.set_cons_succ]
              refine wpAnyH_takeD 13 (some 65) (zv (zP p q) s') rfl rfl (by kernel_rfl) (by kernel_rfl) (by kernel_rfl) (fun _ _ _ h => h) (Or.inl ⟨by rfl, fun w' hw' => ?_⟩) hS3 ?_
              · go_simp
              try simp only [Act.put, List.setIfInBounds_toArray, List.set_cons_zero, List.set_cons_succ]
              refine wpAnyH_takeD 14 (some 66) (.int .i64 0) rfl rfl (by kernel_rfl) (by kernel_rfl) (by kernel_rfl) (fun _ _ _ h => h) (Or.inl ⟨by rfl, fun w' hw' => ?_⟩) hS3 ?_
              · go_simp
              try simp only [Act.put, List.setIfInBounds_toArray, List.set_cons_zero, List.set_cons_succ]
              have hY := (hb3.block wa.drew.heap.size (by simp)).trans (heap_alloc_new wa.drew (.cells #[.int .i64 0, .int .i64 0, .int .i64 0, .int .i64 0, .int .i64 0, .slice none 0 0, .slice none 0 0, .slice none 0 0, .slice none 0 0, .slice none 0 0] 25))
              refine wpAnyH_ready (rs := [16]) (by kernel_rfl) (by simp) (AllReadyH.cons rfl (fun K hK => ?_) AllReadyH.nil)
              refine step_store_zone rfl (.tmp 15) (.tmp 65) rfl wa.drew.heap.size z0 nilS (zP p q) s' (by rfl) (by rfl) hY hs3 ?_
              intro w5 hbx5 hk5
              have hS5 : Below wa.heap.size wa w5 := hS3.trans (hk5.to_below hS3.size fun k hk => by have := hS3.size; have : wa.drew.heap.size = wa.heap.size := rfl; omega)
              refine hK.out _ _ hS5 fun hS5 => ?_
              try simp only [Act.put, List.setIfInBounds_toArray, List.set_cons_zero, List.set_cons_succ]
              refine wpAnyH_takeD 17 (some 16) (.int .i64 0) rfl rfl (by kernel_rfl) (by kernel_rfl) (by kernel_rfl) (fun _ _ _ h => h) (Or.inl ⟨by rfl, fun w' hw' => ?_⟩) hS5 ?_
              · go_simp
              try simp only [Act.put, List.setIfInBounds_toArray, List.set_cons_zero, List.set_cons_succ]
              refine wpAnyH_done (by kernel_rfl) ?_ _
              go_wp2_with fail
              go_meet
              have hfz : farZ w5 wa.heap.size s' _ := (hf3.keeps hk5 (fun b hb e => by subst e; have hb' : (wa.alloc (.cells #[.int .i64 0, .int .i64 0, .int .i64 0, .int .i64 0, .int .i64 0, .slice none 0 0, .slice none 0 0, .slice none 0 0, .slice none 0 0, .slice none 0 0] 25)).heap.size ≤ wa.heap.size := hb; simp at hb'; omega)).lower hS2.size
              have hBl := lt_of_block hbxA.out
              case rel => exact ⟨wa.drew.heap.size, s', rfl, rfl, hbx5, (hS5.block _ hBl).trans hbxA.out, hpmA.out.zone hS5 hfz (by omega) hBl, (hS5.block _ (lt_of_block hresA.out)).trans hresA.out, hblA.trans (hS5.mono hblA.size)⟩
          case rest =>
            obtain ⟨Y, s', rfl, rfl, hbxY, hbxB, hpmC, hresC, hblC⟩ := hcut
            have hslC := hpmC.out.slices
            clear k0 k1 hcap hcm
            go_upto_region 15 with (first | (refine load_zone rfl (.tmp 15) rfl Y (zP p q) s' rfl hbxY.out ?_) | (refine store_zone rfl (.tmp 9) (.tmp 70) rfl B (zP p q) s (zP p q) s' rfl rfl hbxB.out hslC ?_; intro w6 hbx6 hk6))
            have hpm6 := hpmC.out.keeps hk6 (fun b _ h => h)
            have hres6 : boxed w6 w.heap.size z0 nilS := (hk6.block _ (lt_of_block hresC.out) (by omega)).trans hresC.out
            have hbl6 : Below w.heap.size w w6 := hblC.trans (hk6.to_below hblC.size fun k hk => by omega)
            have hown6 := hpm6.held
            rw [HE.out.1] at hown6
            obtain ⟨gb2, cap2, hve, hgb, hgl, hcap, hcm, k0, k1, hcA, hcC⟩ := ownsH.parts hown6
            rw [HE.out.2] at hcap k0 k1 hcC
            rw [← HE.out.1] at hve
            injection hve with hb hl2 hd
            injection hb with hb
            injection hb with hb
            subst hb hd
            have HPM6 := Lib.hid hpm6
            have HCA6 := Lib.hid hcA
            have HCC6 := Lib.hid hcC
            have HRES6 := Lib.hid hres6
            have HBX6 := Lib.hid hbx6
            clear hpm6 hcA hcC hres6 hbx6 hown6 k0 k1 hl2
            have hjd : j ≤ d := by omega
            have hwr : IntKind.i64.wrap ((j : Int) + 1) = (j : Int) + 1 := IntWalk.i64_in _ (by omega)
            have hp0 : (0 : Int) ≤ (j : Int) + 1 := by omega
            have hp1' : (j : Int) + 1 ≤ (H.length : Int) := by omega
            have hp2 : ((j : Int) + 1).toNat = j + 1 := by omega
            have hlA : (cellsH A).length = j * 2 := by rw [cellsH_len, HE.out.2]
            have hlC : (cellsH C).length = (H.length - (j + 1)) * 2 := by rw [cellsH_len, HE.out.1, ← HE.out.2]; simp; omega
            have HOE : Hid (∀ wx : World, wx.heap = (w6.alloc (.cells #[] 48)).heap → wx.ownsRow (w.heap.size + 1) 48 2 (.slice (some ⟨w6.heap.size, 0, none⟩) 0 0) 0 []) := fun wx hx => ⟨rfl, .inr ⟨_, 0, #[], rfl, by have := lt_of_block HBX6.out; omega, by rw [hx]; exact alloc_at w6 _, Nat.le_refl _, by unfold maxLen; omega, rfl, rfl⟩⟩
            have HNA : Hid (∀ wx : World, wx.heap = (w6.alloc (.cells #[] 48)).heap → ∀ (i : Nat) u, (cellsH A)[i]? = some u → wx.cell? ((⟨gb, 0, none⟩ : Addr).add i) = some u) := fun wx hx i u hu => by
              rw [Addr.add_lit, Nat.zero_add, World.cell?_of_block (w := w6) (by rw [hx]; exact heap_alloc_old w6 _ hgl)]
              exact HCA6.out i u hu
            obtain ⟨AD, hAD, hnC⟩ : ∃ AD : Addr, (if d = j + 1 then some (⟨gb, 0, none⟩ : Addr) else some ⟨gb, (j + 1) * 2, none⟩) = some AD ∧ Hid (∀ wx : World, wx.heap[gb]? = w6.heap[gb]? → ∀ (i : Nat) u, (cellsH C)[i]? = some u → wx.cell? (AD.add i) = some u) := by
              by_cases h : d = j + 1
              · refine ⟨_, if_pos h, fun wx hx i u hu => ?_⟩
                have h0 := (List.getElem?_eq_some_iff.1 hu).1
                rw [cellsH_len] at h0
                omega
              · refine ⟨_, if_neg h, fun wx hx i u hu => ?_⟩
                rw [Addr.add_lit, World.cell?_of_block (w := w6) hx]
                exact HCC6.out i u hu
            have HGL := Lib.hid hgl
            have hinfo : (Try.prog.info? 48).map (fun i => (i.zero, i.size, i.bytes)) = some (some (.agg #[.int .i64 0, .int .i64 0]), 2, 16) := by kernel_rfl
            obtain ⟨i0, hi0, hiz0, hiz1, hiz2⟩ := info_parts hinfo
            have hsz6 : w.heap.size + 1 ≤ w6.heap.size := by have := lt_of_block HBX6.out; omega
            clear hgb hgl hcm hcap
            go_region_law (first
              | (refine step_append_at rfl (.tmp 71) (.tmp 74) 41 rfl (w.heap.size + 1) 48 i0 (.agg #[.int .i64 0, .int .i64 0]) 2 16 Try.underlying41 hi0 hiz0 hiz1 hiz2 rfl (by decide) _ 0 [] (by simp [Act.eval, Act.put]) (HOE.out _ rfl) ⟨gb, 0, none⟩ j d (cellsH A) (by simp [Act.eval, Act.put]) hlA (HNA.out _ rfl) (fun u hu => cellsH_one hu) (by unfold maxLen; omega) (by omega) (by show w.heap.size + 1 ≤ (w6.alloc (.cells #[] 48)).heap.size; simp; omega) ?_; intro v1 w7 hown7 hgrow7 hat7; have HO7 := Lib.hid hown7; have HS7 : Hid (HStep w6 w7 v1) := HStep.one hgrow7 hat7; clear hown7 hgrow7 hat7)
              | (refine step_append_at rfl (.tmp 75) (.tmp 79) 41 rfl (w.heap.size + 1) 48 i0 (.agg #[.int .i64 0, .int .i64 0]) 2 16 Try.underlying41 hi0 hiz0 hiz1 hiz2 rfl (by decide) v1 (0 + j) ([] ++ cellsH A) (by simp [Act.eval, Act.put]) HO7.out AD (H.length - (j + 1)) (d - (j + 1)) (cellsH C) (by simp [Act.eval, Act.put, hAD]) hlC (hnC.out _ (HS7.out.low gb HGL.out)) (fun u hu => cellsH_one hu) (by unfold maxLen; omega) (by omega) (Nat.le_trans hsz6 HS7.out.bel.size) ?_; intro v2 w8 hown8 hgrow8 hat8; have HO8 := Lib.hid hown8; have HS8 : Hid (HStep w6 w8 v2) := HS7.out.two hgrow8 hat8; clear hown8 hgrow8 hat8))
            have hown8 : ownsH w8 (w.heap.size + 1) v2 (A ++ C) := by
              have h := HO8.out
              have e1 : 0 + j + (H.length - (j + 1)) = (A ++ C).length := by rw [HE.out.1, ← HE.out.2]; simp; omega
              rw [e1, List.nil_append, ← cellsH_append] at h
              exact h
            obtain ⟨b3, c3, hv2⟩ := hown8.form
            have hB6 := lt_of_block HBX6.out
            have hpm8 := Lib.hid (HPM6.out.append hown8 (fun b hb _ => HS8.out.low b hb) (fun b hb => .inr (HS8.out.new b hb)) hB6)
            have hAC : (A ++ C).length ≤ i + 1 := by have h := congrArg List.length HE.out.1; simp at h ⊢; omega
            have hbl8 : Below w.heap.size w w8 := hbl6.trans (HS8.out.bel.mono hbl6.size)
            have hbx8 := Lib.hid ((HS8.out.low B hB6).trans HBX6.out)
            have hres8 := Lib.hid ((HS8.out.low _ (lt_of_block HRES6.out)).trans HRES6.out)
            subst hv2
            go_wp2_with fail
            go_roundg (l.length - (i + 1))
            case rel => exact ⟨i + 1, s', _, A ++ C, b3, c3, by go_num, by omega, rfl, by rw [List.length_append], hAC, hdrop.out, hpm8.out, hbx8.out, hres8.out, hbl8⟩
            case measure => have := hn.out; omega
      | false =>
        obtain ⟨o, ho⟩ : ∃ o : Nat, od % 5 = o := ⟨(od % 5).toNat, by omega⟩
        have ho4 : o ≤ 4 := by omega
        go_upto_region 17 with fail
        rw [ho]
        clear f0 f1 f2
        have hrdA := hpmA.out.rdZ
        have HRD := Lib.hid hrdA
        clear hrdA
        rcases hfind : findK L (5 - o) o with _ | k
        · have HFI := Lib.hid hfind
          clear hfind
          go_upto_region 18 with (first | (refine load_zone rfl (.tmp 9) rfl B (zP p q) s rfl hbxA.out ?_) | (go_at_call 21; refine (alloc_far (zP p q) s L o _ HZ.out hpi.out.valid HRD.out ho4).mono ?_; rintro e w3 ⟨hb3, (⟨_, rfl⟩ | ⟨k', s', hk', _⟩)⟩; (rotate_left; (exact absurd (HFI.out.symm.trans hk') (by simp)))) | (refine store_zone rfl (.tmp 18) (.tmp 89) rfl w3.heap.size z0 nilS z0 nilS rfl rfl (heap_alloc_new w3 _) slices_nil ?_; intro w4 hbx4 hk4))
          have hb4 : Below wa.heap.size wa w4 := hb3.trans ((((Below.refl _ w3).alloc (Nat.le_refl _) _).trans (hk4.to_below (by simp) fun k hk => by omega)).mono hb3.size)
          have hpm4 := Lib.hid (hpmA.out.below hb4)
          have hbx5 := Lib.hid ((hb4.block _ (lt_of_block hbxA.out)).trans hbxA.out)
          have hres5 := Lib.hid ((hb4.block _ (lt_of_block hresA.out)).trans hresA.out)
          have hbl5 := hblA.trans (hb4.mono hblA.size)
          clear hbx4 hk4 hb3
          go_wp2_with fail
          go_roundg (l.length - (i + 1))
          case rel => exact ⟨i + 1, s, L, H, b, d, by go_num, by omega, rfl, rfl, by omega, hpi.out, hpm4.out, hbx5.out, hres5.out, hbl5⟩
          case measure => have := hn.out; omega
        · have HFI := Lib.hid hfind
          obtain ⟨f, hf⟩ : ∃ f, f = (L k).headD 0 := ⟨_, rfl⟩
          have HFH := Lib.hid hf
          clear hfind hf
          go_upto_region 18 with (first | (refine load_zone rfl (.tmp 9) rfl B (zP p q) s rfl hbxA.out ?_) | (go_at_call 21; refine (alloc_far (zP p q) s L o _ HZ.out hpi.out.valid HRD.out ho4).mono ?_; rintro e w3 ⟨hb3, (⟨hk', _⟩ | ⟨k', s', hk', rfl, hf3, hs3⟩)⟩; (exact absurd (HFI.out.symm.trans hk') (by simp)); obtain rfl : k = k' := Option.some.inj (HFI.out.symm.trans hk'); rw [← HFH.out]) | (refine store_zone rfl (.tmp 18) (.tmp 89) rfl w3.heap.size z0 nilS (zP p q) s' rfl rfl (heap_alloc_new w3 _) hs3 ?_; intro w4 hbx4 hk4))
          have hb34 : Below w3.heap.size w3 w4 := ((Below.refl _ w3).alloc (Nat.le_refl _) _).trans (hk4.to_below (by simp) fun k hk => by omega)
          have hb4 : Below wa.heap.size wa w4 := hb3.trans (hb34.mono hb3.size)
          have hBl := lt_of_block hbxA.out
          have hpm4 := Lib.hid (hpmA.out.zone hb4 (hf3.below hb34) (by omega) hBl)
          have hbx5 := Lib.hid ((hb4.block _ hBl).trans hbxA.out)
          have hres5 := Lib.hid ((hb4.block _ (lt_of_block hresA.out)).trans hresA.out)
          have hbl5 := hblA.trans (hb4.mono hblA.size)
          have hpi5 := Lib.hid (hpi.out.alloc ho4 HFI.out)
          rw [← HFH.out] at hpi5
          have HBY := Lib.hid hbx4
          obtain ⟨Y, hY⟩ : ∃ Y, Y = w3.heap.size := ⟨_, rfl⟩
          rw [← hY] at HBY ⊢
          clear hbx4 hk4 hb3 hk' hf3 hY hb34
          go_upto_region 20 with (first | (refine load_zone rfl (.tmp 18) rfl Y (zP p q) s' rfl HBY.out ?_) | (refine store_zone rfl (.tmp 9) (.tmp 94) rfl B (zP p q) s (zP p q) s' rfl rfl hbx5.out hs3 ?_; intro w6 hbx6 hk6))
          have hpm6 := Lib.hid (hpm4.out.keeps hk6 (fun b _ h => h))
          have hres6 := Lib.hid ((hk6.block _ (lt_of_block hres5.out) (by omega)).trans hres5.out)
          have hbl6 : Below w.heap.size w w6 := hbl5.trans (hk6.to_below hbl5.size fun k hk => by omega)
          have HBX6 := Lib.hid hbx6
          have hB6 := lt_of_block hbx6
          have hown6 := hpm6.out.held
          have hinfo : (Try.prog.info? 48).map (fun i => (i.zero, i.size, i.bytes)) = some (some (.agg #[.int .i64 0, .int .i64 0]), 2, 16) := by kernel_rfl
          obtain ⟨i0, hi0, hiz0, hiz1, hiz2⟩ := info_parts hinfo
          clear hbx6 hk6
          go_upto_region 23 with (at_builtin; go_loud (refine wpList_append_own_at _ rfl _ _ 41 rfl (w.heap.size + 1) 48 i0 (.agg #[.int .i64 0, .int .i64 0]) 2 16 Try.underlying41 hi0 hiz0 hiz1 hiz2 rfl (by decide) _ _ _ rfl (hown6.alloc _) ⟨w6.heap.size, 0, none⟩ 1 1 [.int .i64 f, .int .i64 o] rfl rfl (World.news_of_block (alloc_at w6 (.cells #[.int .i64 f, .int .i64 o] 48))) (fun u hu => by simp at hu; rcases hu with rfl | rfl <;> rfl) (by unfold maxLen; omega) (by omega) (by simp; omega) ?_); intro v' w7 hown' hgrow hnil hat)
          have hown7 : ownsH w7 (w.heap.size + 1) v' (H ++ [(f, o)]) := by
            have e1 : H.length + 1 = (H ++ [(f, o)]).length := by simp
            rw [e1, show cellsH H ++ [Value.int .i64 f, Value.int .i64 (o : Int)] = cellsH (H ++ [(f, o)]) by rw [cellsH_append]; rfl] at hown'
            exact hown'
          have hg7 := hpm6.out.grow hB6 (by omega) hown7 hgrow hat
          have HG7 := Lib.hid hg7
          have hbx7 := Lib.hid (hg7.2.1.trans HBX6.out)
          have hres7 := Lib.hid ((hg7.2.2.block _ (by omega)).trans hres6.out)
          have hbl7 : Below w.heap.size w w7 := hbl6.trans (hg7.2.2.mono (by omega))
          obtain ⟨b3, c3, rfl⟩ := hown7.form
          clear hown' hgrow hnil hat hown7 hg7 hown6
          have hl1 : (H ++ [(f, o)]).length ≤ i + 1 := by simp; omega
          go_wp2_with fail
          go_roundg (l.length - (i + 1))
          case rel => exact ⟨i + 1, s', _, H ++ [(f, o)], b3, c3, by go_num, by omega, rfl, by simp, hl1, hpi5.out, HG7.out.1, hbx7.out, hres7.out, hbl7⟩
          case measure => have := hn.out; omega
    · have hres' := hres.out
      have hsl := hpm.out.slices
      have hbx' := hbx.out
      go_wp2_with (first | (refine load_zone rfl (.tmp 9) rfl B (zP p q) s rfl hbx' ?_) | (refine store_zone rfl (.tmp 6) (.tmp 105) rfl w.heap.size z0 nilS (zP p q) s rfl rfl hres' hsl ?_; intro w9 hbx9 hk9))
      exact bodyPost_ret (results_zone3 rfl _ _ w.heap.size (zP p q) s rfl hbx9) rfl ⟨s, L, .slice b H.length d, H, rfl, hpi.out, by omega, ⟨B, (hpm.out.keeps hk9 (fun b hb _ e => by omega)).lower (by omega)⟩, hbl.trans (hk9.to_below hbl.size fun k hk => by omega)⟩
end Go.Proofs.Ytcmmoemmlellbaa
