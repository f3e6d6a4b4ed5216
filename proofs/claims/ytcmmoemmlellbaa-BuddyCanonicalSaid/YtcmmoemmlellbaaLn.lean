/- The law BuddyCanonical: walked. Conditions: none. -/
import Derived.Test.YtcmmoemmlellbaaPl
import Derived.Test.YtcmmoemmlellbaaLs
import Derived.Test.YtcmmoemmlellbaaBd
import Derived.Test.YtcmmoemmlellbaaFm
namespace Go.Proofs.Ytcmmoemmlellbaa
open Go.RowKit
attribute [local go_sem] wrap_pow

theorem unus_frs (L : FL) : unusM L 5 = ((frs L).length : Nat) := by
  have e : (frs L).length = (L 0).length * 2 ^ 0 + (L 1).length * 2 ^ 1 + (L 2).length * 2 ^ 2 + (L 3).length * 2 ^ 3 + (L 4).length * 2 ^ 4 := by
    unfold frs
    rw [frsTo_succ, frsTo_succ, frsTo_succ, frsTo_succ, frsTo_succ]
    simp only [List.length_append, lstF_len]
    simp [frsTo]
  rw [e]
  simp [unusM]

theorem flist_build {z : Zh} {L : FL} (hz : z.ok = true) (v : Valid z L) : bErr z (flist L) (flist L).length 0 = 0 ∧ sameL (buildM z (flist L)) L = true := by
  have hi : ∀ b, b ∈ flist L → insB z b 0 = true := fun b hb => insB_zero.2 (free_zone v ((mem_flist hz v).1 hb))
  have hb := buildM_valid z (flist L) hi ((flist_sorted L).imp fun h e => by omega)
  exact ⟨bErr_ok.2 ⟨hi, flist_sorted L⟩, sameL_iff.2 (hb.1.unique v fun x => by rw [hb.2, mem_flist hz v])⟩

set_option maxRecDepth 100000 in
set_option maxHeartbeats 4000000 in
theorem canonical_walk (p q : Int) (v : Value) (l : List OpM) (w : World) (hp : 0 ≤ p ∧ p < 256) (hq : 0 ≤ q ∧ q < 256) (hops : opsAt w v l) :
    Calls Try.prog 13 #[.int .u8 p, .int .u8 q, v] w fun e w' => e = .returned (.bool true) ∧ Below w.heap.size w w' := by
  have HZ := Lib.hid (zP_ok p q)
  have HO := Lib.hid hops
  have HP := Lib.hid hp
  have HQ := Lib.hid hq
  obtain ⟨a, c, rfl⟩ := hops.form
  clear hops hp hq
  go_enter Try.func13, Try.ntmps13
  by_cases hl : l.length ≤ 30
  · have hl' : ¬ (30 : Int) < (l.length : Int) := by omega
    have hlb : decide ((30 : Int) < (l.length : Int)) = false := decide_eq_false hl'
    go_upto_region 3 with (first | (go_at_call 14; refine (awake_any _).mono ?_; rintro e w1 ⟨rfl, hb1⟩))
    have HO1 := Lib.hid (HO.out.below hb1)
    go_upto_region 6 with (first | (go_at_call 25; refine (play_any p q _ l _ HP.out HQ.out HO1.out hl).mono ?_; rintro e w2 ⟨s, L, hv, H, rfl, hpi, hH30, ⟨B0, hpm⟩, hb2⟩; have HPI := Lib.hid hpi; have hsl := hpm.slices; have HRD := Lib.hid hpm.rdZ; clear hpi hpm) | (refine store_zone rfl (.tmp 7) (.tmp 25) rfl w2.heap.size z0 nilS (zP p q) s rfl rfl (heap_alloc_new w2 _) hsl ?_; intro w3 hbx3 hk3))
    obtain ⟨hv3, hb3⟩ := Var.made HRD.out hbx3 hk3
    have hbel3 : Below w.heap.size w w3 := (hb1.trans (hb2.mono hb1.size)).trans (hb3.mono (Nat.le_trans hb1.size hb2.size))
    obtain ⟨B, hB⟩ : ∃ B, B = w2.heap.size := ⟨_, rfl⟩
    rw [← hB] at hv3 ⊢
    have HV3 := Lib.hid hv3
    have hfb := flist_build HZ.out HPI.out.valid
    have HBE := Lib.hid hfb.1
    have HSM := Lib.hid hfb.2
    have HFF : Hid (∀ x, x ∈ flist L → fits x) := fun x hx => by
      have h1 := free_zone HPI.out.valid ((mem_flist HZ.out HPI.out.valid).1 hx)
      have h2 := zP_range p q
      exact ⟨by omega, by omega⟩
    have HCN : Hid (unusM L 5 = ((flist L).length : Nat)) := by rw [frs_flist_len HZ.out HPI.out.valid]; exact unus_frs L
    clear hbx3 hk3 hv3 hB hb2 hb3 hfb hb1
    go_cut [10, 11] from 30 to 36 (fun s10 s11 wx => ∃ (Y : Nat) (s5 : Nat → Value), s10 = .pointer (some ⟨Y, 0, none⟩) ∧ s11 = .int .i64 0 ∧ Hid (Var wx Y (zP p q) s5 (buildM (zP p q) (flist L))) ∧ Hid (Var wx B (zP p q) s L) ∧ Below w.heap.size w wx)
    case first =>
      refine wp_region_held_drew (S := fun w' => Below w3.heap.size w3 w') (by kernel_rfl) ((Below.refl _ w3).drew) fun hS => ?_
      refine wpAnyH_takeD 0 (some 31) (zv (zP p q) s) rfl rfl (by kernel_rfl) (by kernel_rfl) (by kernel_rfl) (fun _ _ _ h => h) (Or.inl ⟨by rfl, fun w' hw' => ?_⟩) hS ?_
      · obtain ⟨c0, c1, c2, c3, c4, c5, c6, c7, c8, c9⟩ := boxed.head ((hw'.block _ (lt_of_block HV3.out.box)).trans HV3.out.box); go_simp
      try simp only [Act.put, List.setIfInBounds_toArray, List.set_cons_zero, List.set_cons_succ]
      refine wpAnyH_takeD 1 (some 32) (zv (zP p q) s) rfl rfl (by kernel_rfl) (by kernel_rfl) (by kernel_rfl) (fun _ _ _ h => h) (Or.inl ⟨by rfl, fun w' hw' => ?_⟩) hS ?_
      · obtain ⟨c0, c1, c2, c3, c4, c5, c6, c7, c8, c9⟩ := boxed.head ((hw'.block _ (lt_of_block HV3.out.box)).trans HV3.out.box); go_simp
      try simp only [Act.put, List.setIfInBounds_toArray, List.set_cons_zero, List.set_cons_succ]
      refine wpAnyH_ready (rs := [2, 7]) (by kernel_rfl) (by simp) (AllReadyH.cons rfl (fun K hK => ?_) (AllReadyH.cons rfl (fun K hK => ?_) AllReadyH.nil))
      · have hSz := hS.size
        go_simp
        go_at_call 33
        refine (frames_ok (zP p q) s L _ HZ.out HPI.out.valid (HV3.out.rd.below hS)).mono ?_
        rintro e w4 ⟨vf, rfl, hrf, hb4⟩
        obtain ⟨af, cf, rfl, _⟩ := hrf.split
        try go_simp
        have hS4 : Below w3.heap.size w3 w4 := hS.trans (hb4.mono hS.size)
        refine hK.out _ _ hS4 fun hS4 => ?_
        try simp only [Act.put, List.setIfInBounds_toArray, List.set_cons_zero, List.set_cons_succ]
        refine wpAnyH_ready (rs := [3, 7]) (by kernel_rfl) (by simp) (AllReadyH.cons rfl (fun K hK => ?_) (AllReadyH.cons rfl (fun K hK => ?_) AllReadyH.nil))
        · have hSz := hS4.size
          go_simp
          go_at_call 27
          refine (build_far (zP p q) s _ (flist L) _ HZ.out hrf HFF.out).mono ?_
          rintro e w5 ⟨hb5, (⟨hbe, _⟩ | ⟨_, s5, rfl, hr5, hs5⟩)⟩
          · exact (hbe HBE.out).elim
          try go_simp
          have hS5 : Below w3.heap.size w3 w5 := hS4.trans (hb5.mono hS4.size)
          refine hK.out _ _ hS5 fun hS5 => ?_
          try simp only [Act.put, List.setIfInBounds_toArray, List.set_cons_zero, List.set_cons_succ]
          refine wpAnyH_takeD 4 (some 30) (.tuple #[zv (zP p q) s5, .int .i64 0]) rfl rfl (by kernel_rfl) (by kernel_rfl) (by kernel_rfl) (fun _ _ _ h => h) (Or.inl ⟨by rfl, fun w' hw' => ?_⟩) hS5 ?_
          · go_simp
          try simp only [Act.put, List.setIfInBounds_toArray, List.set_cons_zero, List.set_cons_succ]
          refine wpAnyH_takeD 5 (some 35) (zv (zP p q) s5) rfl rfl (by kernel_rfl) (by kernel_rfl) (by kernel_rfl) (fun _ _ _ h => h) (Or.inl ⟨by rfl, fun w' hw' => ?_⟩) hS5 ?_
          · go_simp
          try simp only [Act.put, List.setIfInBounds_toArray, List.set_cons_zero, List.set_cons_succ]
          refine wpAnyH_takeD 6 (some 36) (.int .i64 0) rfl rfl (by kernel_rfl) (by kernel_rfl) (by kernel_rfl) (fun _ _ _ h => h) (Or.inl ⟨by rfl, fun w' hw' => ?_⟩) hS5 ?_
          · go_simp
          try simp only [Act.put, List.setIfInBounds_toArray, List.set_cons_zero, List.set_cons_succ]
          refine wpAnyH_ready (rs := [7]) (by kernel_rfl) (by simp) (AllReadyH.cons rfl (fun K hK => ?_) AllReadyH.nil)
          go_simp
          refine hK.out _ _ (hS5.alloc hS5.size _) fun hS6 => ?_
          try simp only [Act.put, List.setIfInBounds_toArray, List.set_cons_zero, List.set_cons_succ]
          have hSz := hS5.size
          refine wpAnyH_ready (rs := [8]) (by kernel_rfl) (by simp) (AllReadyH.cons rfl (fun K hK => ?_) AllReadyH.nil)
          refine step_store_zone rfl (.tmp 10) (.tmp 35) rfl w5.heap.size z0 nilS (zP p q) s5 (by rfl) (by rfl) (heap_alloc_new w5 _) hs5 ?_
          intro w9 hbx9 hk9
          have hS9 : Below w3.heap.size w3 w9 := hS6.trans (hk9.to_below hS6.size fun k hk => by have : w3.drew.heap.size = w3.heap.size := rfl; have := hSz; omega)
          refine hK.out _ _ hS9 fun hS9 => ?_
          try simp only [Act.put, List.setIfInBounds_toArray, List.set_cons_zero, List.set_cons_succ]
          refine wpAnyH_takeD 9 (some 11) (.int .i64 0) rfl rfl (by kernel_rfl) (by kernel_rfl) (by kernel_rfl) (fun _ _ _ h => h) (Or.inl ⟨by rfl, fun w' hw' => ?_⟩) hS9 ?_
          · go_simp
          try simp only [Act.put, List.setIfInBounds_toArray, List.set_cons_zero, List.set_cons_succ]
          refine wpAnyH_done (by kernel_rfl) ?_ _
          go_wp2_with fail
          go_meet
          case rel => exact ⟨w5.heap.size, s5, rfl, rfl, ⟨hbx9, (hr5.below (((Below.refl _ w5).alloc (Nat.le_refl _) _).trans (hk9.to_below (by simp) fun k hk => by omega))).rdZ⟩, HV3.out.below hS9, hbel3.trans (hS9.mono hbel3.size)⟩
        · have hSz := hS4.size
          go_simp
          refine hK.out _ _ (hS4.alloc hS4.size _) fun hS5 => ?_
          try simp only [Act.put, List.setIfInBounds_toArray, List.set_cons_zero, List.set_cons_succ]
          refine wpAnyH_ready (rs := [3]) (by kernel_rfl) (by simp) (AllReadyH.cons rfl (fun K hK => ?_) AllReadyH.nil)
          go_simp
          go_at_call 27
          refine (build_far (zP p q) s _ (flist L) _ HZ.out (hrf.below ((Below.refl _ w4).alloc (Nat.le_refl _) _)) HFF.out).mono ?_
          rintro e w6 ⟨hb6, (⟨hbe, _⟩ | ⟨_, s5, rfl, hr5, hs5⟩)⟩
          · exact (hbe HBE.out).elim
          try go_simp
          have hS6 : Below w3.heap.size w3 w6 := hS5.trans (hb6.mono hS5.size)
          refine hK.out _ _ hS6 fun hS6 => ?_
          try simp only [Act.put, List.setIfInBounds_toArray, List.set_cons_zero, List.set_cons_succ]
          refine wpAnyH_takeD 4 (some 30) (.tuple #[zv (zP p q) s5, .int .i64 0]) rfl rfl (by kernel_rfl) (by kernel_rfl) (by kernel_rfl) (fun _ _ _ h => h) (Or.inl ⟨by rfl, fun w' hw' => ?_⟩) hS6 ?_
          · go_simp
          try simp only [Act.put, List.setIfInBounds_toArray, List.set_cons_zero, List.set_cons_succ]
          refine wpAnyH_takeD 5 (some 35) (zv (zP p q) s5) rfl rfl (by kernel_rfl) (by kernel_rfl) (by kernel_rfl) (fun _ _ _ h => h) (Or.inl ⟨by rfl, fun w' hw' => ?_⟩) hS6 ?_
          · go_simp
          try simp only [Act.put, List.setIfInBounds_toArray, List.set_cons_zero, List.set_cons_succ]
          refine wpAnyH_takeD 6 (some 36) (.int .i64 0) rfl rfl (by kernel_rfl) (by kernel_rfl) (by kernel_rfl) (fun _ _ _ h => h) (Or.inl ⟨by rfl, fun w' hw' => ?_⟩) hS6 ?_
          · go_simp
          try simp only [Act.put, List.setIfInBounds_toArray, List.set_cons_zero, List.set_cons_succ]
          have hY := (hb6.block w4.heap.size (by simp)).trans (heap_alloc_new w4 (.cells #[.int .i64 0, .int .i64 0, .int .i64 0, .int .i64 0, .int .i64 0, .slice none 0 0, .slice none 0 0, .slice none 0 0, .slice none 0 0, .slice none 0 0] 25))
          refine wpAnyH_ready (rs := [8]) (by kernel_rfl) (by simp) (AllReadyH.cons rfl (fun K hK => ?_) AllReadyH.nil)
          refine step_store_zone rfl (.tmp 10) (.tmp 35) rfl w4.heap.size z0 nilS (zP p q) s5 (by rfl) (by rfl) hY hs5 ?_
          intro w9 hbx9 hk9
          have hS9 : Below w3.heap.size w3 w9 := hS6.trans (hk9.to_below hS6.size fun k hk => by have : w3.drew.heap.size = w3.heap.size := rfl; have := hSz; omega)
          refine hK.out _ _ hS9 fun hS9 => ?_
          try simp only [Act.put, List.setIfInBounds_toArray, List.set_cons_zero, List.set_cons_succ]
          refine wpAnyH_takeD 9 (some 11) (.int .i64 0) rfl rfl (by kernel_rfl) (by kernel_rfl) (by kernel_rfl) (fun _ _ _ h => h) (Or.inl ⟨by rfl, fun w' hw' => ?_⟩) hS9 ?_
          · go_simp
          try simp only [Act.put, List.setIfInBounds_toArray, List.set_cons_zero, List.set_cons_succ]
          refine wpAnyH_done (by kernel_rfl) ?_ _
          go_wp2_with fail
          go_meet
          case rel => exact ⟨w4.heap.size, s5, rfl, rfl, ⟨hbx9, (hr5.keeps hk9 (fun b hb e => by subst e; have hb' : (w4.alloc (.cells #[.int .i64 0, .int .i64 0, .int .i64 0, .int .i64 0, .int .i64 0, .slice none 0 0, .slice none 0 0, .slice none 0 0, .slice none 0 0, .slice none 0 0] 25)).heap.size ≤ w4.heap.size := hb; simp at hb'; omega)).rdZ⟩, HV3.out.below hS9, hbel3.trans (hS9.mono hbel3.size)⟩
      · have hSz := hS.size
        go_simp
        refine hK.out _ _ (hS.alloc hS.size _) fun hS4 => ?_
        try simp only [Act.put, List.setIfInBounds_toArray, List.set_cons_zero, List.set_cons_succ]
        refine wpAnyH_ready (rs := [2]) (by kernel_rfl) (by simp) (AllReadyH.cons rfl (fun K hK => ?_) AllReadyH.nil)
        go_simp
        go_at_call 33
        refine (frames_ok (zP p q) s L _ HZ.out HPI.out.valid (HV3.out.rd.below hS4)).mono ?_
        rintro e w5 ⟨vf, rfl, hrf, hb5⟩
        obtain ⟨af, cf, rfl, _⟩ := hrf.split
        try go_simp
        have hS5 : Below w3.heap.size w3 w5 := hS4.trans (hb5.mono hS4.size)
        refine hK.out _ _ hS5 fun hS5 => ?_
        try simp only [Act.put, List.setIfInBounds_toArray, List.set_cons_zero, List.set_cons_succ]
        refine wpAnyH_ready (rs := [3]) (by kernel_rfl) (by simp) (AllReadyH.cons rfl (fun K hK => ?_) AllReadyH.nil)
        go_simp
        go_at_call 27
        refine (build_far (zP p q) s _ (flist L) _ HZ.out hrf HFF.out).mono ?_
        rintro e w6 ⟨hb6, (⟨hbe, _⟩ | ⟨_, s5, rfl, hr5, hs5⟩)⟩
        · exact (hbe HBE.out).elim
        try go_simp
        have hS6 : Below w3.heap.size w3 w6 := hS5.trans (hb6.mono hS5.size)
        refine hK.out _ _ hS6 fun hS6 => ?_
        try simp only [Act.put, List.setIfInBounds_toArray, List.set_cons_zero, List.set_cons_succ]
        refine wpAnyH_takeD 4 (some 30) (.tuple #[zv (zP p q) s5, .int .i64 0]) rfl rfl (by kernel_rfl) (by kernel_rfl) (by kernel_rfl) (fun _ _ _ h => h) (Or.inl ⟨by rfl, fun w' hw' => ?_⟩) hS6 ?_
        · go_simp
        try simp only [Act.put, List.setIfInBounds_toArray, List.set_cons_zero, List.set_cons_succ]
        refine wpAnyH_takeD 5 (some 35) (zv (zP p q) s5) rfl rfl (by kernel_rfl) (by kernel_rfl) (by kernel_rfl) (fun _ _ _ h => h) (Or.inl ⟨by rfl, fun w' hw' => ?_⟩) hS6 ?_
        · go_simp
        try simp only [Act.put, List.setIfInBounds_toArray, List.set_cons_zero, List.set_cons_succ]
        refine wpAnyH_takeD 6 (some 36) (.int .i64 0) rfl rfl (by kernel_rfl) (by kernel_rfl) (by kernel_rfl) (fun _ _ _ h => h) (Or.inl ⟨by rfl, fun w' hw' => ?_⟩) hS6 ?_
        · go_simp
        try simp only [Act.put, List.setIfInBounds_toArray, List.set_cons_zero, List.set_cons_succ]
        have hY := (hb6.block w3.drew.heap.size (Nat.lt_of_lt_of_le (by simp) hb5.size)).trans ((hb5.block w3.drew.heap.size (by simp)).trans (heap_alloc_new w3.drew (.cells #[.int .i64 0, .int .i64 0, .int .i64 0, .int .i64 0, .int .i64 0, .slice none 0 0, .slice none 0 0, .slice none 0 0, .slice none 0 0, .slice none 0 0] 25)))
        refine wpAnyH_ready (rs := [8]) (by kernel_rfl) (by simp) (AllReadyH.cons rfl (fun K hK => ?_) AllReadyH.nil)
        refine step_store_zone rfl (.tmp 10) (.tmp 35) rfl w3.drew.heap.size z0 nilS (zP p q) s5 (by rfl) (by rfl) hY hs5 ?_
        intro w9 hbx9 hk9
        have hS9 : Below w3.heap.size w3 w9 := hS6.trans (hk9.to_below hS6.size fun k hk => by have : w3.drew.heap.size = w3.heap.size := rfl; have := hSz; omega)
        refine hK.out _ _ hS9 fun hS9 => ?_
        try simp only [Act.put, List.setIfInBounds_toArray, List.set_cons_zero, List.set_cons_succ]
        refine wpAnyH_takeD 9 (some 11) (.int .i64 0) rfl rfl (by kernel_rfl) (by kernel_rfl) (by kernel_rfl) (fun _ _ _ h => h) (Or.inl ⟨by rfl, fun w' hw' => ?_⟩) hS9 ?_
        · go_simp
        try simp only [Act.put, List.setIfInBounds_toArray, List.set_cons_zero, List.set_cons_succ]
        refine wpAnyH_done (by kernel_rfl) ?_ _
        go_wp2_with fail
        go_meet
        case rel => exact ⟨w3.drew.heap.size, s5, rfl, rfl, ⟨hbx9, (hr5.keeps hk9 (fun b hb e => by subst e; have h5 : (w3.alloc (.cells #[.int .i64 0, .int .i64 0, .int .i64 0, .int .i64 0, .int .i64 0, .slice none 0 0, .slice none 0 0, .slice none 0 0, .slice none 0 0, .slice none 0 0] 25)).heap.size ≤ w5.heap.size := hb5.size; have h6 : w5.heap.size ≤ w3.heap.size := hb; simp at h5; omega)).rdZ⟩, HV3.out.below hS9, hbel3.trans (hS9.mono hbel3.size)⟩
    case rest =>
      obtain ⟨Y, s5, rfl, rfl, hvy, hvz, hbl⟩ := hcut
      have hvyd : Hid (Var wc.drew Y (zP p q) s5 (buildM (zP p q) (flist L))) := hvy.out.below (Below.refl _ wc).drew
      have hvzd : Hid (Var wc.drew B (zP p q) s L) := hvz.out.below (Below.refl _ wc).drew
      obtain ⟨d0, d1, d2, d3, d4, d5, d6, d7, d8, d9⟩ := boxed.head hvy.out.box
      obtain ⟨e0, e1, e2, e3, e4, e5, e6, e7, e8, e9⟩ := boxed.head hvz.out.box
      go_upto_region 7 with fail
      go_region_law (first | (go_simp; go_at_call 20; refine (same_any (zP p q) s5 s _ L _ hvyd.out.rd hvzd.out.rd).mono ?_; rintro e w5 ⟨he, hb5⟩; rw [HSM.out] at he; subst he; have hz5 : Hid (Var w5 B (zP p q) s L) := hvzd.out.below hb5; (obtain ⟨k0, k1, k2, k3, k4, k5, k6, k7, k8, k9⟩ := boxed.head hz5.out.box)) | (go_simp; go_at_call 16; refine (check_ok (zP p q) s L _ HZ.out HPI.out.valid hz5.out.rd).mono ?_; rintro e w6 ⟨rfl, hb6⟩; have hz6 : Hid (Var w6 B (zP p q) s L) := hz5.out.below hb6; (obtain ⟨l0, l1, l2, l3, l4, l5, l6, l7, l8, l9⟩ := boxed.head hz6.out.box)) | (go_simp; go_at_call 33; refine (frames_ok (zP p q) s L _ HZ.out HPI.out.valid ?h1).mono ?_; (case h1 => first | exact hz6.out.rd | exact hz8.out.rd); rintro e w7 ⟨vf, rfl, hrf, hb7⟩; (obtain ⟨af, cf, rfl, _⟩ := hrf.split); have hz7 : Hid (Var w7 B (zP p q) s L) := (by first | exact hz6.out.below hb7 | exact hz8.out.below hb7); clear hrf; (obtain ⟨m0, m1, m2, m3, m4, m5, m6, m7, m8, m9⟩ := boxed.head hz7.out.box)) | (go_simp; go_at_call 35; refine (count_ok (zP p q) s L _ HZ.out HPI.out.valid ?h1).mono ?_; (case h1 => first | exact hz6.out.rd | exact hz7.out.rd); rintro e w8 ⟨he, hb8⟩; rw [HCN.out] at he; subst he; have hz8 : Hid (Var w8 B (zP p q) s L) := (by first | exact hz6.out.below hb8 | exact hz7.out.below hb8); (obtain ⟨n0, n1, n2, n3, n4, n5, n6, n7, n8, n9⟩ := boxed.head hz8.out.box)))
      all_goals
        go_wp2_with fail
        go_ret
        refine ⟨ret_bool (by simp), ?_⟩
        have hA6 : Below w.heap.size w w6 := (hbl.drew.trans (hb5.mono hbl.size)).trans (hb6.mono (Nat.le_trans hbl.size hb5.size))
        first
          | exact (hA6.trans (hb7.mono hA6.size)).trans (hb8.mono (Nat.le_trans hA6.size hb7.size))
          | exact (hA6.trans (hb8.mono hA6.size)).trans (hb7.mono (Nat.le_trans hA6.size hb8.size))
  · have hl' : (30 : Int) < (l.length : Int) := by omega
    have hlb : decide ((30 : Int) < (l.length : Int)) = true := decide_eq_true hl'
    go_wp2_with (first | (go_at_call 14; refine (awake_any _).mono ?_; rintro e w2 ⟨rfl, hb2⟩; have hA2 := hb1.trans (hb2.mono hb1.size)) | (go_at_call 14; refine (awake_any _).mono ?_; rintro e w1 ⟨rfl, hb1⟩))
    go_ret
    exact ⟨rfl, hA2⟩
end Go.Proofs.Ytcmmoemmlellbaa
