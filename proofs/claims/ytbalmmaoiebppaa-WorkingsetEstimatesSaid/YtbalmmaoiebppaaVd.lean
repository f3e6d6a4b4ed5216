/- The law Estimates: walked. Conditions: the numbers fit. -/
import Derived.Test.YtbalmmaoiebppaaVw
import Derived.Test.YtbalmmaoiebppaaVi
namespace Go.Proofs.Ytbalmmaoiebppaa
open Go.RowKit

theorem estE_bad {xs : List Int} {k : Nat} (hl : xs.length ≤ 300) (hk : k < xs.length) (h : cnt (xs.getD k 0) = false) : estE xs = 2 := by
  unfold estE
  rw [if_neg (by omega), if_neg]
  intro ha
  have := List.all_eq_true.1 ha _ (by rw [getD_eq hk]; exact List.getElem_mem hk : xs.getD k 0 ∈ xs)
  rw [h] at this; cases this
theorem estE_good {xs : List Int} (hl : xs.length ≤ 300) (h : ∀ j, j < xs.length → cnt (xs.getD j 0) = true) : estE xs = 0 := by
  unfold estE
  rw [if_neg (by omega), if_pos]
  refine List.all_eq_true.2 fun x hx => ?_
  obtain ⟨j, hj, rfl⟩ := List.getElem_of_mem hx
  rw [← getD_eq hj]; exact h j hj

set_option maxRecDepth 100000 in
set_option maxHeartbeats 4000000 in
theorem estimates_walk (v : Value) (xs : List Int) (w : World) (h : rd w v xs) (hx : ∀ x, x ∈ xs → fits x) :
    Calls Try.prog 6 #[v] w fun e w' => e = .returned (.bool true) ∧ Below w.heap.size w w' := by
  have HR := Lib.hid h
  obtain ⟨a, c, rfl, hlen, hcell⟩ := h.split
  have HC := Lib.hid hcell
  have HX := Lib.hid hx
  clear h hx hcell
  by_cases hbig : 300 < xs.length
  · have hgt : decide ((xs.length : Int) > 300) = true := by simp; omega
    go_enter Try.func6, Try.ntmps6
    go_upto_region 2 with (go_at_call 11; refine (awake_any _).mono ?_; rintro e w1 ⟨rfl, hb1⟩)
    go_wp2_with (go_at_call 11; refine (awake_any _).mono ?_; rintro e w2 ⟨rfl, hb2⟩)
    go_ret
    exact ⟨rfl, hb1.trans (hb2.mono hb1.size)⟩
  · have hgt : decide ((xs.length : Int) > 300) = false := by simp; omega
    have hl3 : xs.length ≤ 300 := by omega
    go_enter Try.func6, Try.ntmps6
    go_upto_region 3 with (go_at_call 11; refine (awake_any _).mono ?_; rintro e w1 ⟨rfl, hb1⟩)
    have HR1 := Lib.hid (HR.out.below hb1)
    have HLAW : Hid (estE xs = 0 → 0 ≤ estV xs ∧ cgt (estV xs) xs ≤ xs.length / 8 ∧ (estV xs = 0 ∨ xs.length / 8 < cge (estV xs) xs)) := est_law xs
    have HBAD : Hid (∀ k, k < xs.length → cnt (xs.getD k 0) = false → estE xs = 2) := fun k hk => estE_bad hl3 hk
    have HGOOD : Hid ((∀ j, j < xs.length → cnt (xs.getD j 0) = true) → estE xs = 0) := estE_good hl3
    go_upto_region 4 with (go_at_call 21; refine (estimate_any _ xs _ HR1.out HX.out).mono ?_; rintro e w2 ⟨rfl, hb2⟩; have hbl2 := hb1.trans (hb2.mono hb1.size); clear hb2)
    generalize estE xs = ee at *
    generalize estV xs = m at *
    have HB2 : Hid (∀ b j x, w.cell? ⟨b, j, none⟩ = some x → w2.cell? ⟨b, j, none⟩ = some x) := fun b j x hc => (hbl2.cell (block_lt_of_cell hc)).trans hc
    go_wp2_with fail
    go_loopg [5, 6, 24] xs.length (fun n s5 s6 s24 wr => ∃ k : Nat, s24 = .int .i64 k ∧ s5 = .int .i64 (cgt m (xs.take k) : Nat) ∧ s6 = .int .i64 (cge m (xs.take k) : Nat) ∧ k ≤ xs.length ∧ Hid (n = xs.length - k) ∧ Hid (∀ j, j < k → cnt (xs.getD j 0) = true) ∧ wr = w2)
    case atStart => exact ⟨0, rfl, rfl, rfl, by omega, rfl, fun j hj => by omega, rfl⟩
    case round =>
      obtain ⟨k, rfl, rfl, rfl, hk, hn, hp, rfl⟩ := hrel
      have hg1 := cgt_le m (xs.take k)
      have hg2 := cge_le m (xs.take k)
      rw [List.length_take] at hg1 hg2
      by_cases hlt : k < xs.length
      · have hlti : (k : Int) < (xs.length : Int) := by omega
        obtain ⟨b, o, rfl, hcl⟩ := HC.out k hlt
        have hc := HB2.out _ _ _ (hcl k hlt)
        have HBK : Hid (cnt (xs.getD k 0) = false → ee = 2) := HBAD.out k hlt
        have HG1 : Hid (cgt m (xs.take (k + 1)) = cgt m (xs.take k) + if m < xs.getD k 0 then 1 else 0) := by show _ = _; rw [take_snoc hlt, cgt_snoc]
        have HG2 : Hid (cge m (xs.take (k + 1)) = cge m (xs.take k) + if m ≤ xs.getD k 0 then 1 else 0) := by show _ = _; rw [take_snoc hlt, cge_snoc]
        obtain ⟨y, hy⟩ : ∃ y, y = xs.getD k 0 := ⟨_, rfl⟩
        rw [← hy] at hc HBK HG1 HG2
        have HY := Lib.hid hy
        clear hcl hy
        generalize cgt m (xs.take k) = c1 at *
        generalize cge m (xs.take k) = c2 at *
        have hc1 : c1 ≤ 300 := by omega
        have hc2 : c2 ≤ 300 := by omega
        clear hg1 hg2
        by_cases h0 : y < 0
        · obtain rfl := HBK.out (by unfold cnt; simp; omega)
          go_wp2_with fail
          go_ret
          exact ⟨rfl, hbl2⟩
        · by_cases h1 : 1099511627776 < y
          · have h0' : 0 ≤ y := by omega
            obtain rfl := HBK.out (by unfold cnt; simp; omega)
            go_wp2_with fail
            go_ret
            exact ⟨rfl, hbl2⟩
          · have h0' : 0 ≤ y := by omega
            have h1' : y ≤ 1099511627776 := by omega
            have HK : Hid (cnt y = true) := by show _ = _; unfold cnt; simp; omega
            clear h0 h1
            have HP : Hid (∀ j, j < k + 1 → cnt (xs.getD j 0) = true) := fun j hj => by
              by_cases e : j = k
              · subst e; rw [← HY.out]; exact HK.out
              · exact hp.out j (by omega)
            by_cases hm1 : m < y
            · have hm2 : m ≤ y := by omega
              have HA1 : Hid (cgt m (xs.take (k + 1)) = c1 + 1) := by show _ = _; rw [HG1.out, if_pos hm1]
              have HA2 : Hid (cge m (xs.take (k + 1)) = c2 + 1) := by show _ = _; rw [HG2.out, if_pos hm2]
              go_wp2_with fail
              go_roundg (xs.length - (k + 1))
              case rel => exact ⟨k + 1, by go_num, by rw [HA1.out]; go_num, by rw [HA2.out]; go_num, by omega, rfl, HP.out, rfl⟩
              case measure => have := hn.out; omega
            · have HA1 : Hid (cgt m (xs.take (k + 1)) = c1) := by show _ = _; rw [HG1.out, if_neg hm1]; rfl
              by_cases hm2 : m ≤ y
              · have HA2 : Hid (cge m (xs.take (k + 1)) = c2 + 1) := by show _ = _; rw [HG2.out, if_pos hm2]
                go_wp2_with fail
                go_roundg (xs.length - (k + 1))
                case rel => exact ⟨k + 1, by go_num, by rw [HA1.out], by rw [HA2.out]; go_num, by omega, rfl, HP.out, rfl⟩
                case measure => have := hn.out; omega
              · have HA2 : Hid (cge m (xs.take (k + 1)) = c2) := by show _ = _; rw [HG2.out, if_neg hm2]; rfl
                go_wp2_with fail
                go_roundg (xs.length - (k + 1))
                case rel => exact ⟨k + 1, by go_num, by rw [HA1.out], by rw [HA2.out], by omega, rfl, HP.out, rfl⟩
                case measure => have := hn.out; omega
      · obtain rfl := HGOOD.out fun j hj => hp.out j (by omega)
        obtain ⟨q1, q2, q3⟩ := HLAW.out rfl
        rw [List.take_of_length_le (by omega)] at *
        clear hg1 hg2
        generalize cgt m xs = c1 at *
        generalize cge m xs = c2 at *
        have q2' : (c1 : Int) ≤ (xs.length : Int) / 8 := by omega
        by_cases hz : m = 0
        · subst hz
          go_wp2_with fail
          go_ret
          exact ⟨rfl, hbl2⟩
        · have q3' : (xs.length : Int) / 8 < (c2 : Int) := by have := q3.resolve_left hz; omega
          have hz' : (m == 0) = false := by simpa using hz
          clear q3
          go_wp2_with fail
          go_ret
          exact ⟨rfl, hbl2⟩
end Go.Proofs.Ytbalmmaoiebppaa
