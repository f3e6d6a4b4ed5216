/- The program's Estimate: walked. Conditions: the numbers fit. -/
import Derived.Test.YtbalmmaoiebppaaVy
import Derived.Deep.CutBlock
namespace Go.Proofs.Ytbalmmaoiebppaa
open Go.RowKit

/-- the error of Estimate, and its answer -/
def estE (xs : List Int) : Int := if 10000 < xs.length then 9 else if xs.all cnt = true then 0 else 2
def estV (xs : List Int) : Int := if estE xs = 0 then (if xs.length = 0 then 0 else (sortL xs).getD (xs.length - 1 - xs.length / 8) 0) else 0

set_option maxRecDepth 100000 in
set_option maxHeartbeats 2000000 in
theorem estimate_any (v : Value) (xs : List Int) (w : World) (h : rd w v xs) (hx : ∀ x ∈ xs, fits x) :
    Calls Try.prog 21 #[v] w fun e w' => e = .returned (.tuple #[.int .i64 (estV xs), .int .i64 (estE xs)]) ∧ Below w.heap.size w w' := by
  have HRD := Lib.hid h
  obtain ⟨a, c, rfl, hlen, hcell⟩ := h.split
  have HC := Lib.hid hcell
  have HX := Lib.hid hx
  clear h hcell hx
  by_cases hbig : 10000 < xs.length
  · have HE : Hid (estE xs = 9 ∧ estV xs = 0) := by
      have e : estE xs = 9 := if_pos hbig
      exact ⟨e, by unfold estV; rw [e]; rfl⟩
    have hgt : decide ((xs.length : Int) > 10000) = true := by simp; omega
    go_enter Try.func21, Try.ntmps21
    go_wp2_with fail
    go_ret2
    exact ⟨ret_two HE.out.2.symm HE.out.1.symm, Below.refl _ _⟩
  · have hgt : decide ((xs.length : Int) > 10000) = false := by simp; omega
    have hl : xs.length ≤ 10000 := by omega
    have HBG := Lib.hid hbig
    clear hbig
    go_enter Try.func21, Try.ntmps21
    go_wp2_with fail
    go_loopg [13] xs.length (fun n s13 wr => ∃ k : Nat, s13 = .int .i64 k ∧ k ≤ xs.length ∧ Hid (n = xs.length - k) ∧ Hid (∀ j, j < k → cnt (xs.getD j 0) = true) ∧ wr = w)
    case atStart => exact ⟨0, rfl, by omega, rfl, fun j hj => by omega, rfl⟩
    case round =>
      obtain ⟨k, rfl, hk, hn, hp, rfl⟩ := hrel
      by_cases hlt : k < xs.length
      · have hlti : (k : Int) < (xs.length : Int) := by omega
        obtain ⟨b, o, rfl, hcl⟩ := HC.out k hlt
        have hc := hcl k hlt
        have hpf : fits (xs.getD k 0) := HX.out _ (by rw [getD_eq hlt]; exact List.getElem_mem hlt)
        have HBAD : Hid (cnt (xs.getD k 0) = false → estE xs = 2 ∧ estV xs = 0) := fun hb => by
          have e : estE xs = 2 := by
            unfold estE
            rw [if_neg HBG.out, if_neg]
            intro h
            have := List.all_eq_true.1 h _ (by rw [getD_eq hlt]; exact List.getElem_mem hlt : xs.getD k 0 ∈ xs)
            rw [hb] at this; cases this
          exact ⟨e, by unfold estV; rw [e]; rfl⟩
        obtain ⟨y, hy⟩ : ∃ y, y = xs.getD k 0 := ⟨_, rfl⟩
        rw [← hy] at hc hpf HBAD
        have HY := Lib.hid hy
        obtain ⟨hp1, hp2⟩ := hpf
        clear hcl hy
        by_cases h0 : y < 0
        · have HB := HBAD.out (by unfold cnt; simp; omega)
          go_wp2_with fail
          go_ret2
          exact ⟨ret_two HB.2.symm HB.1.symm, Below.refl _ _⟩
        · by_cases h1 : 1099511627776 < y
          · have h0' : 0 ≤ y := by omega
            have HB := Lib.hid (HBAD.out (by unfold cnt; simp; omega))
            go_wp2_with fail
            go_ret2
            exact ⟨ret_two HB.out.2.symm HB.out.1.symm, Below.refl _ _⟩
          · have h0' : 0 ≤ y := by omega
            have h1' : y ≤ 1099511627776 := by omega
            have HK : Hid (cnt y = true) := by show _ = _; unfold cnt; simp; omega
            clear h0 h1
            go_wp2_with fail
            go_roundg (xs.length - (k + 1))
            case rel => exact ⟨k + 1, by go_num, by omega, rfl, fun j hj => by
              by_cases e : j = k
              · subst e; rw [← HY.out]; exact HK.out
              · exact hp.out j (by omega), rfl⟩
            case measure => have := hn.out; omega
      · have HE : Hid (estE xs = 0) := by
          show _ = _
          unfold estE
          rw [if_neg HBG.out, if_pos]
          refine List.all_eq_true.2 fun x hx => ?_
          obtain ⟨j, hj, rfl⟩ := List.getElem_of_mem hx
          rw [← getD_eq hj]; exact hp.out j (by omega)
        obtain ⟨wv, hwv⟩ : ∃ wv, wv = wr.alloc (.cells #[.slice a xs.length c] 27) := ⟨_, rfl⟩
        have hbv : Below wr.heap.size wr wv := by rw [hwv]; exact (Below.refl _ wr).alloc (Nat.le_refl _) _
        have HBV : Hid (wv.cell? ⟨wr.heap.size, 0, none⟩ = some (.slice a xs.length c)) := by show _ = _; rw [hwv, cell_of_block (heap_alloc_new wr _)]; simp
        have HRV : Hid (Go.Proofs.Ytbalmmaoiebppaa.rd wv (.slice a xs.length c) xs) := HRD.out.below hbv
        have HWV := Lib.hid hwv; clear hwv
        go_upto_region 10 with (first | (go_at_call 40; refine (values_any a xs.length c wr).mono ?_; rintro e w1 ⟨rfl, hw1⟩; rw [hw1, ← HWV.out]; clear hw1 w1) | (go_at_call 39; refine (sorted_any wr.heap.size _ xs wv HBV.out HRV.out (by omega)).mono ?_; rintro e w2 ⟨v2, rfl, hr2, hb2⟩; (obtain ⟨a2, c2, rfl, hlen2, hcl2⟩ := hr2.split); have HL2 : Hid ((sortL xs).length = xs.length) := sortL_len xs; rw [HL2.out]; have HC2 := Lib.hid hcl2; have hbl2 := hbv.trans (hb2.mono hbv.size); clear hr2 hcl2 hb2))
        go_upto_region 11 with fail
        by_cases hz : xs.length = 0
        · have hv : (xs.length : Int) - 1 - (xs.length : Int) / 8 = -1 := by omega
          have HV : Hid (estV xs = 0) := by show _ = _; unfold estV; rw [if_pos HE.out, if_pos hz]
          rw [hv]
          clear hv
          go_wp2_with fail
          go_ret2
          exact ⟨ret_two HV.out.symm HE.out.symm, hbl2⟩
        · obtain ⟨m, hm⟩ : ∃ m : Nat, m = xs.length - 1 - xs.length / 8 := ⟨_, rfl⟩
          have hv : (xs.length : Int) - 1 - (xs.length : Int) / 8 = (m : Int) := by omega
          have hmlt : m < xs.length := by omega
          have hmi : (m : Int) < (xs.length : Int) := by omega
          have HV : Hid (estV xs = (sortL xs).getD m 0) := by show _ = _; unfold estV; rw [if_pos HE.out, if_neg hz, hm]
          rw [hv]
          obtain ⟨b, o, rfl, hcl⟩ := HC2.out m (by rw [HL2.out]; exact hmlt)
          have hc := hcl m (by rw [HL2.out]; exact hmlt)
          obtain ⟨y, hy⟩ : ∃ y, y = (sortL xs).getD m 0 := ⟨_, rfl⟩
          rw [← hy] at hc HV
          clear hv hcl hy hm hz
          go_wp2_with fail
          go_ret2
          exact ⟨ret_two HV.out.symm HE.out.symm, hbl2⟩
end Go.Proofs.Ytbalmmaoiebppaa
