/- The law Scan: walked. Conditions: none. -/
import Derived.Test.YtbalmmaoiebppaaVba
import Derived.Test.YtbalmmaoiebppaaVu
namespace Go.Proofs.Ytbalmmaoiebppaa
open Go.RowKit

def rp (n : Nat) : Nat → List Int
  | 0 => []
  | r + 1 => rp n r ++ upN n
theorem rp_len (n r : Nat) : (rp n r).length = r * n := by induction r with
  | zero => simp [rp]
  | succ r ih => simp [rp, ih, upN_len, Nat.succ_mul]

set_option maxRecDepth 100000 in
set_option maxHeartbeats 2000000 in
theorem scan_walk (s t u : Int) (w : World) (hs : 0 ≤ s ∧ s < 256) (ht : 0 ≤ t ∧ t < 256) (hu : 0 ≤ u ∧ u < 256) :
    Calls Try.prog 10 #[.int .u8 s, .int .u8 t, .int .u8 u] w fun e w' => e = .returned (.bool true) ∧ Below w.heap.size w w' := by
  obtain ⟨hs1, hs2⟩ := hs
  obtain ⟨ht1, ht2⟩ := ht
  obtain ⟨hu1, hu2⟩ := hu
  obtain ⟨nn, hn0⟩ : ∃ nn : Nat, 1 + s % 8 = nn := ⟨(1 + s % 8).toNat, by omega⟩
  have hn1 : 1 ≤ nn := by omega
  have hn2 : nn ≤ 8 := by omega
  obtain ⟨sz, hz0⟩ : ∃ sz : Int, (nn : Int) + 1 + t % 8 = sz := ⟨_, rfl⟩
  have hz1 : (nn : Int) < sz := by omega
  have hz2 : sz ≤ 20 := by omega
  obtain ⟨mm, hm0⟩ : ∃ mm : Nat, u % 40 = mm := ⟨(u % 40).toNat, by omega⟩
  have hm2 : mm < 40 := by omega
  have HM0 := Lib.hid hm0
  go_enter Try.func10, Try.ntmps10
  go_upto_region 4 with (go_at_call 11; refine (awake_any _).mono ?_; rintro e w1 ⟨rfl, hb1⟩)
  go_upto_region 6 with fail
  clear hn0 hz0 hm0
  go_wp2_with fail
  go_loopg [9, 28] 2 (fun n s9 s28 wr => ∃ (r : Nat) (g : Option Nat), s28 = .int .i64 r ∧ r ≤ 2 ∧ Hid (n = 2 - r) ∧ Hid (own wr w.heap.size g s9 (rp nn r)) ∧ Below w.heap.size w wr)
  case atStart => exact ⟨0, none, rfl, by omega, rfl, ⟨rfl, _, rfl⟩, hb1⟩
  case round =>
    obtain ⟨r, g, rfl, hr, hn, ho, hbl⟩ := hrel
    by_cases hlt : r < 2
    · have hlti : decide ((r : Int) < 2) = true := by simp; omega
      go_wp2_with fail
      go_loopg [9, 31] nn (fun n s9 s31 wr => ∃ (k : Nat) (g : Option Nat), s31 = .int .i64 k ∧ k ≤ nn ∧ Hid (n = nn - k) ∧ Hid (own wr w.heap.size g s9 (rp nn r ++ upN k)) ∧ Below w.heap.size w wr)
      case atStart => exact ⟨0, g, rfl, by omega, rfl, by
        show own _ _ _ _ _
        rw [show upN 0 = [] from rfl, List.append_nil]; exact ho.out, hbl⟩
      case round =>
        obtain ⟨k, g, rfl, hk, hn', ho, hbl⟩ := hrel
        by_cases hlt' : k < nn
        · have hlti' : (k : Int) < (nn : Int) := by omega
          have hrn : r * nn ≤ 16 := by have := Nat.mul_le_mul hr hn2; omega
          obtain ⟨ao, no, co, rfl⟩ := ho.out.form
          have HLE : Hid ((rp nn r ++ upN k).length ≤ 300) := by show _ ≤ _; simp [rp_len, upN_len, upQ_len]; omega
          obtain ⟨w0, hw0⟩ : ∃ w0, w0 = wr.alloc (.cells #[.int .i64 (k : Int)] 3) := ⟨_, rfl⟩
          have hbel0 : Below wr.heap.size wr w0 := by rw [hw0]; exact (Below.refl _ wr).alloc (Nat.le_refl _) _
          have HO0 : Hid (own w0 w.heap.size g (.slice ao no co) (rp nn r ++ upN k)) := ho.out.keeps (P := fun _ => False) (Keeps.of_below hbel0) (fun _ _ => id)
          have HC0 : Hid (w0.cell? ⟨wr.heap.size, 0, none⟩ = some (.int .i64 (k : Int))) := by show _ = _; rw [hw0, cell_of_block (heap_alloc_new wr _)]; simp
          have hb0 : Below w.heap.size w w0 := hbl.trans (hbel0.mono hbl.size)
          have hs0 := hb0.size
          have HW0 := Lib.hid hw0; clear hw0
          go_wp2_with (at_builtin; rw [← HW0.out]; refine wpList_push rfl _ _ rfl w.heap.size g _ _ rfl HO0.out _ _ (k : Int) rfl HC0.out (by have := HLE.out; omega) (by omega) ?_; intro a1 n1 c1 g1 w1 ho1 hn1 hk1 hg1; have HO1 := Lib.hid ho1; have hb2 := hk1.low hb0 fun k hk e => HO0.out.fresh hk e; clear ho1 hn1 hk1 hg1)
          go_roundg (nn - (k + 1))
          case rel => exact ⟨k + 1, g1, by go_num, by omega, rfl, by
            show own _ _ _ _ _
            rw [upN_succ, ← List.append_assoc]; exact HO1.out, hb2⟩
          case measure => have := hn'.out; omega
        · have HK : Hid (k = nn) := by show _ = _; omega
          go_wp2_with fail
          go_roundg (2 - (r + 1))
          case rel => exact ⟨r + 1, g, by go_num, by omega, rfl, by
            show own _ _ _ _ _
            rw [show rp nn (r + 1) = rp nn r ++ upN nn from rfl]; have h := ho.out; rw [HK.out] at h; exact h, hbl⟩
          case measure => have := hn.out; omega
    · obtain ⟨ax, nx, cx, rfl⟩ := ho.out.form
      have HO : Hid (own wr w.heap.size g (.slice ax nx cx) (upN nn ++ upN nn)) := by
        have h := ho.out
        rw [show r = 2 by omega] at h
        exact h
      have hgt2 : decide ((r : Int) < 2) = false := by simp; omega
      clear ho hlt hb1
      have hm0 := HM0.out
      go_wp2_with fail
      clear hm0
      go_loopg [9, 43] mm (fun n s9 s43 wr => ∃ (k : Nat) (g : Option Nat), s43 = .int .i64 k ∧ k ≤ mm ∧ Hid (n = mm - k) ∧ Hid (own wr w.heap.size g s9 (upN nn ++ upN nn ++ upQ k)) ∧ Below w.heap.size w wr)
      case atStart => exact ⟨0, g, rfl, by omega, rfl, by
        show own _ _ _ _ _
        rw [show upQ 0 = [] from rfl, List.append_nil]; exact HO.out, hbl⟩
      case round =>
        obtain ⟨k, g, rfl, hk, hn', ho, hbl⟩ := hrel
        by_cases hlt' : k < mm
        · have hlti' : (k : Int) < (mm : Int) := by omega
          obtain ⟨ao, no, co, rfl⟩ := ho.out.form
          have HLE : Hid ((upN nn ++ upN nn ++ upQ k).length ≤ 300) := by show _ ≤ _; simp [rp_len, upN_len, upQ_len]; omega
          obtain ⟨w0, hw0⟩ : ∃ w0, w0 = wr.alloc (.cells #[.int .i64 (100 + (k : Int))] 3) := ⟨_, rfl⟩
          have hbel0 : Below wr.heap.size wr w0 := by rw [hw0]; exact (Below.refl _ wr).alloc (Nat.le_refl _) _
          have HO0 : Hid (own w0 w.heap.size g (.slice ao no co) (upN nn ++ upN nn ++ upQ k)) := ho.out.keeps (P := fun _ => False) (Keeps.of_below hbel0) (fun _ _ => id)
          have HC0 : Hid (w0.cell? ⟨wr.heap.size, 0, none⟩ = some (.int .i64 (100 + (k : Int)))) := by show _ = _; rw [hw0, cell_of_block (heap_alloc_new wr _)]; simp
          have hb0 : Below w.heap.size w w0 := hbl.trans (hbel0.mono hbl.size)
          have hs0 := hb0.size
          have HW0 := Lib.hid hw0; clear hw0
          go_wp2_with (at_builtin; rw [← HW0.out]; refine wpList_push rfl _ _ rfl w.heap.size g _ _ rfl HO0.out _ _ (100 + (k : Int)) rfl HC0.out (by have := HLE.out; omega) (by omega) ?_; intro a1 n1 c1 g1 w1 ho1 hn1 hk1 hg1; have HO1 := Lib.hid ho1; have hb2 := hk1.low hb0 fun k hk e => HO0.out.fresh hk e; clear ho1 hn1 hk1 hg1)
          go_roundg (mm - (k + 1))
          case rel => exact ⟨k + 1, g1, by go_num, by omega, rfl, by
            show own _ _ _ _ _
            rw [upQ_succ, ← List.append_assoc]; exact HO1.out, hb2⟩
          case measure => have := hn'.out; omega
        · have HK : Hid (k = mm) := by show _ = _; omega
          have HOQ := Lib.hid ho.out
          go_wp2_with fail
          go_loopg [9, 53] nn (fun n s9 s53 wr => ∃ (k : Nat) (g : Option Nat), s53 = .int .i64 k ∧ k ≤ nn ∧ Hid (n = nn - k) ∧ Hid (own wr w.heap.size g s9 (upN nn ++ upN nn ++ upQ mm ++ upN k)) ∧ Below w.heap.size w wr)
          case atStart => exact ⟨0, g, rfl, by omega, rfl, by
            show own _ _ _ _ _
            rw [show upN 0 = [] from rfl, List.append_nil, ← HK.out]; exact HOQ.out, hbl⟩
          case round =>
            obtain ⟨k, g, rfl, hk, hn', ho, hbl⟩ := hrel
            by_cases hlt' : k < nn
            · have hlti' : (k : Int) < (nn : Int) := by omega
              obtain ⟨ao, no, co, rfl⟩ := ho.out.form
              have HLE : Hid ((upN nn ++ upN nn ++ upQ mm ++ upN k).length ≤ 300) := by show _ ≤ _; simp [rp_len, upN_len, upQ_len]; omega
              obtain ⟨w0, hw0⟩ : ∃ w0, w0 = wr.alloc (.cells #[.int .i64 (k : Int)] 3) := ⟨_, rfl⟩
              have hbel0 : Below wr.heap.size wr w0 := by rw [hw0]; exact (Below.refl _ wr).alloc (Nat.le_refl _) _
              have HO0 : Hid (own w0 w.heap.size g (.slice ao no co) (upN nn ++ upN nn ++ upQ mm ++ upN k)) := ho.out.keeps (P := fun _ => False) (Keeps.of_below hbel0) (fun _ _ => id)
              have HC0 : Hid (w0.cell? ⟨wr.heap.size, 0, none⟩ = some (.int .i64 (k : Int))) := by show _ = _; rw [hw0, cell_of_block (heap_alloc_new wr _)]; simp
              have hb0 : Below w.heap.size w w0 := hbl.trans (hbel0.mono hbl.size)
              have hs0 := hb0.size
              have HW0 := Lib.hid hw0; clear hw0
              go_wp2_with (at_builtin; rw [← HW0.out]; refine wpList_push rfl _ _ rfl w.heap.size g _ _ rfl HO0.out _ _ (k : Int) rfl HC0.out (by have := HLE.out; omega) (by omega) ?_; intro a1 n1 c1 g1 w1 ho1 hn1 hk1 hg1; have HO1 := Lib.hid ho1; have hb2 := hk1.low hb0 fun k hk e => HO0.out.fresh hk e; clear ho1 hn1 hk1 hg1)
              go_roundg (nn - (k + 1))
              case rel => exact ⟨k + 1, g1, by go_num, by omega, rfl, by
                show own _ _ _ _ _
                rw [upN_succ, ← List.append_assoc]; exact HO1.out, hb2⟩
              case measure => have := hn'.out; omega
            · obtain ⟨al, nl, cl, rfl⟩ := ho.out.form
              have HO : Hid (own wr w.heap.size g (.slice al nl cl) (scanL nn mm)) := by
                have h := ho.out
                rw [show k = nn by omega] at h
                exact h
              clear ho HOQ
              obtain rfl := own_len HO.out
              have hll := scanL_len nn mm
              have hsl := scan_law sz nn mm (by omega) hz1
              have hsr : ∀ x ∈ scanL nn mm, 0 ≤ x ∧ x < 200 := fun x hx => by
                unfold scanL at hx
                simp only [List.mem_append, mem_upN, mem_upQ] at hx
                omega
              have hol := scanO_len nn mm
              have hof := scanO_flt nn mm
              have hoj := scanO_last nn mm
              obtain ⟨L, hL⟩ : ∃ L, L = scanL nn mm := ⟨_, rfl⟩
              obtain ⟨O, hO⟩ : ∃ O, O = scanO nn mm := ⟨_, rfl⟩
              rw [← hL] at hll hsl hsr HO ⊢
              rw [← hO] at hsl hol hof hoj
              have hL100 : L.length ≤ 100 := by omega
              obtain ⟨lo, hlo⟩ : ∃ lo : Nat, lo = L.length - nn := ⟨_, rfl⟩
              have hlo' : (L.length : Int) - nn = (lo : Int) := by omega
              have hlo2 : lo ≤ L.length := by omega
              have HOJ : Hid (∀ j, lo ≤ j → j < L.length → O.getD j 0 = -1) := fun j h1 h2 => hoj j (by omega) (by omega)
              have HOL : Hid (O.length = L.length) := by show _ = _; omega
              have HOF : Hid (((flt O : Nat) : Int) = (nn : Int) + (mm : Int)) := by show _ = _; omega
              obtain ⟨n5, n6⟩ := lsOut_short (n := sz) (b := (nn : Int)) (l := L) (by omega) (by omega) (by omega) (by omega) (by omega)
              rw [hsl] at n6
              have N5 := Lib.hid n5
              have N6 := Lib.hid n6
              have HRD : Hid (rd wr (.slice al L.length cl) L) := HO.out.rd
              have HFX : Hid (∀ x ∈ L, fits x) := fun x hx => by have := hsr x hx; exact ⟨by omega, by omega⟩
              have HFN : Hid (fits nn) := ⟨by omega, by omega⟩
              have HFZ : Hid (fits sz) := ⟨by omega, by omega⟩
              have e1 : ((L.length : Int) != (L.length : Int)) = false := by simp
              clear hL hO hll hsl hsr hol hof hoj n5 n6 hlo
              go_upto_region 25 with (go_at_call 19; with_reducible refine (lists_any _ L sz nn _ HRD.out HFX.out HFZ.out HFN.out).mono ?_; rintro e w2 ⟨v2, rfl, hb2, hr2⟩; rw [N5.out]; rw [N6.out] at hr2; have hbl2 := hbl.trans (hb2.mono hbl.size); have HR2 := Lib.hid hr2; clear hr2 hb2)
              obtain ⟨av, cv, rfl, hlv, hcv⟩ := HR2.out.split
              have HRO : Hid (rd w2 (.slice av L.length cv) O) := by have h := HR2.out; rw [HOL.out] at h; exact h
              rw [HOL.out] at hlv hcv ⊢
              have HCV := Lib.hid hcv
              clear hcv
              go_wp2_with fail
              clear hlo'
              go_loopg [15] (L.length - lo) (fun n s15 wr => ∃ i : Nat, s15 = .int .i64 i ∧ lo ≤ i ∧ i ≤ L.length ∧ Hid (n = L.length - i) ∧ wr = w2)
              case atStart => exact ⟨lo, rfl, by omega, hlo2, rfl, rfl⟩
              case round =>
                obtain ⟨i, rfl, hi1, hi2, hn5, rfl⟩ := hrel
                by_cases hlt5 : i < L.length
                · have hlti5 : (i : Int) < (L.length : Int) := by omega
                  obtain ⟨bv, ov, rfl, hcv⟩ := HCV.out i hlt5
                  have hcd := hcv i hlt5
                  rw [HOJ.out i hi1 hlt5] at hcd
                  clear hcv
                  go_wp2_with fail
                  go_roundg (L.length - (i + 1))
                  case rel => exact ⟨i + 1, by go_num, by omega, by omega, rfl, rfl⟩
                  case measure => have := hn5.out; omega
                · go_upto_region 32 with fail
                  have hm0 := HM0.out
                  go_wp2_with (go_at_call 22; with_reducible refine (faults_any _ O _ HRO.out (by have := HOL.out; omega)).mono ?_; rintro e wv ⟨rfl, hwv⟩; rw [hwv, HOF.out]; clear hwv wv)
                  go_ret
                  exact ⟨rfl, hbl2⟩
end Go.Proofs.Ytbalmmaoiebppaa
