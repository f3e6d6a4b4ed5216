/- The law Recent: walked. Conditions: none. -/
import Derived.Test.YtbalmmaoiebppaaVba
import Derived.Test.YtbalmmaoiebppaaVk
namespace Go.Proofs.Ytbalmmaoiebppaa
open Go.RowKit

/-- the last j of the first i -/
def sg (l : List Int) (i j : Nat) : List Int := (l.take i).drop (i - j)
theorem sg_zero (l : List Int) (i : Nat) : sg l i 0 = [] := by unfold sg; simp
theorem sg_all (l : List Int) (i : Nat) : sg l i i = l.take i := by unfold sg; simp
theorem sg_step {l : List Int} {i j : Nat} (hi : i ≤ l.length) (hj : j < i) : sg l i (j + 1) = l.getD (i - 1 - j) 0 :: sg l i j := by
  unfold sg
  rw [List.drop_eq_getElem_cons (by simp; omega), List.getElem_take, getD_eq (by omega), show i - (j + 1) + 1 = i - j by omega]
  congr 2; omega
theorem sg_found {l : List Int} {i j : Nat} (hi : i ≤ l.length) (hj : j < i) : l.take i = (l.take i).take (i - (j + 1)) ++ l.getD (i - 1 - j) 0 :: sg l i j := by
  rw [← sg_step hi hj]; unfold sg; rw [List.take_append_drop]

set_option maxRecDepth 100000 in
set_option maxHeartbeats 2000000 in
theorem recent_walk (v : Value) (bs : List Int) (s : Int) (w : World) (h : bytesAt w v bs) (hs : 0 ≤ s ∧ s < 256) :
    Calls Try.prog 9 #[v, .int .u8 s] w fun e w' => e = .returned (.bool true) ∧ Below w.heap.size w w' := by
  obtain ⟨hs1, hs2⟩ := hs
  obtain ⟨a, c, rfl, hcell⟩ := h.split
  have HC := Lib.hid hcell
  clear h hcell
  by_cases hbig : 200 < bs.length
  · have hgt : decide ((bs.length : Int) > 200) = true := by simp; omega
    go_enter Try.func9, Try.ntmps9
    go_upto_region 2 with (go_at_call 11; refine (awake_any _).mono ?_; rintro e w1 ⟨rfl, hb1⟩)
    go_wp2_with (go_at_call 11; refine (awake_any _).mono ?_; rintro e w2 ⟨rfl, hb2⟩)
    go_ret
    exact ⟨rfl, hb1.trans (hb2.mono hb1.size)⟩
  · have hgt : decide ((bs.length : Int) > 200) = false := by simp; omega
    have hl3 : bs.length ≤ 200 := by omega
    obtain ⟨nn, hn0⟩ : ∃ nn : Int, 1 + s % 12 = nn := ⟨_, rfl⟩
    have hn1 : 1 ≤ nn := by omega
    have hn2 : nn ≤ 12 := by omega
    clear hbig
    go_enter Try.func9, Try.ntmps9
    go_upto_region 4 with (go_at_call 11; refine (awake_any _).mono ?_; rintro e w1 ⟨rfl, hb1⟩)
    go_wp2_with fail
    clear hn0
    go_loopg [6, 30] bs.length (fun n s6 s30 wr => ∃ (k : Nat) (g : Option Nat), s30 = .int .i64 k ∧ k ≤ bs.length ∧ Hid (n = bs.length - k) ∧ Hid (own wr w.heap.size g s6 (bs.take k)) ∧ Below w.heap.size w wr)
    case atStart => exact ⟨0, none, rfl, by omega, rfl, ⟨rfl, _, rfl⟩, hb1⟩
    case round =>
      obtain ⟨k, g, rfl, hk, hn, ho, hbl⟩ := hrel
      by_cases hlt : k < bs.length
      · have hlti : (k : Int) < (bs.length : Int) := by omega
        obtain ⟨b, o, rfl, hx01, hc0⟩ := HC.out k hlt
        have hci := (hbl.cell (block_lt_of_cell hc0)).trans hc0
        have HS : Hid (bs.take (k + 1) = bs.take k ++ [bs.getD k 0]) := take_snoc hlt
        have HLE : Hid ((bs.take k).length ≤ 300) := by show _ ≤ _; simp; omega
        obtain ⟨x, hx⟩ : ∃ x : Nat, bs.getD k 0 = x := ⟨(bs.getD k 0).toNat, by omega⟩
        rw [hx] at hx01 hci HS
        have hx1 : x < 256 := by omega
        obtain ⟨ao, no, co, rfl⟩ := ho.out.form
        clear hc0 hx hx01
        obtain ⟨w0, hw0⟩ : ∃ w0, w0 = wr.alloc (.cells #[.int .i64 (x : Int)] 3) := ⟨_, rfl⟩
        have hbel0 : Below wr.heap.size wr w0 := by rw [hw0]; exact (Below.refl _ wr).alloc (Nat.le_refl _) _
        have HO0 : Hid (own w0 w.heap.size g (.slice ao no co) (bs.take k)) := ho.out.keeps (P := fun _ => False) (Keeps.of_below hbel0) (fun _ _ => id)
        have HC0 : Hid (w0.cell? ⟨wr.heap.size, 0, none⟩ = some (.int .i64 (x : Int))) := by show _ = _; rw [hw0, cell_of_block (heap_alloc_new wr _)]; simp
        have hb0 : Below w.heap.size w w0 := hbl.trans (hbel0.mono hbl.size)
        have hs0 := hb0.size
        have HW0 := Lib.hid hw0; clear hw0
        go_wp2_with (at_builtin; rw [← HW0.out]; refine wpList_push rfl _ _ rfl w.heap.size g _ _ rfl HO0.out _ _ (x : Int) rfl HC0.out (by have := HLE.out; omega) (by omega) ?_; intro a1 n1 c1 g1 w1 ho1 hn1 hk1 hg1; have HO1 := Lib.hid ho1; have hb2 := hk1.low hb0 fun k hk e => HO0.out.fresh hk e; clear ho1 hn1 hk1 hg1)
        go_roundg (bs.length - (k + 1))
        case rel => exact ⟨k + 1, g1, by go_num, by omega, rfl, by
          show own _ _ _ _ _
          rw [HS.out]; exact HO1.out, hb2⟩
        case measure => have := hn.out; omega
      · obtain ⟨al, nl, cl, rfl⟩ := ho.out.form
        rw [List.take_of_length_le (by omega)] at ho
        obtain rfl := own_len ho.out
        have HRD : Hid (rd wr (.slice al bs.length cl) bs) := ho.out.rd
        have HBR : Hid (∀ j, j < bs.length → 0 ≤ bs.getD j 0 ∧ bs.getD j 0 < 256) := fun j hj => by obtain ⟨_, _, _, h1, _⟩ := HC.out j hj; exact h1
        have HFX : Hid (∀ x ∈ bs, fits x) := fun x hx => by
          obtain ⟨j, hj, rfl⟩ := List.getElem_of_mem hx
          have h1 := HBR.out j hj
          rw [getD_eq hj] at h1; exact ⟨by omega, by omega⟩
        have HFN : Hid (fits nn) := ⟨by omega, by omega⟩
        have HF0 : Hid (fits 0) := ⟨by omega, by omega⟩
        obtain ⟨n5, n6⟩ := lsOut_short (n := nn) (b := 0) (l := bs) (by omega) (by omega) (by omega) (by omega) (by omega)
        have q3 := lsS_len nn 0 bs
        have N5 := Lib.hid n5
        have N6 := Lib.hid n6
        have Q3 := Lib.hid q3
        have HNEW : Hid (∀ i, i < bs.length → bs.getD i 0 ∉ bs.take i → (lsS nn 0 bs).2.2.2.getD i 0 = -2) := recent_new nn hn1 bs
        have HOLD : Hid (∀ i, i < bs.length → ∀ pre seg, bs.take i = pre ++ bs.getD i 0 :: seg → bs.getD i 0 ∉ seg → ((lsS nn 0 bs).2.2.2.getD i 0 = -1 ↔ ((dis seg).length : Int) < nn) ∧ (lsS nn 0 bs).2.2.2.getD i 0 ≠ -2) := recent_old nn hn1 bs
        generalize (lsS nn 0 bs).2.2.2 = out at *
        clear n5 n6 q3 hb1
        have e1 : ((bs.length : Int) != (bs.length : Int)) = false := by simp
        go_upto_region 11 with (go_at_call 19; with_reducible refine (lists_any _ bs nn 0 _ HRD.out HFX.out HFN.out HF0.out).mono ?_; rintro e w2 ⟨v2, rfl, hb2, hr2⟩; rw [N5.out]; rw [N6.out] at hr2; have hbl2 := hbl.trans (hb2.mono hbl.size); have HR2 := Lib.hid hr2; have HRL := Lib.hid (HRD.out.below hb2); clear hr2 hb2)
        obtain ⟨av, cv, rfl, hlv, hcv⟩ := HR2.out.split
        rw [Q3.out] at hlv hcv ⊢
        obtain ⟨al', cl', hel, _, hcl⟩ := HRL.out.split
        injection hel with hel1 _ hel2
        subst hel1 hel2
        have HCV := Lib.hid hcv
        have HCL := Lib.hid hcl
        have HCB : Hid (∀ k, k < bs.length → ∃ b o, a = some ⟨b, o, none⟩ ∧ w2.cell? ⟨b, o + k, none⟩ = some (.int .u8 (bs.getD k 0))) := fun k hk => by
          obtain ⟨b, o, h1, _, h2⟩ := HC.out k hk
          exact ⟨b, o, h1, (hbl2.cell (block_lt_of_cell h2)).trans h2⟩
        clear hcv hcl
        go_wp2_with fail
        go_loopg [57] bs.length (fun n s57 wr => ∃ (i : Nat), s57 = .int .i64 i ∧ i ≤ bs.length ∧ Hid (n = bs.length - i) ∧ Below w2.heap.size w2 wr)
        case atStart => exact ⟨0, rfl, by omega, rfl, Below.refl _ _⟩
        case round =>
          obtain ⟨i, rfl, hi, hn', hbr⟩ := hrel
          obtain ⟨wo, rfl⟩ : ∃ wo, wo = wr := ⟨_, rfl⟩
          by_cases hlti : i < bs.length
          · have hltii : (i : Int) < (bs.length : Int) := by omega
            obtain ⟨bl, ol, rfl, hcl⟩ := HCL.out i hlti
            obtain ⟨bv, ov, rfl, hcv⟩ := HCV.out i hlti
            obtain ⟨b, o, rfl, _⟩ := HCB.out i hlti
            have HCLL : Hid (∀ j, j < bs.length → w2.cell? ⟨bl, ol + j, none⟩ = some (.int .i64 (bs.getD j 0))) := hcl
            have HCBB : Hid (∀ j, j < bs.length → w2.cell? ⟨b, o + j, none⟩ = some (.int .u8 (bs.getD j 0))) := fun j hj => by
              obtain ⟨b', o', h1, h2⟩ := HCB.out j hj
              injection h1 with h1; injection h1 with h3 h4
              rw [h3, h4]; exact h2
            have HCI : Hid (w2.cell? ⟨bl, ol + i, none⟩ = some (.int .i64 (bs.getD i 0))) := hcl i hlti
            have HCD : Hid (w2.cell? ⟨bv, ov + i, none⟩ = some (.int .i64 (out.getD i 0))) := hcv i hlti
            have HNE := Lib.hid (HNEW.out i hlti)
            have HOL := Lib.hid (HOLD.out i hlti)
            clear hcl hcv
            go_upto_region 17 with fail
            obtain ⟨wt, hwt⟩ : ∃ wt, wt = wo.alloc (.cells Try.zeroCells39 39) := ⟨_, rfl⟩
            have HMK : Hid (marks wt wo.heap.size (sg bs i 0)) := by show marks _ _ _; rw [hwt, sg_zero]; exact marks_new wo
            have hbt : Below w2.heap.size w2 wt := by rw [hwt]; exact hbr.alloc hbr.size _
            have hwz : w2.heap.size ≤ wo.heap.size := hbr.size
            rw [← hwt]
            clear hwt
            obtain ⟨p, hp⟩ : ∃ p, p = bs.getD i 0 := ⟨_, rfl⟩
            have HP := Lib.hid hp
            rw [← hp] at HCI HNE HOL
            obtain ⟨d, hd⟩ : ∃ d, d = out.getD i 0 := ⟨_, rfl⟩
            rw [← hd] at HCD HNE HOL
            clear hp hd
            go_wp2_with fail
            go_loopg [13, 14, 15] i (fun n s13 s14 s15 wr => ∃ (j m : Nat) (f : Bool), s15 = .int .i64 ((i : Int) - 1 - j) ∧ s14 = .bool f ∧ s13 = .int .i64 m ∧ j ≤ i ∧ m ≤ 200 ∧ Hid (n = i - j) ∧ Hid (f = true → ∃ pre seg, bs.take i = pre ++ p :: seg ∧ p ∉ seg ∧ m = (dis seg).length) ∧ Hid (f = false → p ∉ sg bs i j ∧ m = (dis (sg bs i j)).length ∧ marks wr wo.heap.size (sg bs i j)) ∧ Below w2.heap.size w2 wr)
            case atStart => exact ⟨0, 0, false, by go_num, rfl, rfl, by omega, by omega, rfl, fun h => (by cases h), fun _ => ⟨by rw [sg_zero]; simp, by rw [sg_zero]; rfl, HMK.out⟩, hbt⟩
            case round =>
              obtain ⟨j, m, f, rfl, rfl, rfl, hj, hm, hn3, hft, hff, hbx⟩ := hrel
              clear hbt
              have hcd := (hbx.cell (block_lt_of_cell HCD.out)).trans HCD.out
              have hcp := (hbx.cell (block_lt_of_cell HCI.out)).trans HCI.out
              cases f with
              | true =>
                obtain ⟨pre, seg, e1', e2', e3'⟩ := hft.out rfl
                have HO := HOL.out pre seg e1' e2'
                rw [← e3'] at HO
                obtain ⟨ho1, ho2⟩ := HO
                have hd2 : (d == -2) = false := by simpa using ho2
                clear e1' e2' e3' ho2 pre seg
                by_cases hlt' : (m : Int) < nn
                · obtain rfl := ho1.2 hlt'
                  clear ho1
                  by_cases hji : j < i
                  · have hq0 : 0 ≤ (i : Int) - 1 - j := by omega
                    clear hft hff
                    go_wp2_with fail
                    go_roundg (bs.length - (i + 1))
                    case rel => exact ⟨i + 1, by go_num, by omega, rfl, hbx⟩
                    case measure => have := hn'.out; omega
                  · have hq0 : (i : Int) - 1 - j < 0 := by omega
                    clear hft hff
                    go_wp2_with fail
                    go_roundg (bs.length - (i + 1))
                    case rel => exact ⟨i + 1, by go_num, by omega, rfl, hbx⟩
                    case measure => have := hn'.out; omega
                · have hd1 : (d == -1) = false := by simpa using fun e => hlt' (ho1.1 e)
                  clear ho1
                  by_cases hji : j < i
                  · have hq0 : 0 ≤ (i : Int) - 1 - j := by omega
                    clear hft hff
                    go_wp2_with fail
                    go_roundg (bs.length - (i + 1))
                    case rel => exact ⟨i + 1, by go_num, by omega, rfl, hbx⟩
                    case measure => have := hn'.out; omega
                  · have hq0 : (i : Int) - 1 - j < 0 := by omega
                    clear hft hff
                    go_wp2_with fail
                    go_roundg (bs.length - (i + 1))
                    case rel => exact ⟨i + 1, by go_num, by omega, rfl, hbx⟩
                    case measure => have := hn'.out; omega
              | false =>
                obtain ⟨hps, hmd, hmk⟩ := hff.out rfl
                by_cases hji : j < i
                · obtain ⟨q, hq⟩ : ∃ q : Nat, (i : Int) - 1 - j = q := ⟨i - 1 - j, by omega⟩
                  have hq' : q = i - 1 - j := by omega
                  have hqb : q < bs.length := by omega
                  have hqi : (q : Int) < (bs.length : Int) := by omega
                  have hcq := (hbx.cell (block_lt_of_cell (HCLL.out q hqb))).trans (HCLL.out q hqb)
                  have hcb := (hbx.cell (block_lt_of_cell (HCBB.out q hqb))).trans (HCBB.out q hqb)
                  have hr := HBR.out q hqb
                  have HSG : Hid (sg bs i (j + 1) = bs.getD q 0 :: sg bs i j) := by show _ = _; rw [hq']; exact sg_step hi hji
                  have HFD : Hid (bs.take i = (bs.take i).take (i - (j + 1)) ++ bs.getD q 0 :: sg bs i j) := by show _ = _; rw [hq']; exact sg_found hi hji
                  obtain ⟨y, hy⟩ : ∃ y : Nat, bs.getD q 0 = y := ⟨(bs.getD q 0).toNat, by omega⟩
                  rw [hy] at hcq hcb hr HSG HFD
                  have hy1 : y < 256 := by omega
                  have hy1i : (y : Int) < 256 := by omega
                  have HQ : Hid ((i : Int) - 1 - (j + 1 : Nat) = (q : Int) - 1) := by show _ = _; omega
                  have HQN : Hid (q = i - 1 - j) := hq'
                  rw [hq]
                  clear hq hq' hy hr
                  have HPS := Lib.hid hps
                  have HMD := Lib.hid hmd
                  have HMK' := Lib.hid hmk
                  clear hps hmd hmk
                  by_cases he : (y : Int) = p
                  · have hde : ((y : Int) == p) = true := by simpa using he
                    have HE := Lib.hid he
                    clear he
                    go_upto_region 21 with fail
                    go_quiet (fail)
                    go_wp2_with fail
                    go_roundg (i - (j + 1))
                    case rel => exact ⟨j + 1, m, true, by rw [HQ.out], rfl, rfl, by omega, by omega, rfl, fun _ => ⟨_, _, by rw [← HE.out]; exact HFD.out, HPS.out, HMD.out⟩, fun h => (by cases h), Below.drewN' hbx _⟩
                    case measure => have := hn3.out; omega
                  · have hde : ((y : Int) == p) = false := by simpa using he
                    have HNP : Hid (p ∉ sg bs i (j + 1)) := by
                      show ¬ _
                      rw [HSG.out]; simp only [List.mem_cons]
                      rintro (h | h)
                      · exact he h.symm
                      · exact HPS.out h
                    clear he
                    have hlen := dis_len_le (sg bs i (j + 1))
                    have hsl : (sg bs i (j + 1)).length ≤ 200 := by unfold sg; simp; omega
                    have hdc := dis_cons (y : Int) (sg bs i j)
                    rw [← HSG.out, ← HMD.out] at hdc
                    have hmc := HMK'.out
                    obtain ⟨hm1, hm2⟩ := hmc.cell hy1
                    by_cases hin : (y : Int) ∈ sg bs i j
                    · rw [decide_eq_true hin] at hm1
                      rw [if_pos hin] at hdc
                      have HMS : Hid (marks wr wo.heap.size (sg bs i (j + 1))) := hmc.congr fun x => by rw [HSG.out]; simp only [List.mem_cons]; exact ⟨fun h => h.elim (fun e => e ▸ hin) id, .inr⟩
                      have HDC := Lib.hid hdc
                      clear hin hdc hlen hsl hmc
                      go_upto_region 21 with fail
                      go_quiet (fail)
                      go_wp2_with fail
                      go_roundg (i - (j + 1))
                      case rel => exact ⟨j + 1, m, false, by rw [HQ.out], rfl, rfl, by omega, by omega, rfl, fun h => (by cases h), fun _ => ⟨HNP.out, HDC.out.symm, HMS.out⟩, Below.drewN' hbx _⟩
                      case measure => have := hn3.out; omega
                    · rw [decide_eq_false hin] at hm1
                      rw [if_neg hin] at hdc
                      have hm200 : m + 1 ≤ 200 := by omega
                      have HDC := Lib.hid hdc
                      clear hin hdc hlen hsl hmc
                      go_upto_region 21 with fail
                      go_quiet (fail)
                      have hm3 : ∀ u, (wr.drewN u).cell? ⟨wo.heap.size, y, none⟩ = some (.bool false) := fun _ => hm1
                      go_wp2_with fail
                      go_roundg (i - (j + 1))
                      case rel => exact ⟨j + 1, m + 1, false, by rw [HQ.out], rfl, by go_num, by omega, by omega, rfl, fun h => (by cases h), fun _ => ⟨HNP.out, HDC.out.symm, (by
                        have h1 : marks (wr.drewN nq) wo.heap.size (sg bs i j) := HMK'.out
                        exact h1.set hy1 fun x => by rw [HSG.out]; simp only [List.mem_cons]; exact or_comm)⟩, (Below.drewN' hbx nq).setCell (by simp; omega) _⟩
                      case measure => have := hn3.out; omega
                · have hq : (i : Int) - 1 - j = -1 := by omega
                  have HJ : Hid (j = i) := by show _ = _; omega
                  have hd2 : d = -2 := HNE.out (by have h := hps; rw [HJ.out, sg_all] at h; exact h)
                  rw [hq]
                  subst hd2
                  clear hq hps hmd hmk
                  go_wp2_with fail
                  go_roundg (bs.length - (i + 1))
                  case rel => exact ⟨i + 1, by go_num, by omega, rfl, hbx⟩
                  case measure => have := hn'.out; omega
          · go_wp2_with fail
            go_ret
            exact ⟨rfl, hbl2.trans (hbr.mono hbl2.size)⟩
end Go.Proofs.Ytbalmmaoiebppaa
