/- Check: walked; it answers what the plain function chkM says. Conditions: the numbers fit. -/
import Derived.Test.YtcmmoemmlellbaaPut
import Derived.Test.YtcmmoemmlellbaaCm
namespace Go.Proofs.Ytcmmoemmlellbaa
open Go.RowKit

theorem index_five (s : Nat → Value) (w : World) : ∀ k : Nat, k ≤ 4 → (Instr.index 23 (.agg #[s 0, s 1, s 2, s 3, s 4]) (.int .i64 (k : Int))).run Try.prog w = .ok (s k) w :=
  five (by kernel_rfl) (by kernel_rfl) (by kernel_rfl) (by kernel_rfl) (by kernel_rfl)

theorem rd.cell_keep {w w' : World} {b o : Nat} {xs : List Int} {i : Nat} (h : ∀ j, j < xs.length → w.cell? ⟨b, o + j, none⟩ = some (.int .i64 (xs.getD j 0))) (hi : i < xs.length) (hb : Below w.heap.size w w') : w'.cell? ⟨b, o + i, none⟩ = some (.int .i64 (xs.getD i 0)) :=
  (hb.cell (p := ⟨b, o + i, none⟩) (block_lt_of_cell (h i hi))).trans (h i hi)

theorem boxed.head {w : World} {B : Nat} {z : Zh} {s : Nat → Value} (h : boxed w B z s) :
    w.cell? ⟨B, 0, none⟩ = some (.int .i64 z.nd) ∧ w.cell? ⟨B, 1, none⟩ = some (.int .i64 z.kd) ∧ w.cell? ⟨B, 2, none⟩ = some (.int .i64 z.st) ∧ w.cell? ⟨B, 3, none⟩ = some (.int .i64 z.ct) ∧ w.cell? ⟨B, 4, none⟩ = some (.int .i64 z.mn) ∧
    w.cell? ⟨B, 5, none⟩ = some (s 0) ∧ w.cell? ⟨B, 6, none⟩ = some (s 1) ∧ w.cell? ⟨B, 7, none⟩ = some (s 2) ∧ w.cell? ⟨B, 8, none⟩ = some (s 3) ∧ w.cell? ⟨B, 9, none⟩ = some (s 4) := by
  refine ⟨?_, ?_, ?_, ?_, ?_, ?_, ?_, ?_, ?_, ?_⟩ <;> (rw [cell_of_block h]; simp)

/-- the size of a block -/
def pw (k : Nat) : Int := 2 ^ k
theorem pw_eq (k : Nat) : pw k = 2 ^ k := rfl
theorem pw_bounds {k : Nat} (hk : k ≤ 4) : 1 ≤ pw k ∧ pw k ≤ 16 := by
  unfold pw
  rcases pow_cases hk with ⟨e, _⟩ | ⟨e, _⟩ | ⟨e, _⟩ | ⟨e, _⟩ | ⟨e, _⟩ <;> omega
theorem wrap_pow (k : Nat) (hk : k ≤ 4) : wrap64 (2 ^ k) = pw k := by
  rw [← pw_eq]; have := pw_bounds hk; unfold wrap64; omega
attribute [local go_sem] wrap_pow
theorem bits_pw {f : Int} {k : Nat} (h0 : 0 ≤ f) (h1 : f < 256) (hk : k ≤ 4) (hm : f % 2 ^ k = 0) : bits BinOp.xor IntKind.i64 f (pw k) = bud f k := by
  rw [← wrap_pow k hk]; exact bits_bud h0 h1 hk hm

/-- block B is the array of marks: a mark for each of P -/
def marks (w : World) (B : Nat) (P : List Int) : Prop := ∃ C, w.heap[B]? = some (.cells C 58 (0, 0)) ∧ C.size = 256 ∧ ∀ j : Nat, j < 256 → C[j]? = some (.bool (decide ((j : Int) ∈ P)))

theorem zeroCells_marks : Try.zeroCells58 = Array.replicate 256 (Value.bool false) := by kernel_rfl
theorem marks_new (w : World) : marks (w.alloc (.cells Try.zeroCells58 58)) w.heap.size [] := by
  refine ⟨_, alloc_at w _, ?_, fun j hj => ?_⟩
  · rw [zeroCells_marks]; simp
  · rw [zeroCells_marks]; simp [hj]
theorem marks.cell {w : World} {B : Nat} {P : List Int} (h : marks w B P) {j : Nat} (hj : j < 256) : w.cell? ⟨B, j, none⟩ = some (.bool (decide ((j : Int) ∈ P))) := by
  obtain ⟨C, h1, h2, h3⟩ := h; rw [cell_of_block h1]; exact h3 j hj
theorem marks.set {w : World} {B : Nat} {P : List Int} (h : marks w B P) {j : Nat} (hj : j < 256) : marks (w.setCell ⟨B, j, none⟩ (.bool true)) B (P ++ [(j : Int)]) := by
  obtain ⟨C, h1, h2, h3⟩ := h
  refine ⟨_, heap_setCell_at h1 j _, by simpa using h2, fun i hi => ?_⟩
  rw [Array.getElem?_setIfInBounds]
  by_cases e : j = i
  · subst e; rw [if_pos rfl, if_pos (by omega)]; simp
  · rw [if_neg e, h3 i hi]; congr 2; simp; omega

set_option maxRecDepth 100000 in
set_option maxHeartbeats 1000000 in
theorem check_bad (z : Zh) (s : Nat → Value) (w : World) (hz : z.fits) (hb : z.ok = false) :
    Calls Try.prog 16 #[zv z s] w fun e w' => e = .returned (.int .i64 2) ∧ Below w.heap.size w w' := by
  unfold zv
  go_enter Try.func16, Try.ntmps16
  go_wp2_with (go_at_call 41; refine (ranges_any z s _ hz).mono ?_; rintro e w1 ⟨rfl, hb1⟩)
  go_ret
  exact ⟨rfl, ((Below.refl _ w).alloc (Nat.le_refl _) _).trans (hb1.mono (by simp))⟩

set_option maxRecDepth 100000 in
set_option maxHeartbeats 1000000 in
theorem check_main (z : Zh) (s : Nat → Value) (L : FL) (w : World) (hz : z.fits) (hok : z.ok = true) (hrd : rdZ w s L) (hfit : ∀ k, k ≤ 4 → ∀ x, x ∈ L k → fits x) :
    Calls Try.prog 16 #[zv z s] w fun e w' => e = .returned (.int .i64 (chkM z L)) ∧ Below w.heap.size w w' := by
  have HR := Lib.hid hrd; clear hrd
  have HF := Lib.hid hfit; clear hfit
  have HOK := Lib.hid hok
  unfold zv
  go_enter Try.func16, Try.ntmps16
  go_upto_region 3 with (go_at_call 41; refine (ranges_any z s _ hz).mono ?_; rintro e w1 ⟨rfl, hb1⟩)
  have hbx : boxed w1 w.heap.size z s := (hb1.block w.heap.size (by simp)).trans (heap_alloc_new w _)
  obtain ⟨c0, c1, c2, c3, c4, c5, c6, c7, c8, c9⟩ := hbx.head
  have hbel := ((Below.refl _ w).alloc (Nat.le_refl _) (.cells #[.int .i64 z.nd, .int .i64 z.kd, .int .i64 z.st, .int .i64 z.ct, .int .i64 z.mn, s 0, s 1, s 2, s 3, s 4] 25)).trans (hb1.mono (by simp))
  have hsz : w.heap.size + 1 ≤ w1.heap.size := by have := hb1.size; simpa using this
  have HB := Lib.hid hbx; clear hbx hb1
  go_upto_block 0 with (fail)
  clear c0 c1 c2 c3 c4 c5 c6 c7 c8 c9
  go_cut [] from 24 to 52 (fun wx => Hid (scanZ z L 5 0 = 0) ∧ Hid (boxed wx w.heap.size z s) ∧ w.heap.size + 1 ≤ wx.heap.size ∧ Below w.heap.size w wx)
  case first =>
    go_wp2_with fail
    go_loopg [24] 5 (fun n s24 wr => ∃ k : Nat, s24 = .int .i64 k ∧ k ≤ 5 ∧ Hid (n = 5 - k) ∧ Hid (scanZ z L (5 - k) k = scanZ z L 5 0) ∧ Hid (boxed wr w.heap.size z s) ∧ w.heap.size + 1 ≤ wr.heap.size ∧ Below w.heap.size w wr)
    case atStart => exact ⟨0, rfl, by omega, rfl, rfl, HB.out, hsz, hbel⟩
    case round =>
      obtain ⟨k, rfl, hk, hn, hsc, hbx, hsz', hbl⟩ := hrel
      by_cases hk5 : k < 5
      · have hk4 : k ≤ 4 := by omega
        obtain ⟨a, c, hs, hlen, hcell⟩ := (HR.out k hk4).split
        have hd5 : decide ((k : Int) < 5) = true := by simp; omega
        have hidx := fun w' => (index_five s w' k hk4).trans (by rw [hs])
        have HC := Lib.hid hcell; clear hcell
        have HL : Hid (s k = .slice a (L k).length c) := hs
        clear hs
        go_wp2_with fail
        clear hidx
        go_loopg [30] (L k).length (fun n s30 wr' => ∃ i : Nat, s30 = .int .i64 i ∧ i ≤ (L k).length ∧ Hid (n = (L k).length - i) ∧ Hid (scanF z k (L k) ((L k).length - i) i = scanF z k (L k) (L k).length 0) ∧ Hid (boxed wr' w.heap.size z s) ∧ w.heap.size + 1 ≤ wr'.heap.size ∧ Below w.heap.size w wr')
        case atStart => exact ⟨0, rfl, by omega, rfl, rfl, hbx.out, hsz', hbl⟩
        case round =>
          obtain ⟨i, rfl, hi, hn', hsf, hbx', hsz'', hbl'⟩ := hrel
          by_cases hlt : i < (L k).length
          · obtain ⟨b, o, rfl, hcl⟩ := HC.out i hlt
            obtain ⟨x, hx⟩ : ∃ x, x = (L k).getD i 0 := ⟨_, rfl⟩
            have hfi : fits x := hx ▸ HF.out k hk4 _ (by rw [getD_eq hlt]; exact List.getElem_mem hlt)
            have hfi1 := hfi.1
            have hfi2 := hfi.2
            have hci := rd.cell_keep hcl hlt hbl'
            rw [← hx] at hci
            have HX := Lib.hid hx; clear hx
            have hb1 := hbx'.out
            obtain ⟨c0, c1, c2, c3, c4, c5, c6, c7, c8, c9⟩ := hbx'.out.head
            by_cases hin : insB z x k = true
            · have hin' := Lib.hid hin
              by_cases h0 : 0 < i
              · obtain ⟨y, hy⟩ : ∃ y, y = (L k).getD (i - 1) 0 := ⟨_, rfl⟩
                have hcp := rd.cell_keep hcl (show i - 1 < (L k).length by omega) hbl'
                rw [← hy] at hcp
                have HY := Lib.hid hy; clear hy
                clear hcl
                by_cases hle : x ≤ y
                · have HS : Hid (scanF z k (L k) (L k).length 0 = 10) := by
                    have h1 := hsf.out; rw [scanF_step hlt, ← HX.out, ← HY.out, hin, if_neg (by simp), if_pos ⟨h0, hle⟩] at h1; exact h1.symm
                  go_wp2_with (go_at_call 42; with_reducible refine (inside_any z s x k _ HOK.out hfi hk4).mono ?_; rintro e w2 ⟨rfl, hb2⟩; have hcp2 := (hb2.cell (block_lt_of_cell hcp)).trans hcp)
                  go_ret
                  exact ⟨ret_int (chk_scan HOK.out hk5 hsc.out HS.out (by omega)).symm, hbl'.trans (hb2.mono (by omega))⟩
                · have HS : Hid (scanF z k (L k) ((L k).length - (i + 1)) (i + 1) = scanF z k (L k) (L k).length 0) := by
                    have h1 := hsf.out; rw [scanF_step hlt, ← HX.out, ← HY.out, hin, if_neg (by simp), if_neg (fun h => hle h.2)] at h1; exact h1
                  go_wp2_with (go_at_call 42; with_reducible refine (inside_any z s x k _ HOK.out hfi hk4).mono ?_; rintro e w2 ⟨rfl, hb2⟩; have hcp2 := (hb2.cell (block_lt_of_cell hcp)).trans hcp)
                  go_roundg ((L k).length - (i + 1))
                  case rel => exact ⟨i + 1, by go_num, by omega, rfl, HS.out, (hb2.block _ (lt_of_block hb1)).trans hb1, Nat.le_trans hsz'' hb2.size, hbl'.trans (hb2.mono (by omega))⟩
                  case measure => have := hn'.out; omega
              · have HS : Hid (scanF z k (L k) ((L k).length - (i + 1)) (i + 1) = scanF z k (L k) (L k).length 0) := by
                  have h1 := hsf.out; rw [scanF_step hlt, ← HX.out, hin, if_neg (by simp), if_neg (fun h => h0 h.1)] at h1; exact h1
                clear hcl
                go_wp2_with (go_at_call 42; with_reducible refine (inside_any z s x k _ HOK.out hfi hk4).mono ?_; rintro e w2 ⟨rfl, hb2⟩)
                go_roundg ((L k).length - (i + 1))
                case rel => exact ⟨i + 1, by go_num, by omega, rfl, HS.out, (hb2.block _ (lt_of_block hb1)).trans hb1, Nat.le_trans hsz'' hb2.size, hbl'.trans (hb2.mono (by omega))⟩
                case measure => have := hn'.out; omega
            · have hin' : insB z x k = false := by simpa using hin
              have HS : Hid (scanF z k (L k) (L k).length 0 = 3) := by
                have h1 := hsf.out; rw [scanF_step hlt, ← HX.out, if_pos hin'] at h1; exact h1.symm
              clear hcl hin
              go_wp2_with (go_at_call 42; with_reducible refine (inside_any z s x k _ HOK.out hfi hk4).mono ?_; rintro e w2 ⟨rfl, hb2⟩)
              go_ret
              exact ⟨ret_int (chk_scan HOK.out hk5 hsc.out HS.out (by omega)).symm, hbl'.trans (hb2.mono (by omega))⟩
          · have HS : Hid (scanZ z L (5 - (k + 1)) (k + 1) = scanZ z L 5 0) := by
              have h1 := hsf.out; rw [show (L k).length - i = 0 by omega, scanF] at h1
              exact (scanZ_step hk5 h1.symm).symm.trans hsc.out
            go_wp2_with fail
            go_roundg (5 - (k + 1))
            case rel => exact ⟨k + 1, by go_num, by omega, rfl, HS.out, hbx'.out, hsz'', hbl'⟩
            case measure => have := hn.out; omega
      · have HS : Hid (scanZ z L 5 0 = 0) := by
          have h1 := hsc.out; rw [show 5 - k = 0 by omega, scanZ] at h1; exact h1.symm
        go_wp2_with fail
        go_meet
        case rel => exact ⟨HS.out, hbx.out, hsz', hbl⟩
  case rest =>
    obtain ⟨hscan, hbx, hsz', hbl⟩ := hcut
    obtain ⟨c0, c1, c2, c3, c4, c5, c6, c7, c8, c9⟩ := hbx.out.head
    go_upto_region 16 with (fail)
    obtain ⟨w2, hw2⟩ : ∃ w2, w2 = wc.alloc (.cells Try.zeroCells58 58) := ⟨_, rfl⟩
    have hmk : marks w2 wc.heap.size [] := by rw [hw2]; exact marks_new wc
    have hbx2 : boxed w2 w.heap.size z s := by rw [hw2]; exact (Below.heap_alloc wc _ _ (lt_of_block hbx.out)).trans hbx.out
    have hbl2 : Below w.heap.size w w2 := by rw [hw2]; exact hbl.alloc (by omega) _
    have hsz2 : wc.heap.size < w2.heap.size := by rw [hw2]; simp
    rw [← hw2]
    have HM := Lib.hid hmk
    have HBX := Lib.hid hbx2
    clear hw2 hmk c0 c1 c2 c3 c4 c5 c6 c7 c8 c9
    obtain ⟨c0, c1, c2, c3, c4, c5, c6, c7, c8, c9⟩ := hbx2.head
    clear hbx2
    go_upto_block 4 with (fail)
    clear c0 c1 c2 c3 c4 c5 c6 c7 c8 c9
    have HV := Lib.hid ((scanZ_zero 5 0).1 hscan.out)
    have hzz := Zh.ok_iff.1 HOK.out
    have hz1 : 0 ≤ z.st := by omega
    have hz2 : z.st + z.ct ≤ 256 := by omega
    clear hzz
    go_cut [] from 55 to 80 (fun wx => Hid ((frs L).Nodup) ∧ Hid (boxed wx w.heap.size z s) ∧ w.heap.size + 1 ≤ wx.heap.size ∧ Below w.heap.size w wx)
    case first =>
      go_wp2_with fail
      go_loopg [55] 5 (fun n s55 wr => ∃ k : Nat, s55 = .int .i64 k ∧ k ≤ 5 ∧ Hid (n = 5 - k) ∧ Hid ((frsTo L k).Nodup) ∧ Hid (marks wr wc.heap.size (frsTo L k)) ∧ Hid (boxed wr w.heap.size z s) ∧ wc.heap.size < wr.heap.size ∧ Below w.heap.size w wr)
      case atStart => exact ⟨0, rfl, by omega, rfl, by simp [Hid, frsTo], HM.out, HBX.out, hsz2, hbl2⟩
      case round =>
        obtain ⟨k, rfl, hk, hn, hnd, hmk, hbx, hszr, hbl⟩ := hrel
        by_cases hk5 : k < 5
        · have hk4 : k ≤ 4 := by omega
          obtain ⟨a, c, hs, hlen, hcell⟩ := (HR.out k hk4).split
          have hd5 : decide ((k : Int) < 5) = true := by simp; omega
          have hidx := fun w' => (index_five s w' k hk4).trans (by rw [hs])
          have HC := Lib.hid hcell; clear hcell
          have HL : Hid (s k = .slice a (L k).length c) := hs
          clear hs
          go_wp2_with fail
          clear hidx
          go_loopg [61] (L k).length (fun n s61 wr' => ∃ i : Nat, s61 = .int .i64 i ∧ i ≤ (L k).length ∧ Hid (n = (L k).length - i) ∧ Hid ((P2 L k i).Nodup) ∧ Hid (marks wr' wc.heap.size (P2 L k i)) ∧ Hid (boxed wr' w.heap.size z s) ∧ wc.heap.size < wr'.heap.size ∧ Below w.heap.size w wr')
          case atStart => exact ⟨0, rfl, by omega, rfl, by rw [P2_zero]; exact hnd, by rw [P2_zero]; exact hmk, hbx, hszr, hbl⟩
          case round =>
            obtain ⟨i, rfl, hi, hn', hnd', hmk', hbx', hszr', hbl'⟩ := hrel
            by_cases hlt : i < (L k).length
            · obtain ⟨b, o, rfl, hcl⟩ := HC.out i hlt
              obtain ⟨x, hx⟩ : ∃ x, x = (L k).getD i 0 := ⟨_, rfl⟩
              have hin : insB z x k = true := (HV.out k (by omega) (by omega)).1 x (by rw [hx, getD_eq hlt]; exact List.getElem_mem hlt)
              have hci := rd.cell_keep hcl hlt hbl'
              rw [← hx] at hci
              have hii := insB_iff.1 hin
              rw [← pw_eq] at hii
              have hp1 := (pw_bounds hk4).1
              have hp16 := (pw_bounds hk4).2
              have hx0 : 0 ≤ x := by omega
              have hx1 : x + pw k ≤ 256 := by omega
              have HX : Hid (x = (L k).getD i 0 ∧ pw k = 2 ^ k) := ⟨hx, rfl⟩
              clear hx hii hin hcl
              go_wp2_with fail
              go_loopg [12] (2 ^ k) (fun n s12 wt => ∃ (t q : Nat), s12 = .int .i64 q ∧ Hid ((q : Int) = x + t ∧ n = 2 ^ k - t) ∧ (q : Int) ≤ x + pw k ∧ x ≤ q ∧ Hid ((P3 L k i x t).Nodup) ∧ Hid (marks wt wc.heap.size (P3 L k i x t)) ∧ Hid (boxed wt w.heap.size z s) ∧ wc.heap.size < wt.heap.size ∧ Below w.heap.size w wt)
              case atStart => exact ⟨0, x.toNat, by go_num, ⟨by omega, rfl⟩, by omega, by omega, by rw [P3_zero]; exact hnd', by rw [P3_zero]; exact hmk', hbx', hszr', hbl'⟩
              case round =>
                obtain ⟨t, q, rfl, hq, hq1, hq2, hnd3, hmk3, hbx3, hszr3, hbl3⟩ := hrel
                have hpk : pw k = ((2 ^ k : Nat) : Int) := by rw [HX.out.2]; simp
                have HP := Lib.hid hpk; clear hpk
                by_cases hqp : (q : Int) < x + pw k
                · have htk : Hid (t < 2 ^ k) := by have h1 := hq.out.1; have h2 := HP.out; show t < 2 ^ k; omega
                  have hq256 : q < 256 := by omega
                  have hcq := hmk3.out.cell hq256
                  have hfq : wr.frozen? ⟨wc.heap.size, q, none⟩ = false := by obtain ⟨C, h1, _⟩ := hmk3.out; exact frozen_of_block h1 q
                  have hq256' : (q : Int) < 256 := by omega
                  by_cases hmem : (q : Int) ∈ P3 L k i x t
                  · have HN : Hid (¬ (frs L).Nodup) := by
                      refine dup_frs hk5 hlt htk.out ?_
                      rw [← HX.out.1, ← hq.out.1]; exact hmem
                    go_wp2_with fail
                    go_ret
                    exact ⟨ret_int (chk_dup HOK.out hscan.out HN.out).symm, hbl3⟩
                  · have hset := hmk3.out.set hq256
                    have HS := Lib.hid hset; clear hset
                    go_wp2_with fail
                    go_roundg (2 ^ k - (t + 1))
                    case rel =>
                      exact ⟨t + 1, q + 1, by go_num, ⟨by have := hq.out.1; omega, rfl⟩, by omega, by omega, by rw [P3_step htk.out, ← hq.out.1]; exact nodup_snoc hnd3.out hmem, by rw [P3_step htk.out, ← hq.out.1]; exact HS.out,
                        (Below.heap_setCell _ _ _ _ (by simp; omega)).trans hbx3.out, by simpa [World.setCell] using hszr3, hbl3.setCell (by simp; omega) _⟩
                    case measure => have h1 := hq.out.2; have h2 := htk.out; omega
                · have htk : Hid (2 ^ k ≤ t) := by have h1 := hq.out.1; have h2 := HP.out; show 2 ^ k ≤ t; omega
                  have HD : Hid (P3 L k i x t = P2 L k (i + 1)) := by rw [HX.out.1]; exact P3_done hlt htk.out
                  go_wp2_with fail
                  go_roundg ((L k).length - (i + 1))
                  case rel => exact ⟨i + 1, by go_num, by omega, rfl, HD.out ▸ hnd3.out, HD.out ▸ hmk3.out, hbx3.out, hszr3, hbl3⟩
                  case measure => have := hn'.out; omega
            · have HD : Hid (P2 L k i = frsTo L (k + 1)) := P2_done L k (by omega)
              go_wp2_with fail
              go_roundg (5 - (k + 1))
              case rel => exact ⟨k + 1, by go_num, by omega, rfl, HD.out ▸ hnd'.out, HD.out ▸ hmk'.out, hbx'.out, hszr', hbl'⟩
              case measure => have := hn.out; omega
        · have HD : Hid (k = 5) := (show k = 5 by omega)
          go_wp2_with fail
          go_meet
          case rel => exact ⟨by have h1 := hnd.out; rw [HD.out] at h1; exact h1, hbx.out, by omega, hbl⟩
    case rest =>
      obtain ⟨hnd, hbx, hsz', hbl⟩ := hcut
      have HS := Lib.hid (chk_pair HOK.out hscan.out hnd.out)
      go_wp2_with fail
      go_loopg [81] 4 (fun n s81 wr => ∃ k : Nat, s81 = .int .i64 k ∧ k ≤ 4 ∧ Hid (n = 4 - k) ∧ Hid (∀ j, j < k → pairL z L j = false) ∧ Hid (boxed wr w.heap.size z s) ∧ w.heap.size + 1 ≤ wr.heap.size ∧ Below w.heap.size w wr)
      case atStart => exact ⟨0, rfl, by omega, rfl, fun j hj => by omega, hbx.out, hsz', hbl⟩
      case round =>
        obtain ⟨k, rfl, hk, hn, hpl, hbx, hszr, hbl⟩ := hrel
        by_cases hk3 : k < 4
        · obtain ⟨a, c, hs, hlen, hcell⟩ := (HR.out k hk).split
          have hd4 : decide ((k : Int) < 4) = true := by simp; omega
          have hfl := box_field hbx.out k hk
          rw [hs] at hfl
          have HC := Lib.hid hcell; clear hcell
          have HL : Hid (s k = .slice a (L k).length c) := hs
          clear hs
          have hl256 := list_len HOK.out (HV.out k (by omega) (by omega)).1 (HV.out k (by omega) (by omega)).2
          go_wp2_with fail
          clear hfl
          go_loopg [89] (L k).length (fun n s89 wr' => ∃ i : Nat, s89 = .int .i64 i ∧ i ≤ (L k).length ∧ Hid (n = (L k).length - i) ∧ Hid (∀ j, j < i → pairAt z L k ((L k).getD j 0) = false) ∧ Hid (boxed wr' w.heap.size z s) ∧ w.heap.size + 1 ≤ wr'.heap.size ∧ Below w.heap.size w wr')
          case atStart => exact ⟨0, rfl, by omega, rfl, fun j hj => by omega, hbx, hszr, hbl⟩
          case round =>
            obtain ⟨i, rfl, hi, hn', hpa, hbx', hszr', hbl'⟩ := hrel
            by_cases hlt : i < (L k).length
            · obtain ⟨b, o, rfl, hcl⟩ := HC.out i hlt
              obtain ⟨x, hx⟩ : ∃ x, x = (L k).getD i 0 := ⟨_, rfl⟩
              have hin : insB z x k = true := (HV.out k (by omega) (by omega)).1 x (by rw [hx, getD_eq hlt]; exact List.getElem_mem hlt)
              have hci := rd.cell_keep hcl hlt hbl'
              rw [← hx] at hci
              have hii := insB_iff.1 hin
              have hp := pow_pos' k
              have hbc := bud_cases hk hii.2.1
              have hbx0 : 0 - 16 ≤ bud x k ∧ bud x k ≤ 300 := by rcases pow_cases hk with ⟨e, _⟩ | ⟨e, _⟩ | ⟨e, _⟩ | ⟨e, _⟩ | ⟨e, _⟩ <;> rw [e] at hbc hii <;> omega
              have hx0 : 0 ≤ x := by omega
              have hx1 : x ≤ 255 := by omega
              have hbits := bits_pw hx0 (by omega) hk hii.2.1
              have HX : Hid (x = (L k).getD i 0) := hx
              have hfl := box_field hbx'.out k hk
              rw [HL.out] at hfl
              have hrd : rd wr (.slice (some ⟨b, o, none⟩) (L k).length c) (L k) := by rw [← HL.out]; exact ((HR.out k hk).below hbl')
              have HRD := Lib.hid hrd
              clear hx hii hin hcl hp hbc hrd
              by_cases hmem : bud x k ∈ L k
              · by_cases hu : insB z (min x (bud x k)) (k + 1) = true
                · have HB : Hid (pairB z L = true) := pairB_true hk3 hlt (by rw [← HX.out]; unfold pairAt; rw [hu]; simpa using hmem)
                  go_wp2_with (first | (go_at_call 43; with_reducible refine (search_any _ (L k) (bud x k) _ HRD.out (HV.out k (by omega) (by omega)).2 (by omega)).mono ?_; rintro e w2 ⟨rfl, hb2⟩; have hbx2 := (hb2.block _ (lt_of_block hbx'.out)).trans hbx'.out; obtain ⟨c0, c1, c2, c3, c4, c5, c6, c7, c8, c9⟩ := boxed.head hbx2; have HBX2 := Lib.hid hbx2; clear hbx2) | (go_at_call 42; refine (inside_any z s (min x (bud x k)) (k + 1) _ HOK.out (by unfold fits; omega) (by omega)).mono ?_; rintro e w3 ⟨rfl, hb3⟩))
                  go_ret
                  exact ⟨ret_int (by rw [HS.out, HB.out]; rfl), (hbl'.trans (hb2.mono (by omega))).trans (hb3.mono (Nat.le_trans (by omega) hb2.size))⟩
                · have hu' : insB z (min x (bud x k)) (k + 1) = false := by simpa using hu
                  have HP : Hid (∀ j, j < i + 1 → pairAt z L k ((L k).getD j 0) = false) := fun j hj => by
                    by_cases e : j = i
                    · rw [e, ← HX.out]; unfold pairAt; rw [hu']; simp
                    · exact hpa.out j (by omega)
                  clear hu
                  go_wp2_with (first | (go_at_call 43; with_reducible refine (search_any _ (L k) (bud x k) _ HRD.out (HV.out k (by omega) (by omega)).2 (by omega)).mono ?_; rintro e w2 ⟨rfl, hb2⟩; have hbx2 := (hb2.block _ (lt_of_block hbx'.out)).trans hbx'.out; obtain ⟨c0, c1, c2, c3, c4, c5, c6, c7, c8, c9⟩ := boxed.head hbx2; have HBX2 := Lib.hid hbx2; clear hbx2) | (go_at_call 42; refine (inside_any z s (min x (bud x k)) (k + 1) _ HOK.out (by unfold fits; omega) (by omega)).mono ?_; rintro e w3 ⟨rfl, hb3⟩))
                  go_roundg ((L k).length - (i + 1))
                  case rel => exact ⟨i + 1, by go_num, by omega, rfl, HP.out, (hb3.block _ (lt_of_block HBX2.out)).trans HBX2.out, Nat.le_trans hszr' (Nat.le_trans hb2.size hb3.size), (hbl'.trans (hb2.mono (by omega))).trans (hb3.mono (Nat.le_trans (by omega) hb2.size))⟩
                  case measure => have := hn'.out; omega
              · have HP : Hid (∀ j, j < i + 1 → pairAt z L k ((L k).getD j 0) = false) := fun j hj => by
                  by_cases e : j = i
                  · rw [e, ← HX.out]; unfold pairAt; simp [hmem]
                  · exact hpa.out j (by omega)
                go_wp2_with (go_at_call 43; with_reducible refine (search_any _ (L k) (bud x k) _ HRD.out (HV.out k (by omega) (by omega)).2 (by omega)).mono ?_; rintro e w2 ⟨rfl, hb2⟩; have hbx2 := (hb2.block _ (lt_of_block hbx'.out)).trans hbx'.out; obtain ⟨c0, c1, c2, c3, c4, c5, c6, c7, c8, c9⟩ := boxed.head hbx2; have HBX2 := Lib.hid hbx2; clear hbx2)
                go_roundg ((L k).length - (i + 1))
                case rel => exact ⟨i + 1, by go_num, by omega, rfl, HP.out, HBX2.out, Nat.le_trans hszr' hb2.size, hbl'.trans (hb2.mono (by omega))⟩
                case measure => have := hn'.out; omega
            · have HP : Hid (∀ j, j < k + 1 → pairL z L j = false) := fun j hj => by
                by_cases e : j = k
                · subst e; exact pairL_false fun i' hi' => hpa.out i' (by omega)
                · exact hpl.out j (by omega)
              go_wp2_with fail
              go_roundg (4 - (k + 1))
              case rel => exact ⟨k + 1, by go_num, by omega, rfl, HP.out, hbx'.out, hszr', hbl'⟩
              case measure => have := hn.out; omega
        · have HB : Hid (pairB z L = false) := pairB_false fun j hj => hpl.out j (by omega)
          go_wp2_with fail
          go_ret
          exact ⟨ret_int (by rw [HS.out, HB.out]; rfl), hbl⟩

/-- Check answers what chkM says -/
theorem check_any (z : Zh) (s : Nat → Value) (L : FL) (w : World) (hz : z.fits) (hrd : rdZ w s L) (hfit : ∀ k, k ≤ 4 → ∀ x, x ∈ L k → fits x) :
    Calls Try.prog 16 #[zv z s] w fun e w' => e = .returned (.int .i64 (chkM z L)) ∧ Below w.heap.size w w' := by
  by_cases hok : z.ok = true
  · exact check_main z s L w hz hok hrd hfit
  · have hb : z.ok = false := by simpa using hok
    refine (check_bad z s w hz hb).mono fun e w' h => ⟨h.1.trans (ret_int ?_), h.2⟩
    unfold chkM; rw [if_pos hb]

theorem Valid.fits {z : Zh} {L : FL} (v : Valid z L) (hz : z.ok = true) : ∀ k, k ≤ 4 → ∀ x, x ∈ L k → fits x := fun k hk x hx => by
  have hz' := Zh.ok_iff.1 hz
  have := insB_iff.1 (v.ins k hk x hx)
  have := pow_pos' k
  unfold Go.Proofs.Ytcmmoemmlellbaa.fits; omega
theorem Zh.fits_of_ok {z : Zh} (hz : z.ok = true) : z.fits := by
  have hz' := Zh.ok_iff.1 hz
  unfold Zh.fits Go.Proofs.Ytcmmoemmlellbaa.fits; omega

/-- Check of a valid zone -/
theorem check_ok (z : Zh) (s : Nat → Value) (L : FL) (w : World) (hz : z.ok = true) (v : Valid z L) (hrd : rdZ w s L) :
    Calls Try.prog 16 #[zv z s] w fun e w' => e = .returned (.int .i64 0) ∧ Below w.heap.size w w' :=
  (check_any z s L w (Zh.fits_of_ok hz) hrd (v.fits hz)).mono fun _ _ h => ⟨h.1.trans (ret_int (chkM_zero.2 ⟨hz, v⟩)), h.2⟩
end Go.Proofs.Ytcmmoemmlellbaa
