/- The reference's with: the canonical free lists of a set: walked. Conditions: the zone is in range. -/
import Derived.Test.YtcmmoemmlellbaaWj
import Derived.Deep.RegionLaw
import Derived.StillTailTactics
import Derived.OwnWalk
import Derived.Lib.SmallJoins
namespace Go.Proofs.Ytcmmoemmlellbaa
open Go.RowKit
attribute [local go_sem] wrap_pow

theorem WI.start (w : World) (z : Zh) (s : Nat → Value) : WI w ((((w.alloc (.cells #[.int .i64 z.nd, .int .i64 z.kd, .int .i64 z.st, .int .i64 z.ct, .int .i64 z.mn, s 0, s 1, s 2, s 3, s 4] 25)).alloc (.cells #[.int .i64 0, .int .i64 0, .int .i64 0, .int .i64 0, .int .i64 0, .slice none 0 0, .slice none 0 0, .slice none 0 0, .slice none 0 0, .slice none 0 0] 25)).alloc (.cells #[.int .i64 z.nd, .int .i64 z.kd, .int .i64 z.st, .int .i64 z.ct, .int .i64 z.mn, .slice none 0 0, .slice none 0 0, .slice none 0 0, .slice none 0 0, .slice none 0 0] 25)).alloc (.cells (Array.replicate 256 (.int .i64 0)) 3)) z s (fun _ => []) nilS (fun _ => 0) := by
  have hb : ∀ (x : World) (A : Obj), Below x.heap.size x (x.alloc A) := fun x A => (Below.refl _ x).alloc (Nat.le_refl _) _
  have hsz : ∀ (x : World) (A : Obj), (x.alloc A).heap.size = x.heap.size + 1 := fun x A => by simp
  generalize hA : (Obj.cells #[.int .i64 z.nd, .int .i64 z.kd, .int .i64 z.st, .int .i64 z.ct, .int .i64 z.mn, s 0, s 1, s 2, s 3, s 4] 25) = A
  generalize hB : (Obj.cells #[.int .i64 0, .int .i64 0, .int .i64 0, .int .i64 0, .int .i64 0, .slice none 0 0, .slice none 0 0, .slice none 0 0, .slice none 0 0, .slice none 0 0] 25) = B
  generalize hC : (Obj.cells #[.int .i64 z.nd, .int .i64 z.kd, .int .i64 z.st, .int .i64 z.ct, .int .i64 z.mn, .slice none 0 0, .slice none 0 0, .slice none 0 0, .slice none 0 0, .slice none 0 0] 25) = C
  have e1 : (w.alloc A).heap[w.heap.size]? = some A := alloc_at w A
  have e2 : ((w.alloc A).alloc B).heap[w.heap.size + 1]? = some B := by have := alloc_at (w.alloc A) B; rw [hsz] at this; exact this
  have e3 : (((w.alloc A).alloc B).alloc C).heap[w.heap.size + 2]? = some C := by have := alloc_at ((w.alloc A).alloc B) C; rw [hsz, hsz] at this; exact this
  have e4 := rowI_new (((w.alloc A).alloc B).alloc C)
  rw [hsz, hsz, hsz] at e4
  refine ⟨?_, ?_, ?_, e4, fun k _ => World.ownsRow_nil _ _ _ _, fun j k _ _ _ b h => (by cases h), ?_⟩
  · exact ((hb _ _).block _ (by rw [hsz, hsz, hsz]; omega)).trans (((hb _ _).block _ (by rw [hsz, hsz]; omega)).trans (((hb _ _).block _ (by rw [hsz]; omega)).trans (e1.trans (by rw [← hA]))))
  · exact ((hb _ _).block _ (by rw [hsz, hsz, hsz]; omega)).trans (((hb _ _).block _ (by rw [hsz, hsz]; omega)).trans (e2.trans (by rw [← hB]; rfl)))
  · exact ((hb _ _).block _ (by rw [hsz, hsz, hsz]; omega)).trans (e3.trans (by rw [← hC]; rfl))
  · exact (((hb w A).trans ((hb _ B).mono (by rw [hsz]; omega))).trans ((hb _ C).mono (by rw [hsz, hsz]; omega))).trans ((hb _ _).mono (by rw [hsz, hsz, hsz]; omega))

/-- the state ahead of order m - 1 -/
def Wst5 (z : Zh) (U : Int → Prop) (M : FL) (lf : Int → Int) : Nat → Prop
  | 0 => Valid z M ∧ ∀ x, free M x ↔ z.st ≤ x ∧ x < z.st + z.ct ∧ U x
  | k + 1 => Wst z U M lf k z.st
theorem Wst.five {z : Zh} {U : Int → Prop} {M : FL} {lf : Int → Int} : ∀ {k : Nat} {f : Int}, Wst z U M lf k f → z.st + z.ct ≤ f → Wst5 z U M lf k
  | 0, _, h, hf => h.done hf
  | _ + 1, _, h, hf => h.next hf

set_option maxRecDepth 100000 in
set_option maxHeartbeats 4000000 in
theorem with_any (z : Zh) (s : Nat → Value) (S : Nat) (sf : Int → Int) (w : World) (hok : z.ok = true) (hrow : rowI w S sf) :
    Calls Try.prog 49 #[zv z s, .slice (some ⟨S, 0, none⟩) 256 256] w fun e w' => ∃ s' M, e = .returned (zv z s') ∧ ownsZ w' w.heap.size s' M ∧ Valid z M ∧ (∀ x, free M x ↔ z.st ≤ x ∧ x < z.st + z.ct ∧ sf x ≠ 0) ∧ Below w.heap.size w w' := by
  have HR := Lib.hid hrow
  have hSlt := hrow.lt
  have HOK := Lib.hid hok
  have hzz := Zh.ok_iff.1 hok
  have hz1 : 0 ≤ z.st := by omega
  have hz2 : z.st + z.ct ≤ 256 := by omega
  have hz3 : 1 ≤ z.ct := by omega
  clear hrow hok hzz
  have hmk := fun w => make256 w
  have hinfo : (Try.prog.info? 3).map (fun i => (i.zero, i.size, i.bytes)) = some (some (.int .i64 0), 1, 8) := by kernel_rfl
  obtain ⟨i0, hi0, hiz0, hiz1, hiz2⟩ := info_parts hinfo
  go_enter Try.func49, Try.ntmps49
  go_upto_block 0 with fail
  have hst := WI.start w z s
  rw [show w.heap.size + 1 + 1 + 1 = w.heap.size + 3 by omega, show w.heap.size + 1 + 1 = w.heap.size + 2 by omega]
  obtain ⟨w1, hw1⟩ : ∃ w1, w1 = ((((w.alloc (.cells #[.int .i64 z.nd, .int .i64 z.kd, .int .i64 z.st, .int .i64 z.ct, .int .i64 z.mn, s 0, s 1, s 2, s 3, s 4] 25)).alloc (.cells #[.int .i64 0, .int .i64 0, .int .i64 0, .int .i64 0, .int .i64 0, .slice none 0 0, .slice none 0 0, .slice none 0 0, .slice none 0 0, .slice none 0 0] 25)).alloc (.cells #[.int .i64 z.nd, .int .i64 z.kd, .int .i64 z.st, .int .i64 z.ct, .int .i64 z.mn, .slice none 0 0, .slice none 0 0, .slice none 0 0, .slice none 0 0, .slice none 0 0] 25)).alloc (.cells (Array.replicate 256 (.int .i64 0)) 3)) := ⟨_, rfl⟩
  rw [← hw1] at hst ⊢
  have HW := Lib.hid hst
  clear hw1 hst hmk
  have HSF : Hid (w.heap[S]? = w.heap[S]?) := rfl
  go_cut [6] from 11 to 41 (fun s6 wx => s6 = .slice (some ⟨w.heap.size + 3, 0, none⟩) 256 256 ∧ Hid (WI w wx z s (fun _ => []) nilS (fun x => if 0 ≤ x ∧ x < 256 then sf x else 0)))
  case first =>
    go_wp2_with fail
    go_loopg [7] 256 (fun n s7 wr => ∃ i : Nat, s7 = .int .i64 i ∧ i ≤ 256 ∧ Hid (n = 256 - i) ∧ Hid (WI w wr z s (fun _ => []) nilS (fun x => if 0 ≤ x ∧ x < i then sf x else 0)))
    case atStart => exact ⟨0, rfl, by omega, rfl, by
      have := HW.out
      have e : (fun x : Int => if 0 ≤ x ∧ x < ((0 : Nat) : Int) then sf x else 0) = fun _ => 0 := by funext x; rw [if_neg (by omega)]
      rw [e]; exact this⟩
    case round =>
      obtain ⟨i, rfl, hi, hn, hw⟩ := hrel
      by_cases hlt : i < 256
      · have hlt' : (i : Int) < 256 := by omega
        have hc := (HR.out.below hw.out.bel).cell hlt
        have hf : wr.frozen? ⟨w.heap.size + 3, i, none⟩ = false := hw.out.left.frozen i
        have hl := hw.out.left.cell hlt
        have hset := hw.out.put (j := i) (sf i)
        have HS := Lib.hid hset; clear hset
        go_wp2_with fail
        go_roundg (256 - (i + 1))
        case rel => exact ⟨i + 1, by go_num, by omega, rfl, by
          have e : (fun x : Int => if 0 ≤ x ∧ x < ((i + 1 : Nat) : Int) then sf x else 0) = fun x => if x = (i : Int) then sf i else if 0 ≤ x ∧ x < (i : Int) then sf x else 0 := by
            funext x
            by_cases e : x = (i : Int)
            · subst e; rw [if_pos (by omega), if_pos rfl]
            · rw [if_neg e]
              by_cases h2 : 0 ≤ x ∧ x < (i : Int)
              · rw [if_pos h2, if_pos (by omega)]
              · rw [if_neg h2, if_neg (by omega)]
          rw [e]; exact HS.out⟩
        case measure => have := hn.out; omega
      · obtain rfl : i = 256 := by omega
        go_wp2_with fail
        go_meet
        case rel => exact ⟨rfl, hw.out⟩
  case rest =>
    obtain ⟨rfl, hwx⟩ := hcut
    have HS5 : Hid (Wst5 z (fun x => sf x ≠ 0) (fun _ => []) (fun x => if 0 ≤ x ∧ x < 256 then sf x else 0) 5) := by
      show Wst z _ _ _ 4 z.st
      refine Wst.start fun x h1 h2 => ?_
      rw [if_pos (by omega)]
    go_wp2_with fail
    go_loopg [8] 5 (fun n s8 wr => ∃ (v : Int) (m : Nat) (M : FL) (t : Nat → Value) (lf : Int → Int), s8 = .int .i64 v ∧ v = (m : Int) - 1 ∧ m ≤ 5 ∧ Hid (n = m) ∧ Hid (Wst5 z (fun x => sf x ≠ 0) M lf m) ∧ Hid (WI w wr z s M t lf))
    case atStart => exact ⟨4, 5, _, _, _, rfl, by omega, by omega, rfl, HS5.out, hwx.out⟩
    case round =>
      obtain ⟨v, m, M, t, lf, rfl, hv, hm, hn, hs5, hw⟩ := hrel
      cases m with
      | zero =>
        obtain rfl : v = -1 := by omega
        have hd := hs5.out
        have HD : Hid (Valid z M ∧ ∀ x, free M x ↔ z.st ≤ x ∧ x < z.st + z.ct ∧ sf x ≠ 0) := hd
        have hrd := hw.out.rdZ
        have hres := hw.out.res
        have hsz := hw.out.size
        clear hv hd
        go_wp2_with (first | (refine load_zone rfl (.tmp 5) rfl (w.heap.size + 2) z t rfl hw.out.out ?_) | (refine store_zone rfl (.tmp 4) (.tmp 86) rfl (w.heap.size + 1) z0 nilS z t rfl rfl hres hrd.2 ?_; intro w3 hbx3 hk3))
        refine bodyPost_ret (results_zone rfl _ _ (w.heap.size + 1) z t rfl hbx3) rfl ⟨t, M, rfl, ?_, HD.out.1, HD.out.2, hw.out.bel.trans (hk3.to_below hw.out.bel.size fun k hk => by omega)⟩
        exact ((show ownsZ wr (w.heap.size + 4) t M from hw.out.rows).keeps hk3 (fun b hb => by omega)).mono (by omega)
      | succ k =>
        obtain rfl : v = (k : Int) := by omega
        clear hv
        have hk4 : k ≤ 4 := by omega
        have hki : (k : Int) < 5 := by omega
        obtain ⟨c0, c1, c2, c3, c4, c5, c6, c7, c8, c9⟩ := boxed.head hw.out.box
        have hst256 : z.st.toNat ≤ 256 := by omega
        go_wp2_with fail
        clear c0 c1 c2 c3 c4 c5 c6 c7 c8 c9
        go_loopg [9] (z.ct.toNat) (fun n s9 wr' => ∃ (q : Nat) (M : FL) (t : Nat → Value) (lf : Int → Int), s9 = .int .i64 q ∧ z.st ≤ q ∧ (q : Int) ≤ z.st + z.ct ∧ Hid ((n : Int) = z.st + z.ct - q) ∧ Hid (Wst z (fun x => sf x ≠ 0) M lf k q) ∧ Hid (WI w wr' z s M t lf))
        case atStart => exact ⟨z.st.toNat, M, t, lf, by go_num, by omega, by omega, by show ((z.ct.toNat : Nat) : Int) = z.st + z.ct - z.st.toNat; omega, by have := hs5.out; rw [show ((z.st.toNat : Nat) : Int) = z.st by omega]; exact this, hw.out⟩
        case round =>
          obtain ⟨q, M, t, lf, rfl, hq0, hq, hn', hws, hw'⟩ := hrel
          obtain ⟨c0, c1, c2, c3, c4, c5, c6, c7, c8, c9⟩ := boxed.head hw'.out.box
          by_cases hlt : (q : Int) < z.st + z.ct
          · have hfin : Hid (fits (q : Int)) := ⟨by omega, by omega⟩
            have hq256 : q < 256 := by omega
            by_cases hin : insB z (q : Int) k = true
            · have hqk : (q : Int) + pw k ≤ 256 := by have := insB_iff.1 hin; rw [← pw_eq] at this; omega
              by_cases hall : allB lf (q : Int) k = true
              · go_upto_if 62 with (first | (go_at_call 47; refine (rblock_any z s q k _ HOK.out hfin.out hk4).mono ?_; rintro e w2 ⟨he, hb2⟩; rw [hin] at he; subst he; have hw2 := Lib.hid (hw'.out.below hb2)) | (go_at_call 58; refine (all_any (w.heap.size + 3) lf q k _ hw2.out.left hk4 hqk).mono ?_; rintro e w3 ⟨he, hb3⟩; rw [hall] at he; subst he; have hw3 := Lib.hid (hw2.out.below hb3)))
                have hlen : Hid ((M k).length ≤ 256) := by
                  have h1 := sorted_len (a := 0) (b := 256) (hws.out.sorted k hk4) (fun x hx => by
                    have h2 := insB_iff.1 (hws.out.ins k hk4 x hx)
                    have h3 := pow_pos' k
                    omega)
                  rcases h1 with h1 | h1
                  · show _ ≤ _; omega
                  · show _ ≤ _; rw [h1]; simp
                have hfl := box_field hw3.out.out k hk4
                have hrow := hw3.out.rows k hk4
                have hsz := hw3.out.size
                have hlen' := hlen.out
                go_upto_region 15 with (at_builtin; go_loud (refine wpList_append_own_at _ rfl _ _ 22 rfl (w.heap.size + 4) 3 i0 (.int .i64 0) 1 8 Try.underlying22 hi0 hiz0 hiz1 hiz2 rfl (by decide) _ _ _ rfl (hrow.alloc _) ⟨w3.heap.size, 0, none⟩ 1 1 [.int .i64 q] rfl rfl (cell_one_new _ _ _) (fun u hu => by simp at hu; subst hu; rfl) (by unfold maxLen; omega) (by omega) (by simp; omega) ?_); intro v' w4 hown' hgrow hnil hat; (obtain ⟨g4, cap4, rfl⟩ := Joins.ownsRow_form hown' (by omega)); have hb4 := hw3.out.grown hk4 hgrow; have hc4 := box_field hb4 k hk4; have hf4 : w4.frozen? ⟨w.heap.size + 2, 5 + k, none⟩ = false := frozen_of_block hb4 _; have HB4 := Lib.hid hb4; clear hb4)
                have hap := hw3.out.append hk4 hown' hgrow hat
                obtain ⟨w5, hw5⟩ : ∃ w5, w5 = w4.setCell ⟨w.heap.size + 2, 5 + k, none⟩ (.slice (some ⟨g4, 0, none⟩) ((M k).length + 1) cap4) := ⟨_, rfl⟩
                rw [← hw5] at hap ⊢
                obtain ⟨t', ht'⟩ : ∃ t', t' = updV t k (.slice (some ⟨g4, 0, none⟩) ((M k).length + 1) cap4) := ⟨_, rfl⟩
                rw [← ht'] at hap
                have HA := Lib.hid hap
                clear hap hw5 ht' hown' hgrow hnil hat hc4 hf4 HB4 hfl hrow hsz
                obtain ⟨m2, hm2⟩ : ∃ m2 : Nat, pw k = m2 := ⟨2 ^ k, by rw [pw_eq]; simp⟩
                have hp1 := (pw_bounds hk4).1
                have hp16 := (pw_bounds hk4).2
                have HM := Lib.hid hm2
                clear hm2
                go_wp2_with fail
                go_loopg [10] m2 (fun n s10 wr'' => ∃ g : Nat, s10 = .int .i64 g ∧ q ≤ g ∧ (g : Int) ≤ (q : Int) + pw k ∧ Hid (n = q + m2 - g) ∧ Hid (WI w wr'' z s (upd M k (M k ++ [(q : Int)])) t' (fun x => if (q : Int) ≤ x ∧ x < g then 0 else lf x)))
                case atStart => exact ⟨q, rfl, by omega, by omega, by show m2 = q + m2 - q; omega, by
                  have e : (fun x : Int => if (q : Int) ≤ x ∧ x < (q : Int) then 0 else lf x) = lf := by funext x; rw [if_neg (by omega)]
                  rw [e]; exact HA.out⟩
                case round =>
                  obtain ⟨g, rfl, hg0, hg, hnn, hwg⟩ := hrel
                  by_cases hgl : (g : Int) < (q : Int) + pw k
                  · have hg256 : g < 256 := by omega
                    have hgi : (g : Int) < 256 := by omega
                    have hcg := hwg.out.left.cell hg256
                    have hfg : wr.frozen? ⟨w.heap.size + 3, g, none⟩ = false := hwg.out.left.frozen g
                    have HP := Lib.hid (hwg.out.put (j := g) 0)
                    generalize (if (q : Int) ≤ (g : Int) ∧ (g : Int) < g then 0 else lf g) = vg at hcg
                    go_wp2_with fail
                    go_roundg (q + m2 - (g + 1))
                    case rel => exact ⟨g + 1, by go_num, by omega, by omega, rfl, by
                      have e : (fun x : Int => if (q : Int) ≤ x ∧ x < ((g + 1 : Nat) : Int) then 0 else lf x) = fun x => if x = (g : Int) then 0 else if (q : Int) ≤ x ∧ x < (g : Int) then 0 else lf x := by
                        funext x
                        by_cases e : x = (g : Int)
                        · subst e; rw [if_pos (by omega), if_pos rfl]
                        · rw [if_neg e]
                          by_cases h2 : (q : Int) ≤ x ∧ x < (g : Int)
                          · rw [if_pos h2, if_pos (by omega)]
                          · rw [if_neg h2, if_neg (by omega)]
                      rw [e]; exact HP.out⟩
                    case measure =>
                      have h1 := hnn.out
                      have h2 := HM.out
                      omega
                  · have HT : Hid (Wst z (fun x => sf x ≠ 0) (upd M k (M k ++ [(q : Int)])) (fun x => if (q : Int) ≤ x ∧ x < g then 0 else lf x) k ((q : Int) + 1)) := by
                      refine hws.out.take hk4 hin (allB_iff.1 hall) fun x => ?_
                      rw [← pw_eq, show (g : Int) = (q : Int) + pw k by omega]
                    go_wp2_with fail
                    go_roundg ((z.st + z.ct - (q + 1)).toNat)
                    case rel => exact ⟨q + 1, _, _, _, by go_num, by omega, by omega, by show (((z.st + z.ct - (q + 1)).toNat : Nat) : Int) = _; omega, HT.out, hwg.out⟩
                    case measure => have := hn'.out; omega
              · have hall' : allB lf (q : Int) k = false := by simpa using hall
                have HX : Hid (insB z (q : Int) k = true → ∃ x, inBlk x (q : Int) k ∧ lf x = 0) := fun _ => by
                  apply Classical.byContradiction
                  intro hx
                  exact hall (allB_iff.2 fun x hx1 hx2 => hx ⟨x, hx1, hx2⟩)
                go_wp2_with (first | (go_at_call 47; refine (rblock_any z s q k _ HOK.out hfin.out hk4).mono ?_; rintro e w2 ⟨he, hb2⟩; rw [hin] at he; subst he; have hw2 := Lib.hid (hw'.out.below hb2)) | (go_at_call 58; refine (all_any (w.heap.size + 3) lf q k _ hw2.out.left hk4 hqk).mono ?_; rintro e w3 ⟨he, hb3⟩; rw [hall'] at he; subst he; have hw3 := Lib.hid (hw2.out.below hb3)))
                go_roundg ((z.st + z.ct - (q + 1)).toNat)
                case rel => exact ⟨q + 1, M, t, lf, by go_num, by omega, by omega, by show (((z.st + z.ct - (q + 1)).toNat : Nat) : Int) = _; omega, hws.out.skip HX.out, hw3.out⟩
                case measure => have := hn'.out; omega
            · have hin' : insB z (q : Int) k = false := by simpa using hin
              have HX : Hid (insB z (q : Int) k = true → ∃ x, inBlk x (q : Int) k ∧ lf x = 0) := fun h => (hin h).elim
              go_wp2_with (first | (go_at_call 47; refine (rblock_any z s q k _ HOK.out hfin.out hk4).mono ?_; rintro e w2 ⟨he, hb2⟩; rw [hin'] at he; subst he; have hw2 := Lib.hid (hw'.out.below hb2)))
              go_roundg ((z.st + z.ct - (q + 1)).toNat)
              case rel => exact ⟨q + 1, M, t, lf, by go_num, by omega, by omega, by show (((z.st + z.ct - (q + 1)).toNat : Nat) : Int) = _; omega, hws.out.skip HX.out, hw2.out⟩
              case measure => have := hn'.out; omega
          · have HN := Lib.hid (hws.out.five (by omega))
            go_wp2_with fail
            go_roundg k
            case rel => exact ⟨(k : Int) - 1, k, M, t, lf, by go_num, by omega, by omega, rfl, HN.out, hw'.out⟩
            case measure => have := hn.out; omega
end Go.Proofs.Ytcmmoemmlellbaa
