/- The program's Lists: walked. Conditions: the numbers fit. -/
import Derived.Test.YtbalmmaoiebppaaVg
namespace Go.Proofs.Ytbalmmaoiebppaa
open Go.RowKit

/-- the memory of the program's Lists -/
structure LM (w : World) (base bx bm bc nm : Nat) (vi va vo : Value) (gi ga go : Option Nat) (I A : List Int) (bd : Int) (g out : List Int) : Prop where
  hist : hist w base bx bm nm g
  ls : lsts w base bc vi va gi ga I A bd
  oo : own w base go vo out
  io : ∀ b, gi = some b → go ≠ some b
  ao : ∀ b, ga = some b → go ≠ some b
section
variable {w w' : World} {base bx bm bc nm : Nat} {vi va vo v' vi' va' : Value} {gi ga go g' gi' ga' : Option Nat} {I A g out xs I' A' : List Int} {bd : Int}
theorem LM.xc (h : LM w base bx bm bc nm vi va vo gi ga go I A bd g out) : bx ≠ bc := fun e => by
  have h1 := h.hist.box
  rw [e, h.ls.box] at h1
  injection h1 with h1; injection h1 with _ h1; exact absurd h1 (by decide)
theorem LM.mc (h : LM w base bx bm bc nm vi va vo gi ga go I A bd g out) : bm ≠ bc := fun e => by
  obtain ⟨es, c, h1⟩ := h.hist.map.obj
  rw [e, h.ls.box] at h1; cases h1
theorem LM.oc (h : LM w base bx bm bc nm vi va vo gi ga go I A bd g out) : go ≠ some bc := h.oo.ne_box h.ls.box (by decide)
theorem LM.ox (h : LM w base bx bm bc nm vi va vo gi ga go I A bd g out) : go ≠ some bx := h.oo.ne_box h.hist.box (by decide)
theorem LM.om (h : LM w base bx bm bc nm vi va vo gi ga go I A bd g out) : go ≠ some bm := by obtain ⟨es, c, h1⟩ := h.hist.map.obj; exact h.oo.ne_map h1
theorem LM.ix (h : LM w base bx bm bc nm vi va vo gi ga go I A bd g out) : gi ≠ some bx := h.ls.oi.ne_box h.hist.box (by decide)
theorem LM.im (h : LM w base bx bm bc nm vi va vo gi ga go I A bd g out) : gi ≠ some bm := by obtain ⟨es, c, h1⟩ := h.hist.map.obj; exact h.ls.oi.ne_map h1
theorem LM.ax (h : LM w base bx bm bc nm vi va vo gi ga go I A bd g out) : ga ≠ some bx := h.ls.oa.ne_box h.hist.box (by decide)
theorem LM.am (h : LM w base bx bm bc nm vi va vo gi ga go I A bd g out) : ga ≠ some bm := by obtain ⟨es, c, h1⟩ := h.hist.map.obj; exact h.ls.oa.ne_map h1
theorem LM.below (h : LM w base bx bm bc nm vi va vo gi ga go I A bd g out) (hb : Below w.heap.size w w') : LM w' base bx bm bc nm vi va vo gi ga go I A bd g out :=
  ⟨h.hist.keeps (P := fun _ => False) (Keeps.of_below hb) id id, h.ls.below hb, h.oo.keeps (P := fun _ => False) (Keeps.of_below hb) (fun _ _ => id), h.io, h.ao⟩
theorem LM.said (h : LM w base bx bm bc nm vi va vo gi ga go I A bd g out) (hk : Keeps (fun k => go = some k) w w') (ho : own w' base g' v' xs) (hg : ∀ b, g' = some b → go = some b ∨ w.heap.size ≤ b) : LM w' base bx bm bc nm vi va v' gi ga g' I A bd g xs :=
  ⟨h.hist.keeps hk (fun e => h.ox e) (fun e => h.om e), h.ls.keeps hk (fun e => h.oc e) h.io h.ao, ho, fun b hb e => h.ls.oi.new hb (hg b e) (h.io b hb), fun b hb e => h.ls.oa.new hb (hg b e) (h.ao b hb)⟩
theorem LM.lists (h : LM w base bx bm bc nm vi va vo gi ga go I A bd g out) (hk : Keeps (fun k => k = bc ∨ gi = some k ∨ ga = some k) w w') (hl : lsts w' base bc vi' va' gi' ga' I' A' bd) (hi : ∀ b, gi' = some b → gi = some b ∨ w.heap.size ≤ b) (ha : ∀ b, ga' = some b → ga = some b ∨ w.heap.size ≤ b) : LM w' base bx bm bc nm vi' va' vo gi' ga' go I' A' bd g out :=
  ⟨h.hist.keeps hk (fun e => e.elim h.xc fun e => e.elim h.ix h.ax) (fun e => e.elim h.mc fun e => e.elim h.im h.am), hl, h.oo.keeps hk (fun b hb e => e.elim (fun e => h.oc (e ▸ hb)) fun e => e.elim (fun e => h.io b e hb) (fun e => h.ao b e hb)),
   fun b hb e => h.oo.new e (hi b hb) fun e' => h.io b e' e, fun b hb e => h.oo.new e (ha b hb) fun e' => h.ao b e' e⟩
theorem LM.evicted {nm' : Nat} {g1 : List Int} (h : LM w base bx bm bc nm vi va vo gi ga go I A bd g out) (hk : Keeps (fun k => k = bx ∨ k = bm) w w') (hm : Go.Proofs.Ytbalmmaoiebppaa.hist w' base bx bm nm' g1) : LM w' base bx bm bc nm' vi va vo gi ga go I A bd g1 out :=
  ⟨hm, h.ls.keeps hk (fun e => e.elim (fun e => h.xc e.symm) (fun e => h.mc e.symm)) (fun b hb e => e.elim (fun e => h.ix (e ▸ hb)) (fun e => h.im (e ▸ hb))) (fun b hb e => e.elim (fun e => h.ax (e ▸ hb)) (fun e => h.am (e ▸ hb))), h.oo.keeps hk (fun b hb e => e.elim (fun e => h.ox (e ▸ hb)) (fun e => h.om (e ▸ hb))), h.io, h.ao⟩
theorem LM.low (h : LM w base bx bm bc nm vi va vo gi ga go I A bd g out) : ∀ k, k < base → ¬ ((k = bx ∨ k = bm) ∨ (k = bc ∨ gi = some k ∨ ga = some k) ∨ go = some k) := fun k hk => by
  rintro ((rfl | rfl) | (rfl | e | e) | e)
  · have := h.hist.hx; omega
  · have := h.hist.hm; omega
  · have := h.ls.hc; omega
  · have := h.ls.oi; rw [e] at this; have := this.lt; omega
  · have := h.ls.oa; rw [e] at this; have := this.lt; omega
  · have := h.oo; rw [e] at this; have := this.lt; omega
end

theorem box_after {w w' : World} {b : Nat} {g : Option Nat} {x y z : Value} {t : TypeId} (hk : Keeps (fun k => g = some k) w w') (hb : w.heap[b]? = some (.cells #[x, y, z] t (0, 0))) (hn : g ≠ some b) : w'.cell? ⟨b, 0, none⟩ = some x ∧ w'.frozen? ⟨b, 0, none⟩ = false := by
  have h1 := (hk.block b (lt_of_block hb) hn).trans hb
  exact ⟨by rw [cell_of_block h1]; simp, frozen_of_block h1 _⟩

abbrev lmW (w : World) (bd : Int) : World := ((w.alloc (.map #[] 0)).alloc (.cells #[.int .i64 0, .map (some w.heap.size)] 47)).alloc (.cells #[.slice none 0 0, .slice none 0 0, .int .i64 bd] 53)
theorem lm_start (w : World) (bd : Int) : LM (lmW w bd) w.heap.size (w.heap.size + 1) w.heap.size (w.heap.size + 1 + 1) 0 (.slice none 0 0) (.slice none 0 0) (.slice none 0 0) none none none [] [] bd [] [] := by
  unfold lmW
  have h1 := mapI_made w
  obtain ⟨w1, hw1⟩ : ∃ w1, w1 = w.alloc (.map #[] 0) := ⟨_, rfl⟩
  have s1 : w1.heap.size = w.heap.size + 1 := by rw [hw1]; simp
  rw [← hw1] at h1
  rw [← hw1]
  obtain ⟨w2, hw2⟩ : ∃ w2, w2 = w1.alloc (.cells #[.int .i64 0, .map (some w.heap.size)] 47) := ⟨_, rfl⟩
  have h2 := heap_alloc_new w1 (.cells #[.int .i64 0, .map (some w.heap.size)] 47)
  have b2 : Below w1.heap.size w1 w2 := by rw [hw2]; exact (Below.refl _ w1).alloc (Nat.le_refl _) _
  have s2 : w2.heap.size = w.heap.size + 1 + 1 := by rw [hw2, ← s1]; simp
  rw [← hw2, s1] at h2
  rw [← hw2]
  have h3 := heap_alloc_new w2 (.cells #[.slice none 0 0, .slice none 0 0, .int .i64 bd] 53)
  have b3 : Below w2.heap.size w2 (w2.alloc (.cells #[.slice none 0 0, .slice none 0 0, .int .i64 bd] 53)) := (Below.refl _ w2).alloc (Nat.le_refl _) _
  rw [s2] at h3
  refine ⟨⟨by omega, by omega, ?_, ?_⟩, ⟨by omega, h3, ⟨rfl, _, rfl⟩, ⟨rfl, _, rfl⟩, fun b hb => by cases hb⟩, ⟨rfl, _, rfl⟩, fun b hb => (by cases hb), fun b hb => (by cases hb)⟩
  · exact (b3.block _ (by omega)).trans h2
  · rw [lst_nil]
    exact (h1.keeps (P := fun _ => False) (Keeps.of_below b2) id).keeps (P := fun _ => False) (Keeps.of_below b3) id
theorem lm_start_below (w : World) (bd : Int) : Below w.heap.size w (lmW w bd) := by
  have h1 : Below w.heap.size w (w.alloc (.map #[] 0)) := (Below.refl _ w).alloc (Nat.le_refl _) _
  have h2 := h1.alloc h1.size (.cells #[.int .i64 0, .map (some w.heap.size)] 47)
  exact h2.alloc h2.size _

/-- the error of Lists, and its answer -/
def lsE (n : Nat) (s bd : Int) : Int := if chkE n s = 0 then (if bd < 0 ∨ s < bd then 2 else 0) else chkE n s
def lsOut (s bd : Int) (xs : List Int) : List Int := if lsE xs.length s bd = 0 then (lsS s bd xs).2.2.2 else []
theorem idx_miss {I : List Int} {p : Int} (h : p ∉ I) : Lib.idxOf I p = -1 := by
  have := Lib.idxOf_miss I I.length p fun j hj e => h (by rw [← e, getD_eq hj]; exact List.getElem_mem hj)
  rwa [List.take_length] at this

set_option maxRecDepth 100000 in
set_option maxHeartbeats 8000000 in
theorem lists_any (v : Value) (xs : List Int) (s bd : Int) (w : World) (h : rd w v xs) (hx : ∀ x ∈ xs, fits x) (hs : fits s) (hbd : fits bd) :
    Calls Try.prog 19 #[v, .int .i64 s, .int .i64 bd] w fun e w' => ∃ v', e = .returned (.tuple #[v', .int .i64 (lsE xs.length s bd)]) ∧ Below w.heap.size w w' ∧ Go.Proofs.Ytbalmmaoiebppaa.rd w' v' (lsOut s bd xs) := by
  obtain ⟨a, c, rfl, hlen, hcell⟩ := h.split
  have HC := Lib.hid hcell
  clear h hcell
  obtain ⟨hbd1, hbd2⟩ := hbd
  by_cases he : chkE xs.length s = 0
  · have HE := Lib.hid he
    have hse : xs.length ≤ 10000 ∧ 1 ≤ s ∧ s ≤ 10000 := by
      unfold chkE at he
      split at he
      · omega
      · split at he <;> omega
    obtain ⟨hx1, hs1, hs2⟩ := hse
    have HX := Lib.hid hx
    clear hx he
    by_cases hbb : bd < 0 ∨ s < bd
    · have HL : Hid (lsE xs.length s bd = 2 ∧ lsOut s bd xs = []) := by
        have e : lsE xs.length s bd = 2 := by unfold lsE; rw [if_pos HE.out, if_pos hbb]
        exact ⟨e, by unfold lsOut; rw [if_neg (by rw [e]; decide)]⟩
      rcases (show bd < 0 ∨ (0 ≤ bd ∧ s < bd) by omega) with hb | ⟨hb, hb'⟩
      all_goals
        clear hbb
        go_enter Try.func19, Try.ntmps19
        go_wp2_with (go_at_call 24; refine (check_any xs.length s _ (by omega) hs).mono ?_; rintro e w' ⟨rfl, hw'⟩; rw [hw', HE.out]; clear hw' w')
        go_ret2
        exact ⟨_, by rw [HL.out.1]; rfl, Below.refl _ _, by rw [HL.out.2]; exact .inl ⟨rfl, _, _, rfl⟩⟩
    · have hb0 : 0 ≤ bd := by omega
      have hbs : bd ≤ s := by omega
      have HL : Hid (lsE xs.length s bd = 0) := by show _ = _; unfold lsE; rw [if_pos HE.out, if_neg hbb]
      have hmm := @run_makeMap Try.prog
      clear hbb
      go_enter Try.func19, Try.ntmps19
      go_upto_block 0 with (go_at_call 24; refine (check_any xs.length s _ (by omega) hs).mono ?_; rintro e w' ⟨rfl, hw'⟩; rw [hw', HE.out]; clear hw' w')
      have hst := Lib.hid (lm_start w bd)
      have hbs0 := lm_start_below w bd
      change Code.wp _ _ _ _ (lmW w bd)
      generalize lmW w bd = ws at *
      clear hmm
      go_wp2_with fail
      go_loopg [11, 36] xs.length (fun n s11 s36 wr => ∃ (k nm : Nat) (vi va : Value) (gi ga go : Option Nat), s36 = .int .i64 k ∧ k ≤ xs.length ∧ nm ≤ k ∧ Hid (n = xs.length - k) ∧
        Hid (LM wr w.heap.size (w.heap.size + 1) w.heap.size (w.heap.size + 1 + 1) nm vi va s11 gi ga go (lsS s bd (xs.take k)).1 (lsS s bd (xs.take k)).2.1 bd (lsS s bd (xs.take k)).2.2.1 (lsS s bd (xs.take k)).2.2.2) ∧ Below w.heap.size w wr)
      case atStart => exact ⟨0, 0, _, _, none, none, none, rfl, by omega, by omega, rfl, hst, hbs0⟩
      case round =>
        obtain ⟨k, nm, vi, va, gi, ga, go, rfl, hk, hnm, hn, hM, hbl⟩ := hrel
        clear hst hbs0
        by_cases hlt : k < xs.length
        · have hlti : (k : Int) < (xs.length : Int) := by omega
          obtain ⟨b, o, rfl, hcl⟩ := HC.out k hlt
          have hc0 := hcl k hlt
          have hci := (hbl.cell (block_lt_of_cell hc0)).trans hc0
          have HST : Hid (lsS s bd (xs.take (k + 1)) = lsStep s bd (lsS s bd (xs.take k)) (xs.getD k 0)) := lsS_step hlt
          obtain ⟨hinv, hlo⟩ := lsS_inv s bd hs1 hb0 (xs.take k)
          have hpf : fits (xs.getD k 0) := HX.out _ (by rw [getD_eq hlt]; exact List.getElem_mem hlt)
          have htl : (xs.take k).length = k := by rw [List.length_take]; omega
          rw [htl] at hinv hlo
          have hsub : ∀ x ∈ (lsS s bd (xs.take k)).1 ++ (lsS s bd (xs.take k)).2.1, fits x := fun x hx => HX.out x (List.mem_of_mem_take (hinv.sub x hx))
          obtain ⟨p, hp⟩ : ∃ p, p = xs.getD k 0 := ⟨_, rfl⟩
          rw [← hp] at hci HST hpf
          generalize lsS s bd (xs.take k) = q at *
          obtain ⟨I, A, g, out⟩ := q
          simp only at hinv hlo hM hsub
          have HINV := Lib.hid hinv
          have HSUB := Lib.hid hsub
          have I4 : Hid (out.length = k) := hlo
          have j1 := hinv.few
          have j2 := hinv.gone
          have j3 := hinv.full
          have hj1 : I.length ≤ 10000 := by omega
          have hj2 : A.length ≤ 10000 := by omega
          have hj3 : g.length ≤ 10000 := by omega
          have J1 : Hid (I.length + A.length ≤ k ∧ g.length ≤ k ∧ ((I.length + A.length : Nat) : Int) ≤ s) := ⟨j1, j2, j3⟩
          clear hcl hc0 hp hinv hlo hsub htl j1 j2 j3
          obtain ⟨ai, ni, ci, rfl⟩ := hM.out.ls.oi.form
          obtain rfl := own_len hM.out.ls.oi
          obtain ⟨aa, na, ca, rfl⟩ := hM.out.ls.oa.form
          obtain rfl := own_len hM.out.ls.oa
          obtain ⟨ao, no, co, rfl⟩ := hM.out.oo.form
          obtain rfl := own_len hM.out.oo
          obtain ⟨c0, c1, c2, cf⟩ := hM.out.ls.cells
          have f0 := cf 0
          clear cf
          by_cases hA : p ∈ A
          · have HCT : Hid (A.contains p = true) := by show _ = _; simpa using hA
            have HS : Hid (lsS s bd (xs.take (k + 1)) = (I, A, g, out ++ [-1])) := by show _ = _; rw [HST.out]; unfold lsStep; rw [if_pos hA]
            clear hA HST
            obtain ⟨w0, hw0⟩ : ∃ w0, w0 = wr.alloc (.cells #[.int .i64 (-1)] 3) := ⟨_, rfl⟩
            have hbelw0 : Below wr.heap.size wr w0 := by rw [hw0]; exact (Below.refl _ wr).alloc (Nat.le_refl _) _
            have HMw0 : Hid (LM w0 w.heap.size (w.heap.size + 1) w.heap.size (w.heap.size + 1 + 1) nm (.slice ai I.length ci) (.slice aa A.length ca) (.slice ao out.length co) gi ga go I A bd g out) := hM.out.below hbelw0
            have HCw0 : Hid (w0.cell? ⟨wr.heap.size, 0, none⟩ = some (.int .i64 (-1))) := by show _ = _; rw [hw0, cell_of_block (heap_alloc_new wr _)]; simp
            have hbw0 : Below w.heap.size w w0 := hbl.trans (hbelw0.mono hbl.size)
            have hsw0 := hbw0.size
            have HWw0 := Lib.hid hw0; clear hw0 hbelw0
            go_wp2_with (first | (go_at_call 30; refine (contains_any _ A p _ hM.out.ls.oa.rd).mono ?_; rintro e wv ⟨rfl, hwv⟩; rw [hwv, HCT.out]; clear hwv wv) | (at_builtin; rw [← HWw0.out]; refine wpList_push rfl _ _ rfl w.heap.size go _ out rfl HMw0.out.oo _ _ (-1) rfl HCw0.out (by have := I4.out; (try simp); omega) (by omega) ?_; intro a1 n1 c1' g1 w1 ho1 hn1 hk1 hg1; have HM1 : Hid (LM w1 w.heap.size (w.heap.size + 1) w.heap.size (w.heap.size + 1 + 1) nm (.slice ai I.length ci) (.slice aa A.length ca) (.slice a1 n1 c1') gi ga g1 I A bd g (out ++ [(-1)])) := HMw0.out.said hk1 ho1 (fun b hb => (hg1 b hb).imp id fun h => h.1); have hb1 := hk1.low hbw0 fun k hk e => HMw0.out.low k hk (.inr (.inr e)); clear ho1 hn1 hk1 hg1))
            go_roundg (xs.length - (k + 1))
            case rel => exact ⟨k + 1, nm, _, _, gi, ga, g1, by go_num, by omega, by omega, rfl, by
              show LM _ _ _ _ _ _ _ _ _ _ _ _ _ _ _ _ _
              rw [HS.out]; exact HM1.out, hb1⟩
            case measure => have := hn.out; omega
          · have HCT : Hid (A.contains p = false) := by show _ = _; simpa using hA
            have HA := Lib.hid hA
            clear hA
            by_cases hI : p ∈ I
            · obtain ⟨ix, hix, hixl, hixe⟩ := idx_nat hI (List.nodup_append.1 HINV.out.nd).1
              have HIX := Lib.hid hix
              have HRE : Hid (I.take ix ++ I.drop (ix + 1) = remP I p) := hixe
              have hrl : (remP I p).length ≤ 10000 := by rw [← hixe]; simp; omega
              have HS : Hid (lsS s bd (xs.take (k + 1)) = (actI (remP I p) A bd p, actA A bd p, g, out ++ [-1])) := by show _ = _; rw [HST.out]; unfold lsStep; rw [if_neg HA.out, if_pos hI]
              clear hI hix hixe HST
              have hge : (0 : Int) ≤ (ix : Int) := by omega
              have hge' : decide ((ix : Int) ≥ 0) = true := by simp
              go_upto_region 15 with (first | (go_at_call 30; refine (contains_any _ A p _ hM.out.ls.oa.rd).mono ?_; rintro e wv ⟨rfl, hwv⟩; rw [hwv, HCT.out]; clear hwv wv) | (go_at_call 31; refine (index_any _ I p _ hM.out.ls.oi.rd).mono ?_; rintro e wv ⟨rfl, hwv⟩; rw [hwv, HIX.out]; clear hwv wv))
              go_upto_region 17 with (first | (go_at_call 30; refine (contains_any _ A p _ hM.out.ls.oa.rd).mono ?_; rintro e wv ⟨rfl, hwv⟩; rw [hwv, HCT.out]; clear hwv wv) | (go_at_call 31; refine (index_any _ I p _ hM.out.ls.oi.rd).mono ?_; rintro e wv ⟨rfl, hwv⟩; rw [hwv, HIX.out]; clear hwv wv) | (go_at_call 33; refine (clone_any _ I wr hM.out.ls.oi.rd (by omega)).mono ?_; rintro e w2 ⟨v2, g2, rfl, ho2, hb2⟩; have HO2 := Lib.hid ho2; have HB2 := Lib.hid hb2; clear ho2 hb2) | (go_at_call 32; refine (delete_any v2 I ix w2 wr.heap.size g2 HO2.out hixl).mono ?_; rintro e w3 ⟨v3, rfl, ho3, hk3⟩; rw [HRE.out] at ho3; (obtain ⟨a3, n3, c3, rfl⟩ := ho3.form); (obtain rfl := own_len ho3); have HO3 := Lib.hid ho3; have HB3 : Hid (Below wr.heap.size wr w3) := (hk3.low HB2.out fun k hk e => (by have := HO2.out; rw [e] at this; have := this.lt; omega)); clear ho3 hk3; (obtain ⟨d0, d1, d2, df⟩ := (hM.out.ls.below HB3.out).cells); have e0 := df 0; clear df))
              obtain ⟨w4, hw4⟩ : ∃ w4, w4 = w3.setCell ⟨w.heap.size + 1 + 1, 0, none⟩ (.slice a3 (remP I p).length c3) := ⟨_, rfl⟩
              have HM4 : Hid (LM w4 w.heap.size (w.heap.size + 1) w.heap.size (w.heap.size + 1 + 1) nm (.slice a3 (remP I p).length c3) (.slice aa A.length ca) (.slice ao out.length co) g2 ga go (remP I p) A bd g out) := by
                have h1 := hM.out.ls.setI (Keeps.of_below HB3.out) (HO3.out.base_le (base' := w.heap.size) hbl.size) fun b hb => .inr (by have := HO3.out; rw [hb] at this; exact this.lt.1)
                rw [← hw4] at h1
                exact hM.out.lists (h1.2.mono fun k _ hk => hk.imp id .inl) h1.1 (fun b hb => .inr (by have := HO3.out; rw [hb] at this; exact this.lt.1)) fun b hb => .inl hb
              have hb4 : Below w.heap.size w w4 := by
                have h1 := setCell_keeps w3 (w.heap.size + 1 + 1) 0 (.slice a3 (remP I p).length c3)
                rw [← hw4] at h1
                exact h1.low (hbl.trans (HB3.out.mono hbl.size)) fun k hk e => by omega
              rw [← hw4]
              clear hw4 d0 d1 d2 e0 c0 c1 c2 f0 hixl
              go_upto_region 18 with (go_at_call 34; refine (lactivate_any w4 w.heap.size (w.heap.size + 1 + 1) _ _ g2 ga (remP I p) A bd p HM4.out.ls hpf ⟨by omega, by omega⟩ ⟨by omega, by omega⟩ hb4.size).mono ?_; rintro e w5 ⟨rfl, vi5, va5, gi5, ga5, hl5, hk5, hi5, ha5⟩; have HM5 : Hid (LM w5 w.heap.size (w.heap.size + 1) w.heap.size (w.heap.size + 1 + 1) nm vi5 va5 (.slice ao out.length co) gi5 ga5 go (actI (remP I p) A bd p) (actA A bd p) bd g out) := HM4.out.lists hk5 hl5 hi5 ha5; have hb5 := hk5.low hb4 fun k hk e => HM4.out.low k hk (.inr (.inl e)); clear hl5 hk5 hi5 ha5)
              obtain ⟨w0, hw0⟩ : ∃ w0, w0 = w5.alloc (.cells #[.int .i64 (-1)] 3) := ⟨_, rfl⟩
              have hbelw0 : Below w5.heap.size w5 w0 := by rw [hw0]; exact (Below.refl _ w5).alloc (Nat.le_refl _) _
              have HMw0 : Hid (LM w0 w.heap.size (w.heap.size + 1) w.heap.size (w.heap.size + 1 + 1) nm vi5 va5 (.slice ao out.length co) gi5 ga5 go (actI (remP I p) A bd p) (actA A bd p) bd g out) := HM5.out.below hbelw0
              have HCw0 : Hid (w0.cell? ⟨w5.heap.size, 0, none⟩ = some (.int .i64 (-1))) := by show _ = _; rw [hw0, cell_of_block (heap_alloc_new w5 _)]; simp
              have hbw0 : Below w.heap.size w w0 := hb5.trans (hbelw0.mono hb5.size)
              have hsw0 := hbw0.size
              have HWw0 := Lib.hid hw0; clear hw0 hbelw0
              go_wp2_with (at_builtin; rw [← HWw0.out]; refine wpList_push rfl _ _ rfl w.heap.size go _ out rfl HMw0.out.oo _ _ (-1) rfl HCw0.out (by have := I4.out; (try simp); omega) (by omega) ?_; intro a6 n6 c6' g6 w6 ho6 hn6 hk6 hg6; have HM6 : Hid (LM w6 w.heap.size (w.heap.size + 1) w.heap.size (w.heap.size + 1 + 1) nm vi5 va5 (.slice a6 n6 c6') gi5 ga5 g6 (actI (remP I p) A bd p) (actA A bd p) bd g (out ++ [(-1)])) := HMw0.out.said hk6 ho6 (fun b hb => (hg6 b hb).imp id fun h => h.1); have hb6 := hk6.low hbw0 fun k hk e => HMw0.out.low k hk (.inr (.inr e)); clear ho6 hn6 hk6 hg6)
              go_roundg (xs.length - (k + 1))
              case rel => exact ⟨k + 1, nm, _, _, gi5, ga5, g6, by go_num, by omega, by omega, rfl, by
                show LM _ _ _ _ _ _ _ _ _ _ _ _ _ _ _ _ _
                rw [HS.out]; exact HM6.out, hb6⟩
              case measure => have := hn.out; omega
            · have HIX : Hid (Lib.idxOf I p = -1) := idx_miss hI
              have HI := Lib.hid hI
              have HEV := evS_inv HINV.out hs1
              have HEV := Lib.hid HEV
              obtain ⟨d, hd⟩ : ∃ d, d = dst g p := ⟨_, rfl⟩
              have hdf := dst_fits g p (by omega)
              rw [← hd] at hdf
              obtain ⟨hdf1, hdf2⟩ := hdf
              have HD := Lib.hid hd
              clear hI hd
              obtain ⟨w0, hw0⟩ : ∃ w0, w0 = wr.alloc (.cells #[.int .i64 d] 3) := ⟨_, rfl⟩
              have hbelw0 : Below wr.heap.size wr w0 := by rw [hw0]; exact (Below.refl _ wr).alloc (Nat.le_refl _) _
              have HMw0 : Hid (LM w0 w.heap.size (w.heap.size + 1) w.heap.size (w.heap.size + 1 + 1) nm (.slice ai I.length ci) (.slice aa A.length ca) (.slice ao out.length co) gi ga go I A bd g out) := hM.out.below hbelw0
              have HCw0 : Hid (w0.cell? ⟨wr.heap.size, 0, none⟩ = some (.int .i64 d)) := by show _ = _; rw [hw0, cell_of_block (heap_alloc_new wr _)]; simp
              have hbw0 : Below w.heap.size w w0 := hbl.trans (hbelw0.mono hbl.size)
              have hsw0 := hbw0.size
              have HWw0 := Lib.hid hw0; clear hw0 hbelw0
              go_upto_region 21 with (first | (go_at_call 30; refine (contains_any _ A p _ hM.out.ls.oa.rd).mono ?_; rintro e wv ⟨rfl, hwv⟩; rw [hwv, HCT.out]; clear hwv wv) | (go_at_call 31; refine (index_any _ I p _ hM.out.ls.oi.rd).mono ?_; rintro e wv ⟨rfl, hwv⟩; rw [hwv, HIX.out]; clear hwv wv) | (go_at_call 25; refine (hdist_any wr w.heap.size (w.heap.size + 1) w.heap.size nm g p hM.out.hist hpf (by omega)).mono ?_; rintro e wv ⟨rfl, hwv⟩; rw [hwv, ← HD.out]; clear hwv wv) | (at_builtin; rw [← HWw0.out]; refine wpList_push rfl _ _ rfl w.heap.size go _ out rfl HMw0.out.oo _ _ d rfl HCw0.out (by have := I4.out; (try simp); omega) (by omega) ?_; intro a1 n1 c1' g1 w1 ho1 hn1 hk1 hg1; have HM1 : Hid (LM w1 w.heap.size (w.heap.size + 1) w.heap.size (w.heap.size + 1 + 1) nm (.slice ai I.length ci) (.slice aa A.length ca) (.slice a1 n1 c1') gi ga g1 I A bd g (out ++ [d])) := HMw0.out.said hk1 ho1 (fun b hb => (hg1 b hb).imp id fun h => h.1); have hb1 := hk1.low hbw0 fun k hk e => HMw0.out.low k hk (.inr (.inr e)); clear ho1 hn1 hk1 hg1))
              clear c0 c1 c2 f0
              obtain ⟨c0, c1, c2, cf⟩ := HM1.out.ls.cells
              have f0 := cf 0
              clear cf
              by_cases hfull : ((I.length + A.length : Nat) : Int) = s
              · have hfu : (((I.length : Int) + (A.length : Int)) == s) = true := by simp only [beq_iff_eq]; omega
                have HQ : Hid (evS s I A g = (evI I, evA I A, g ++ [evP I A])) := by show _ = _; unfold evS; rw [if_pos hfull]
                have hne : I ≠ [] ∨ A ≠ [] := by
                  by_cases hi : I = []
                  · right; rintro rfl; subst hi; simp at hfull; omega
                  · exact .inl hi
                have HNE := Lib.hid hne
                have hef : fits (evP I A) := HSUB.out _ ((ev_perm I A hne).mem_iff.1 (by simp))
                clear hne hfull
                go_upto_region 23 with (first | (go_at_call 35; refine (levict_any w1 w.heap.size (w.heap.size + 1 + 1) _ _ gi ga I A bd HM1.out.ls HNE.out ⟨by omega, by omega⟩).mono ?_; rintro e w2 ⟨rfl, vi2, va2, gi2, ga2, hl2, hk2, hi2, ha2⟩; (obtain ⟨ai2, ni2, ci2, rfl⟩ := hl2.oi.form); (obtain rfl := own_len hl2.oi); (obtain ⟨aa2, na2, ca2, rfl⟩ := hl2.oa.form); (obtain rfl := own_len hl2.oa); have HM2 := Lib.hid (HM1.out.lists (hk2.mono fun k _ hk => .inl hk) hl2 (fun b hb => .inl (hi2 b hb)) fun b hb => .inl (ha2 b hb)); have hb2 := hk2.low hb1 fun k hk e => HM1.out.low k hk (.inr (.inl (.inl e))); clear hl2 hk2 hi2 ha2) | (go_at_call 26; refine (hevict_any w2 w.heap.size (w.heap.size + 1) w.heap.size nm g _ HM2.out.hist hef (by omega) (by omega)).mono ?_; rintro e w3 ⟨rfl, hm3, hk3⟩; have HM3 := Lib.hid (HM2.out.evicted hk3 hm3); have hb3 := hk3.low hb2 fun k hk e => HM2.out.low k hk (.inl e); clear hm3 hk3))
                clear c0 c1 c2 f0
                obtain ⟨e1, e2, e3, e4, e5, e6⟩ := HEV.out
                rw [HQ.out] at e1 e2 e3 e5 e6
                simp only at e1 e2 e3 e5 e6
                have q1 : (evI I).length ≤ 10000 := by omega
                have q2 : (evA I A).length ≤ 10000 := by omega
                clear e1 e2 e3 e4 e5 e6
                obtain ⟨b0, b1', b2', bf⟩ := HM3.out.ls.cells
                have bf0 := bf 0
                clear bf
                by_cases hact : actv d ((evA I A).length : Nat) = true
                · have hd0 : (0 : Int) ≤ d := by unfold actv at hact; simp at hact; omega
                  have HACT := Lib.hid hact
                  have HS : Hid (lsS s bd (xs.take (k + 1)) = (actI (evI I) (evA I A) bd p, actA (evA I A) bd p, (g ++ [evP I A]), out ++ [d])) := by show _ = _; rw [HST.out]; unfold lsStep; simp only []; rw [if_neg HA.out, if_neg HI.out, HQ.out, ← HD.out]; unfold fltS; simp only []; rw [if_pos hact]
                  clear hact
                  go_upto_region 24 with (go_at_call 14; refine (activate_any d _ _ ⟨by omega, by omega⟩ (by unfold fits; omega)).mono ?_; rintro e wv ⟨rfl, hwv⟩; rw [hwv, HACT.out]; clear hwv wv)
                  go_wp2_with (go_at_call 34; refine (lactivate_any w3 w.heap.size (w.heap.size + 1 + 1) _ _ gi2 ga2 (evI I) (evA I A) bd p HM3.out.ls hpf ⟨by omega, by omega⟩ ⟨by omega, by omega⟩ hb3.size).mono ?_; rintro e w8 ⟨rfl, vi8, va8, gi8, ga8, hl8, hk8, hi8, ha8⟩; have HM8 : Hid (LM w8 w.heap.size (w.heap.size + 1) w.heap.size (w.heap.size + 1 + 1) (nm + 1) vi8 va8 (.slice a1 n1 c1') gi8 ga8 g1 (actI (evI I) (evA I A) bd p) (actA (evA I A) bd p) bd (g ++ [evP I A]) (out ++ [d])) := HM3.out.lists hk8 hl8 hi8 ha8; have hb8 := hk8.low hb3 fun k hk e => HM3.out.low k hk (.inr (.inl e)); clear hl8 hk8 hi8 ha8)
                  go_roundg (xs.length - (k + 1))
                  case rel => exact ⟨k + 1, nm + 1, _, _, gi8, ga8, g1, by go_num, by omega, by omega, rfl, by
                    show LM _ _ _ _ _ _ _ _ _ _ _ _ _ _ _ _ _
                    rw [HS.out]; exact HM8.out, hb8⟩
                  case measure => have := hn.out; omega
                · have HS : Hid (lsS s bd (xs.take (k + 1)) = ((evI I) ++ [p], (evA I A), (g ++ [evP I A]), out ++ [d])) := by show _ = _; rw [HST.out]; unfold lsStep; simp only []; rw [if_neg HA.out, if_neg HI.out, HQ.out, ← HD.out]; unfold fltS; simp only []; rw [if_neg hact]
                  have HACT : Hid (actv d ((evA I A).length : Nat) = false) := by show _ = _; simpa using hact
                  clear hact
                  obtain ⟨wp, hwp⟩ : ∃ wp, wp = w3.alloc (.cells #[.int .i64 p] 3) := ⟨_, rfl⟩
                  have hbelwp : Below w3.heap.size w3 wp := by rw [hwp]; exact (Below.refl _ w3).alloc (Nat.le_refl _) _
                  have HMwp : Hid (LM wp w.heap.size (w.heap.size + 1) w.heap.size (w.heap.size + 1 + 1) (nm + 1) (.slice ai2 (evI I).length ci2) (.slice aa2 (evA I A).length ca2) (.slice a1 n1 c1') gi2 ga2 g1 (evI I) (evA I A) bd (g ++ [evP I A]) (out ++ [d])) := HM3.out.below hbelwp
                  have HCwp : Hid (wp.cell? ⟨w3.heap.size, 0, none⟩ = some (.int .i64 p)) := by show _ = _; rw [hwp, cell_of_block (heap_alloc_new w3 _)]; simp
                  have hbwp : Below w.heap.size w wp := hb3.trans (hbelwp.mono hb3.size)
                  have hswp := hbwp.size
                  have HWwp := Lib.hid hwp; clear hwp hbelwp
                  by_cases hd0 : (0 : Int) ≤ d
                  · go_wp2_with (first | (go_at_call 14; refine (activate_any d _ _ ⟨by omega, by omega⟩ (by unfold fits; omega)).mono ?_; rintro e wv ⟨rfl, hwv⟩; rw [hwv, HACT.out]; clear hwv wv) | (at_builtin; rw [← HWwp.out]; refine wpList_push rfl _ _ rfl w.heap.size gi2 _ (evI I) rfl HMwp.out.ls.oi _ _ p rfl HCwp.out (by (try simp); omega) (by omega) ?_; intro a8 n8 c8 g8 w8 ho8 hn8 hk8 hg8; (obtain ⟨h81, h82⟩ := HMwp.out.ls.setI hk8 ho8 (fun b hb => (hg8 b hb).imp id fun h => h.1)); have HM8 := Lib.hid (HMwp.out.lists (h82.mono fun k _ hk => hk.imp id .inl) h81 (fun b hb => (hg8 b hb).imp id fun h => h.1) fun b hb => .inl hb); have hb8 := h82.low hbwp (fun k hk e => HMwp.out.low k hk (.inr (.inl (e.imp id .inl)))); (obtain ⟨x0, xf⟩ := box_after hk8 HMwp.out.ls.box HMwp.out.ls.nei); clear ho8 hn8 hg8 hk8 h81 h82))
                    go_roundg (xs.length - (k + 1))
                    case rel => exact ⟨k + 1, nm + 1, _, _, g8, ga2, g1, by go_num, by omega, by omega, rfl, by
                      show LM _ _ _ _ _ _ _ _ _ _ _ _ _ _ _ _ _
                      rw [HS.out]; exact HM8.out, hb8⟩
                    case measure => have := hn.out; omega
                  · have hd1 : d < 0 := by omega
                    go_wp2_with (at_builtin; rw [← HWwp.out]; refine wpList_push rfl _ _ rfl w.heap.size gi2 _ (evI I) rfl HMwp.out.ls.oi _ _ p rfl HCwp.out (by (try simp); omega) (by omega) ?_; intro a8 n8 c8 g8 w8 ho8 hn8 hk8 hg8; (obtain ⟨h81, h82⟩ := HMwp.out.ls.setI hk8 ho8 (fun b hb => (hg8 b hb).imp id fun h => h.1)); have HM8 := Lib.hid (HMwp.out.lists (h82.mono fun k _ hk => hk.imp id .inl) h81 (fun b hb => (hg8 b hb).imp id fun h => h.1) fun b hb => .inl hb); have hb8 := h82.low hbwp (fun k hk e => HMwp.out.low k hk (.inr (.inl (e.imp id .inl)))); (obtain ⟨x0, xf⟩ := box_after hk8 HMwp.out.ls.box HMwp.out.ls.nei); clear ho8 hn8 hg8 hk8 h81 h82)
                    go_roundg (xs.length - (k + 1))
                    case rel => exact ⟨k + 1, nm + 1, _, _, g8, ga2, g1, by go_num, by omega, by omega, rfl, by
                      show LM _ _ _ _ _ _ _ _ _ _ _ _ _ _ _ _ _
                      rw [HS.out]; exact HM8.out, hb8⟩
                    case measure => have := hn.out; omega
              · have hfu : (((I.length : Int) + (A.length : Int)) == s) = false := by simp only [beq_eq_false_iff_ne, ne_eq]; omega
                have HQ : Hid (evS s I A g = (I, A, g)) := by show _ = _; unfold evS; rw [if_neg hfull]
                clear hfull
                go_upto_region 23 with fail
                clear c0 c1 c2 f0
                obtain ⟨e1, e2, e3, e4, e5, e6⟩ := HEV.out
                rw [HQ.out] at e1 e2 e3 e5 e6
                simp only at e1 e2 e3 e5 e6
                have q1 : I.length ≤ 10000 := by omega
                have q2 : A.length ≤ 10000 := by omega
                clear e1 e2 e3 e4 e5 e6
                obtain ⟨b0, b1', b2', bf⟩ := HM1.out.ls.cells
                have bf0 := bf 0
                clear bf
                by_cases hact : actv d (A.length : Nat) = true
                · have hd0 : (0 : Int) ≤ d := by unfold actv at hact; simp at hact; omega
                  have HACT := Lib.hid hact
                  have HS : Hid (lsS s bd (xs.take (k + 1)) = (actI I A bd p, actA A bd p, g, out ++ [d])) := by show _ = _; rw [HST.out]; unfold lsStep; simp only []; rw [if_neg HA.out, if_neg HI.out, HQ.out, ← HD.out]; unfold fltS; simp only []; rw [if_pos hact]
                  clear hact
                  go_upto_region 24 with (go_at_call 14; refine (activate_any d _ _ ⟨by omega, by omega⟩ (by unfold fits; omega)).mono ?_; rintro e wv ⟨rfl, hwv⟩; rw [hwv, HACT.out]; clear hwv wv)
                  go_wp2_with (go_at_call 34; refine (lactivate_any w1 w.heap.size (w.heap.size + 1 + 1) _ _ gi ga I A bd p HM1.out.ls hpf ⟨by omega, by omega⟩ ⟨by omega, by omega⟩ hb1.size).mono ?_; rintro e w8 ⟨rfl, vi8, va8, gi8, ga8, hl8, hk8, hi8, ha8⟩; have HM8 : Hid (LM w8 w.heap.size (w.heap.size + 1) w.heap.size (w.heap.size + 1 + 1) nm vi8 va8 (.slice a1 n1 c1') gi8 ga8 g1 (actI I A bd p) (actA A bd p) bd g (out ++ [d])) := HM1.out.lists hk8 hl8 hi8 ha8; have hb8 := hk8.low hb1 fun k hk e => HM1.out.low k hk (.inr (.inl e)); clear hl8 hk8 hi8 ha8)
                  go_roundg (xs.length - (k + 1))
                  case rel => exact ⟨k + 1, nm, _, _, gi8, ga8, g1, by go_num, by omega, by omega, rfl, by
                    show LM _ _ _ _ _ _ _ _ _ _ _ _ _ _ _ _ _
                    rw [HS.out]; exact HM8.out, hb8⟩
                  case measure => have := hn.out; omega
                · have HS : Hid (lsS s bd (xs.take (k + 1)) = (I ++ [p], A, g, out ++ [d])) := by show _ = _; rw [HST.out]; unfold lsStep; simp only []; rw [if_neg HA.out, if_neg HI.out, HQ.out, ← HD.out]; unfold fltS; simp only []; rw [if_neg hact]
                  have HACT : Hid (actv d (A.length : Nat) = false) := by show _ = _; simpa using hact
                  clear hact
                  obtain ⟨wp, hwp⟩ : ∃ wp, wp = w1.alloc (.cells #[.int .i64 p] 3) := ⟨_, rfl⟩
                  have hbelwp : Below w1.heap.size w1 wp := by rw [hwp]; exact (Below.refl _ w1).alloc (Nat.le_refl _) _
                  have HMwp : Hid (LM wp w.heap.size (w.heap.size + 1) w.heap.size (w.heap.size + 1 + 1) nm (.slice ai I.length ci) (.slice aa A.length ca) (.slice a1 n1 c1') gi ga g1 I A bd g (out ++ [d])) := HM1.out.below hbelwp
                  have HCwp : Hid (wp.cell? ⟨w1.heap.size, 0, none⟩ = some (.int .i64 p)) := by show _ = _; rw [hwp, cell_of_block (heap_alloc_new w1 _)]; simp
                  have hbwp : Below w.heap.size w wp := hb1.trans (hbelwp.mono hb1.size)
                  have hswp := hbwp.size
                  have HWwp := Lib.hid hwp; clear hwp hbelwp
                  by_cases hd0 : (0 : Int) ≤ d
                  · go_wp2_with (first | (go_at_call 14; refine (activate_any d _ _ ⟨by omega, by omega⟩ (by unfold fits; omega)).mono ?_; rintro e wv ⟨rfl, hwv⟩; rw [hwv, HACT.out]; clear hwv wv) | (at_builtin; rw [← HWwp.out]; refine wpList_push rfl _ _ rfl w.heap.size gi _ I rfl HMwp.out.ls.oi _ _ p rfl HCwp.out (by (try simp); omega) (by omega) ?_; intro a8 n8 c8 g8 w8 ho8 hn8 hk8 hg8; (obtain ⟨h81, h82⟩ := HMwp.out.ls.setI hk8 ho8 (fun b hb => (hg8 b hb).imp id fun h => h.1)); have HM8 := Lib.hid (HMwp.out.lists (h82.mono fun k _ hk => hk.imp id .inl) h81 (fun b hb => (hg8 b hb).imp id fun h => h.1) fun b hb => .inl hb); have hb8 := h82.low hbwp (fun k hk e => HMwp.out.low k hk (.inr (.inl (e.imp id .inl)))); (obtain ⟨x0, xf⟩ := box_after hk8 HMwp.out.ls.box HMwp.out.ls.nei); clear ho8 hn8 hg8 hk8 h81 h82))
                    go_roundg (xs.length - (k + 1))
                    case rel => exact ⟨k + 1, nm, _, _, g8, ga, g1, by go_num, by omega, by omega, rfl, by
                      show LM _ _ _ _ _ _ _ _ _ _ _ _ _ _ _ _ _
                      rw [HS.out]; exact HM8.out, hb8⟩
                    case measure => have := hn.out; omega
                  · have hd1 : d < 0 := by omega
                    go_wp2_with (at_builtin; rw [← HWwp.out]; refine wpList_push rfl _ _ rfl w.heap.size gi _ I rfl HMwp.out.ls.oi _ _ p rfl HCwp.out (by (try simp); omega) (by omega) ?_; intro a8 n8 c8 g8 w8 ho8 hn8 hk8 hg8; (obtain ⟨h81, h82⟩ := HMwp.out.ls.setI hk8 ho8 (fun b hb => (hg8 b hb).imp id fun h => h.1)); have HM8 := Lib.hid (HMwp.out.lists (h82.mono fun k _ hk => hk.imp id .inl) h81 (fun b hb => (hg8 b hb).imp id fun h => h.1) fun b hb => .inl hb); have hb8 := h82.low hbwp (fun k hk e => HMwp.out.low k hk (.inr (.inl (e.imp id .inl)))); (obtain ⟨x0, xf⟩ := box_after hk8 HMwp.out.ls.box HMwp.out.ls.nei); clear ho8 hn8 hg8 hk8 h81 h82)
                    go_roundg (xs.length - (k + 1))
                    case rel => exact ⟨k + 1, nm, _, _, g8, ga, g1, by go_num, by omega, by omega, rfl, by
                      show LM _ _ _ _ _ _ _ _ _ _ _ _ _ _ _ _ _
                      rw [HS.out]; exact HM8.out, hb8⟩
                    case measure => have := hn.out; omega
        · have HN : Hid (lsOut s bd xs = (lsS s bd (xs.take k)).2.2.2) := by
            show _ = _
            unfold lsOut; rw [if_pos HL.out, List.take_of_length_le (by omega)]
          go_wp2_with fail
          go_ret2
          exact ⟨_, by rw [HL.out]; rfl, hbl, by rw [HN.out]; exact hM.out.oo.rd⟩
  · have hne : (chkE xs.length s != 0) = true := by simpa using he
    have HN : Hid (lsOut s bd xs = [] ∧ lsE xs.length s bd = chkE xs.length s) := by
      have e : lsE xs.length s bd = chkE xs.length s := by unfold lsE; rw [if_neg he]
      exact ⟨by unfold lsOut; rw [e, if_neg he], e⟩
    clear he hx
    go_enter Try.func19, Try.ntmps19
    go_wp2_with (go_at_call 24; refine (check_any xs.length s _ (by omega) hs).mono ?_; rintro e w' ⟨rfl, hw'⟩; rw [hw']; clear hw' w')
    go_ret2
    exact ⟨_, by rw [HN.out.2]; rfl, Below.refl _ _, by rw [HN.out.1]; exact .inl ⟨rfl, _, _, rfl⟩⟩
end Go.Proofs.Ytbalmmaoiebppaa
