/- put: a block is put back into a zone that is the caller's own, and joined with its buddy as long as that is free. Conditions: the free lists are valid, the block in the zone and none of its frames free. -/
import Derived.Test.YtcmmoemmlellbaaBox
import Derived.Deep.RegionHeld3
import Derived.Deep.DeepCutAuto
import Derived.StillTailTactics
import Derived.Lib.Hide
import Derived.Deep.CutBlock
import Derived.Deep.CutRange
import Derived.Deep.DeepFit
import Derived.Deep.RegionLaw
import Derived.Deep.AppendLies
namespace Go.Proofs.Ytcmmoemmlellbaa
open Go.RowKit

/-- a zone that is the caller's own: its box, and its slices in blocks apart -/
structure ZS (w : World) (base B : Nat) (z : Zh) (s : Nat → Value) (L : FL) (g : Nat → Option Nat) : Prop where
  box : boxed w B z s
  lo : base ≤ B
  own : ∀ k, k ≤ 4 → own w base (g k) (s k) (L k)
  apart : ∀ j k, j ≤ 4 → k ≤ 4 → j ≠ k → ∀ b, g j = some b → g k ≠ some b
  notB : ∀ k, k ≤ 4 → g k ≠ some B

def updV (s : Nat → Value) (k : Nat) (v : Value) : Nat → Value := fun j => if j = k then v else s j
def updG (g : Nat → Option Nat) (k : Nat) (v : Option Nat) : Nat → Option Nat := fun j => if j = k then v else g j

theorem five {P : Nat → Prop} (h0 : P 0) (h1 : P 1) (h2 : P 2) (h3 : P 3) (h4 : P 4) : ∀ k, k ≤ 4 → P k
  | 0, _ => h0 | 1, _ => h1 | 2, _ => h2 | 3, _ => h3 | 4, _ => h4

theorem box_field {w : World} {B : Nat} {a0 a1 a2 a3 a4 : Value} {s : Nat → Value} (h : w.heap[B]? = some (.cells #[a0, a1, a2, a3, a4, s 0, s 1, s 2, s 3, s 4] 25 (0, 0))) : ∀ k, k ≤ 4 → w.cell? ⟨B, 5 + k, none⟩ = some (s k) :=
  five (by rw [cell_of_block h]; simp) (by rw [cell_of_block h]; simp) (by rw [cell_of_block h]; simp) (by rw [cell_of_block h]; simp) (by rw [cell_of_block h]; simp)

theorem ZS.field {w : World} {base B : Nat} {z : Zh} {s : Nat → Value} {L : FL} {g : Nat → Option Nat} (h : ZS w base B z s L g) : ∀ k, k ≤ 4 → w.cell? ⟨B, 5 + k, none⟩ = some (s k) :=
  five (by rw [cell_of_block h.box]; simp) (by rw [cell_of_block h.box]; simp) (by rw [cell_of_block h.box]; simp) (by rw [cell_of_block h.box]; simp) (by rw [cell_of_block h.box]; simp)

theorem ZS.head {w : World} {base B : Nat} {z : Zh} {s : Nat → Value} {L : FL} {g : Nat → Option Nat} (h : ZS w base B z s L g) :
    w.cell? ⟨B, 0, none⟩ = some (.int .i64 z.nd) ∧ w.cell? ⟨B, 1, none⟩ = some (.int .i64 z.kd) ∧ w.cell? ⟨B, 2, none⟩ = some (.int .i64 z.st) ∧ w.cell? ⟨B, 3, none⟩ = some (.int .i64 z.ct) ∧ w.cell? ⟨B, 4, none⟩ = some (.int .i64 z.mn) ∧
    w.cell? ⟨B, 5, none⟩ = some (s 0) ∧ w.cell? ⟨B, 6, none⟩ = some (s 1) ∧ w.cell? ⟨B, 7, none⟩ = some (s 2) ∧ w.cell? ⟨B, 8, none⟩ = some (s 3) ∧ w.cell? ⟨B, 9, none⟩ = some (s 4) := by
  refine ⟨?_, ?_, ?_, ?_, ?_, ?_, ?_, ?_, ?_, ?_⟩ <;> (rw [cell_of_block h.box]; simp)

theorem ZS.below {w w' : World} {base B : Nat} {z : Zh} {s : Nat → Value} {L : FL} {g : Nat → Option Nat} (h : ZS w base B z s L g) (hb : Below w.heap.size w w') : ZS w' base B z s L g :=
  ⟨(hb.block B (lt_of_block h.box)).trans h.box, h.lo, fun k hk => (h.own k hk).keeps (P := fun _ => False) (Keeps.of_below hb) (fun _ _ => id), h.apart, h.notB⟩

theorem five_cells (a0 a1 a2 a3 a4 : Value) (s : Nat → Value) (v : Value) : ∀ k, k ≤ 4 → (#[a0, a1, a2, a3, a4, s 0, s 1, s 2, s 3, s 4] : Array Value).setIfInBounds (5 + k) v = #[a0, a1, a2, a3, a4, updV s k v 0, updV s k v 1, updV s k v 2, updV s k v 3, updV s k v 4] :=
  five (by simp [updV]) (by simp [updV]) (by simp [updV]) (by simp [updV]) (by simp [updV])

theorem ZS.set {w w1 : World} {base B : Nat} {z : Zh} {s : Nat → Value} {L : FL} {g : Nat → Option Nat} (h : ZS w base B z s L g) {k : Nat} (hk : k ≤ 4) (hK : Keeps (fun j => g k = some j) w w1) {g1 : Option Nat} {v : Value} {xs : List Int}
    (ho : Go.Proofs.Ytcmmoemmlellbaa.own w1 base g1 v xs) (hg : ∀ b, g1 = some b → g k = some b ∨ (w.heap.size ≤ b ∧ b < w1.heap.size)) (hbase : base ≤ w.heap.size) :
    ZS (w1.setCell ⟨B, 5 + k, none⟩ v) base B z (updV s k v) (upd L k xs) (updG g k g1) ∧ Below base w (w1.setCell ⟨B, 5 + k, none⟩ v) := by
  have hB := lt_of_block h.box
  have hbox1 : w1.heap[B]? = w.heap[B]? := hK.block B hB (h.notB k hk)
  have hset : Keeps (· = B) w1 (w1.setCell ⟨B, 5 + k, none⟩ v) := ⟨rfl, rfl, rfl, by simp [World.setCell], fun j _ hp => Below.heap_setCell w1 ⟨B, 5 + k, none⟩ v j hp⟩
  have hg1B : g1 ≠ some B := fun e => by
    rcases hg B e with h1 | h1
    · exact h.notB k hk h1
    · omega
  refine ⟨⟨?_, h.lo, ?_, ?_, ?_⟩, ?_⟩
  · unfold boxed; rw [heap_setCell_at (hbox1.trans h.box), five_cells _ _ _ _ _ _ _ k hk]
  · intro j hj
    by_cases hjk : j = k
    · subst hjk
      simp only [updV, upd, updG, if_true]
      exact ho.keeps hset fun b hb hb' => hg1B (by rw [hb, hb'])
    · simp only [updV, upd, updG, if_neg hjk]
      refine ((h.own j hj).keeps hK fun b hb hb' => h.apart k j hk hj (Ne.symm hjk) b hb' hb).keeps hset fun b hb hb' => h.notB j hj (by rw [hb, hb'])
  · intro i j hi hj hij b hb
    simp only [updG] at hb ⊢
    by_cases h1 : i = k
    · subst h1
      rw [if_pos rfl] at hb
      rw [if_neg (Ne.symm hij)]
      rcases hg b hb with h2 | h2
      · exact h.apart i j hi hj hij b h2
      · intro h3; have := h.own j hj; rw [h3] at this; have := this.lt; omega
    · rw [if_neg h1] at hb
      by_cases h2 : j = k
      · subst h2
        rw [if_pos rfl]
        intro h3
        rcases hg b h3 with h4 | h4
        · exact h.apart i j hi hj hij b hb h4
        · have := h.own i hi; rw [hb] at this; have := this.lt; omega
      · rw [if_neg h2]; exact h.apart i j hi hj hij b hb
  · intro j hj
    by_cases h1 : j = k
    · subst h1; simp only [updG, if_true]; exact hg1B
    · simp only [updG, if_neg h1]; exact h.notB j hj
  · have h1 : Below base w w1 := hK.to_below hbase fun j hj h2 => by have := h.own k hk; rw [h2] at this; have := this.lt; omega
    exact h1.setCell h.lo v

theorem bits_tab : ∀ n : Fin 256, ∀ k : Fin 5, (n.val : Int) % 2 ^ k.val = 0 → bits BinOp.xor IntKind.i64 (n.val : Int) (2 ^ k.val) = bud n.val k.val := by
  decide +kernel
theorem bits_bud {f : Int} {k : Nat} (h0 : 0 ≤ f) (h1 : f < 256) (hk : k ≤ 4) (hm : f % 2 ^ k = 0) : bits BinOp.xor IntKind.i64 f (wrap64 (2 ^ k)) = bud f k := by
  obtain ⟨n, rfl⟩ := Int.eq_ofNat_of_zero_le h0
  have e : wrap64 (2 ^ k) = 2 ^ k := by
    unfold wrap64
    rcases pow_cases hk with ⟨e', _⟩ | ⟨e', _⟩ | ⟨e', _⟩ | ⟨e', _⟩ | ⟨e', _⟩ <;> rw [e'] <;> omega
  rw [e]
  exact bits_tab ⟨n, by omega⟩ ⟨k, by omega⟩ hm

set_option maxRecDepth 100000 in
set_option maxHeartbeats 800000 in
theorem put_any (z : Zh) (s : Nat → Value) (L : FL) (g : Nat → Option Nat) (f : Int) (o : Nat) (w : World) (base B : Nat) (hz : z.ok = true) (hs : ZS w base B z s L g) (hbase : base ≤ w.heap.size) (v : Valid z L) (ho : o ≤ 4)
    (hi : insB z f o = true) (hd : ∀ x, inBlk x f o → ¬ free L x) :
    Calls Try.prog 48 #[.pointer (some ⟨B, 0, none⟩), .int .i64 f, .int .i64 o] w fun e w' => e = .returned (.tuple #[]) ∧ ∃ s' g', ZS w' base B z s' (putM z (4 - o) L f o) g' ∧ Below base w w' := by
  have HS := Lib.hid hs; clear hs
  have HV := Lib.hid v; clear v
  have HD := Lib.hid hd; clear hd
  have HI := Lib.hid hi; clear hi
  have HZ := Lib.hid hz; clear hz
  go_enter Try.func48, Try.ntmps48
  go_upto_block 0 with (fail)
  go_cut [1, 2] from 11 (fun s1 s2 wx => ∃ (f' : Int) (o' : Nat) (s' : Nat → Value) (L' : FL) (g' : Nat → Option Nat), s1 = .int .i64 f' ∧ s2 = .int .i64 o' ∧ o' ≤ 4 ∧ ZS wx base B z s' L' g' ∧ Valid z L' ∧ insB z f' o' = true ∧ (∀ x, inBlk x f' o' → ¬ free L' x) ∧ Below base w wx ∧ putM z (4 - o) L f o = upd L' o' (insAt (L' o') f'))
  case first =>
    go_wp2_with (fail)
    go_loopg [1, 2] (4 - o) (fun n s1 s2 wr => ∃ (f' : Int) (o' : Nat) (s' : Nat → Value) (L' : FL) (g' : Nat → Option Nat), s1 = .int .i64 f' ∧ s2 = .int .i64 o' ∧ Hid (n = 4 - o') ∧ o' ≤ 4 ∧ ZS wr base B z s' L' g' ∧ Hid (Valid z L') ∧ Hid (insB z f' o' = true) ∧ Hid (∀ x, inBlk x f' o' → ¬ free L' x) ∧ Below base w wr ∧ Hid (putM z (4 - o) L f o = putM z (4 - o') L' f' o'))
    case atStart => exact ⟨f, o, s, L, g, rfl, rfl, rfl, ho, HS.out, HV, HI, HD, Below.refl _ _, rfl⟩
    case round =>
      obtain ⟨f', o', s', L', g', rfl, rfl, hn, ho', hs', v', hi', hd', hb', hput⟩ := hrel
      have hzz := Zh.ok_iff.1 HZ.out
      have hii := insB_iff.1 hi'.out
      have hp := pow_pos' o'
      have hx : o' < 4 → bits BinOp.xor IntKind.i64 f' (wrap64 (2 ^ o')) = bud f' o' := fun _ => bits_bud (by omega) (by omega) ho' hii.2.1
      have hbc := bud_cases ho' hii.2.1
      have hbx : 0 - 16 ≤ bud f' o' ∧ bud f' o' ≤ 300 := by rcases pow_cases ho' with ⟨e, _⟩ | ⟨e, _⟩ | ⟨e, _⟩ | ⟨e, _⟩ | ⟨e, _⟩ <;> rw [e] at hbc hii <;> omega
      have hc := hs'.field o' ho'
      have hrd := (hs'.own o' ho').rd
      have hf0 : 0 ≤ f' := by omega
      have hf1 : f' ≤ 255 := by omega
      have HH : Hid (insB z f' o' = true ∧ ZS wr base B z s' L' g' ∧ z.ok = true) := ⟨hi', hs', HZ.out⟩
      have hlen := v'.out.len HZ.out ho'
      clear hii hbc hp hzz hs'
      by_cases h4 : o' < 4
      · have hx' := hx h4
        clear hx
        by_cases hb : bud f' o' ∈ L' o'
        · by_cases hu : insB z (min f' (bud f' o')) (o' + 1) = true
          · go_upto_region 4 with (first | (go_at_call 43; refine (search_any (s' o') (L' o') (bud f' o') _ hrd (v'.out.sorted o' ho') (by omega)).mono ?_; rintro e w1 ⟨rfl, hb1⟩; have hs1 := HH.out.2.1.below hb1; have hc1 := hs1.field o' ho'; obtain ⟨c0, c1, c2, c3, c4, c5, c6, c7, c8, c9⟩ := hs1.head; have HH1 := Lib.hid hs1; clear hs1) | (go_at_call 42; refine (inside_any z s' (min f' (bud f' o')) (o' + 1) _ HZ.out (by unfold fits; omega) (by omega)).mono ?_; rintro e w2 ⟨rfl, hb2⟩))
            have hz2 : ZS w2 base B z s' L' g' := HH1.out.below hb2
            have H2 := Lib.hid (hz2.below ((Below.refl _ w2).drew)); clear hz2
            have hc2 : w2.cell? ⟨B, 5 + o', none⟩ = some (s' o') := H2.out.field o' ho'
            have hi5 : (o' : Int) < 5 := by omega
            have hpl := pos_le (L' o') (bud f' o')
            have hw1 : IntKind.i64.wrap ((pos (L' o') (bud f' o') : Int) + 1) = (pos (L' o') (bud f' o') : Int) + 1 := IntWalk.i64_in _ (by omega)
            go_region_law (first | (go_simp; go_at_call 53; with_reducible refine (delete_at (s' o') (L' o') (bud f' o') w2.drew base (g' o') (H2.out.own o' ho') hb).mono ?_; rintro e w3 ⟨a3, n3, k3, rfl, ho3, hk3⟩; (have hb3 := (hk3.block B (lt_of_block H2.out.box) (H2.out.notB o' ho')).trans H2.out.box); have hc3 := box_field hb3 o' ho'; have hf3 : w3.frozen? ⟨B, 5 + o', none⟩ = false := frozen_of_block hb3 _; clear hb3))
            clear hw1
            go_wp2_with fail
            have hbs : base ≤ w2.drew.heap.size := Nat.le_trans hbase (Nat.le_trans hb'.size (Nat.le_trans hb1.size hb2.size))
            have hset := H2.out.set ho' hk3 ho3 (fun b hb => .inl hb) hbs
            have hjs := v'.out.join_step h4 hi'.out hd'.out hb
            go_roundg (4 - (o' + 1))
            case rel =>
              exact ⟨min f' (bud f' o'), o' + 1, _, _, _, rfl, by go_num, rfl, by omega, hset.1, hjs.1, hu, hjs.2,
                ((hb'.trans (hb1.mono (Nat.le_trans hbase hb'.size))).trans (hb2.mono (Nat.le_trans hbase (Nat.le_trans hb'.size hb1.size)))).drew.trans hset.2, hput.out.trans (putM_join h4 hb hu)⟩
            case measure => have := hn.out; omega
          · have hu' : insB z (min f' (bud f' o')) (o' + 1) = false := by simpa using hu
            clear hu
            go_wp2_with (first | (go_at_call 43; refine (search_any (s' o') (L' o') (bud f' o') _ hrd (v'.out.sorted o' ho') (by omega)).mono ?_; rintro e w1 ⟨rfl, hb1⟩; have hs1 := HH.out.2.1.below hb1; have hc1 := hs1.field o' ho'; obtain ⟨c0, c1, c2, c3, c4, c5, c6, c7, c8, c9⟩ := hs1.head; have HH1 := Lib.hid hs1; clear hs1) | (go_at_call 42; refine (inside_any z s' (min f' (bud f' o')) (o' + 1) _ HZ.out (by unfold fits; omega) (by omega)).mono ?_; rintro e w2 ⟨rfl, hb2⟩))
            go_meet
            case rel => exact ⟨f', o', s', L', g', rfl, rfl, ho', HH1.out.below hb2, v'.out, hi'.out, hd'.out, (hb'.trans (hb1.mono (Nat.le_trans hbase hb'.size))).trans (hb2.mono (Nat.le_trans hbase (Nat.le_trans hb'.size hb1.size))), hput.out.trans (putM_stop fun _ _ h => by rw [hu'] at h; cases h)⟩
        · go_wp2_with (first | (go_at_call 43; refine (search_any (s' o') (L' o') (bud f' o') _ hrd (v'.out.sorted o' ho') (by omega)).mono ?_; rintro e w1 ⟨rfl, hb1⟩; have hs1 := HH.out.2.1.below hb1; have hc1 := hs1.field o' ho'; obtain ⟨c0, c1, c2, c3, c4, c5, c6, c7, c8, c9⟩ := hs1.head; have HH1 := Lib.hid hs1; clear hs1) | (go_at_call 42; refine (inside_any z s' (min f' (bud f' o')) (o' + 1) _ HZ.out (by unfold fits; omega) (by omega)).mono ?_; rintro e w2 ⟨rfl, hb2⟩))
          go_meet
          case rel => exact ⟨f', o', s', L', g', rfl, rfl, ho', HH1.out, v'.out, hi'.out, hd'.out, hb'.trans (hb1.mono (Nat.le_trans hbase hb'.size)), hput.out.trans (putM_stop fun _ h _ => hb h)⟩
      · go_wp2_with fail
        go_meet
        case rel => exact ⟨f', o', s', L', g', rfl, rfl, ho', HH.out.2.1, v'.out, hi'.out, hd'.out, hb', hput.out.trans (putM_stop fun h _ _ => absurd h h4)⟩
  case rest =>
    obtain ⟨f', o', s', L', g', rfl, rfl, ho', hs', v', hi', hd', hb', hput⟩ := hcut
    have hlen := v'.len HZ.out ho'
    have hrd := (hs'.own o' ho').rd
    have hc := hs'.field o' ho'
    have hi5 : (o' : Int) < 5 := by omega
    have HH : Hid (insB z f' o' = true ∧ ZS wc base B z s' L' g' ∧ Valid z L' ∧ (∀ x, inBlk x f' o' → ¬ free L' x) ∧ putM z (4 - o) L f o = upd L' o' (insAt (L' o') f')) := ⟨hi', hs', v', hd', hput⟩
    clear hi' hs' v' hd' hput
    go_upto_region 8 with (go_at_call 43; refine (search_any (s' o') (L' o') f' _ hrd (HH.out.2.2.1.sorted o' ho') (by omega)).mono ?_; rintro e w1 ⟨rfl, hb1⟩; have hs1 := HH.out.2.1.below hb1; have hc1 := hs1.field o' ho'; have HH1 := Lib.hid hs1; clear hs1)
    have hlt0 := alloc_at w1 (.cells #[.int .i64 f'] 3)
    have hbel : Below w1.heap.size w1 (w1.alloc (.cells #[.int .i64 f'] 3)).drew := ((Below.refl _ w1).alloc (Nat.le_refl _) _).drew
    have H2 := Lib.hid (HH1.out.below hbel)
    have H3 : Hid ((w1.alloc (.cells #[.int .i64 f'] 3)).drew.heap[w1.heap.size]? = some (.cells #[.int .i64 f'] 3 (0, 0))) := hlt0
    have hne : g' o' ≠ some w1.heap.size := fun h => by have h1 := HH1.out.own o' ho'; rw [h] at h1; have := h1.lt; omega
    have hbs1 : base ≤ w1.heap.size := Nat.le_trans hbase (Nat.le_trans hb'.size hb1.size)
    have hbs : base ≤ (w1.alloc (.cells #[.int .i64 f'] 3)).drew.heap.size := Nat.le_trans hbs1 hbel.size
    have HB := Lib.hid hbs
    have hca : (w1.alloc (.cells #[.int .i64 f'] 3)).cell? ⟨B, 5 + o', none⟩ = some (s' o') := H2.out.field o' ho'
    clear hlt0 hbs
    go_region_law (first | (go_simp; go_at_call 51; with_reducible refine (insert_at (s' o') (L' o') f' (w1.alloc (.cells #[.int .i64 f'] 3)).drew base w1.heap.size 1 (g' o') (H2.out.own o' ho') (by omega) H3.out hne HB.out).mono ?_; rintro e w3 ⟨a3, n3, k3, g3, rfl, ho3, hk3, hg3⟩; (have hb3 := (hk3.block B (lt_of_block H2.out.box) (H2.out.notB o' ho')).trans H2.out.box); have hc3 := box_field hb3 o' ho'; have hf3 : w3.frozen? ⟨B, 5 + o', none⟩ = false := frozen_of_block hb3 _; clear hb3))
    all_goals
      go_end0
      have hset := H2.out.set ho' hk3 ho3 hg3 HB.out
      exact ⟨rfl, _, _, HH.out.2.2.2.2 ▸ hset.1, ((hb'.trans (hb1.mono (Nat.le_trans hbase hb'.size))).trans (hbel.mono hbs1)).trans hset.2⟩
end Go.Proofs.Ytcmmoemmlellbaa
