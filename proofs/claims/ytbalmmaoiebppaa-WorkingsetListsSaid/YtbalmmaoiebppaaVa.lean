/- The small functions of both sides: walked. Conditions: the numbers fit. -/
import Derived.Test.YtbalmmaoiebppaaVp
import Derived.Test.YtbalmmaoiebppaaShelf
import Derived.BigQuiet
namespace Go.Proofs.Ytbalmmaoiebppaa
open Go.RowKit

/-- the distance of two readings, and its error -/
def disE (a b : Int) : Int := if a < 0 ∨ 1099511627776 < a ∨ b < 0 ∨ 1099511627776 < b then 2 else if b < a then 10 else 0
def disV (a b : Int) : Int := if disE a b = 0 then b - a else 0
theorem ret_two {a b c d : Int} (h : a = c) (h' : b = d) : Ending.returned (.tuple #[.int .i64 a, .int .i64 b]) = .returned (.tuple #[.int .i64 c, .int .i64 d]) := by rw [h, h']

set_option maxHeartbeats 1000000 in
theorem distance_any (a b : Int) (w : World) (ha : fits a) (hb : fits b) :
    Calls Try.prog 12 #[.int .i64 a, .int .i64 b] w fun e w' => e = .returned (.tuple #[.int .i64 (disV a b), .int .i64 (disE a b)]) ∧ w' = w := by
  obtain ⟨h1, h2⟩ := ha
  obtain ⟨h3, h4⟩ := hb
  by_cases h0 : a < 0 ∨ 1099511627776 < a ∨ b < 0 ∨ 1099511627776 < b
  · have e1 : disE a b = 2 := if_pos h0
    have e2 : disV a b = 0 := by unfold disV; rw [e1]; rfl
    rw [e1, e2]
    have hid : Hid (a < 0 ∨ 1099511627776 < a ∨ b < 0 ∨ 1099511627776 < b) := h0
    clear h0 e1 e2
    go_enter Try.func12, Try.ntmps12
    go_wp2
    all_goals go_ret2
    all_goals first | exact ⟨rfl, rfl⟩ | (exfalso; have := hid.out; omega)
  · have h5 : 0 ≤ a := by omega
    have h6 : a ≤ 1099511627776 := by omega
    have h7 : 0 ≤ b := by omega
    have h8 : b ≤ 1099511627776 := by omega
    have e1 : disE a b = if b < a then 10 else 0 := if_neg h0
    have hd : Hid (disE a b = (if b < a then 10 else 0) ∧ disV a b = (if b < a then 0 else b - a)) := ⟨e1, by unfold disV; rw [e1]; split <;> simp⟩
    clear h0 e1
    go_enter Try.func12, Try.ntmps12
    go_wp2
    all_goals go_ret2
    all_goals refine ⟨ret_two ?_ ?_, rfl⟩
    all_goals first | rw [hd.out.1] | rw [hd.out.2]
    all_goals split <;> omega

def actv (d s : Int) : Bool := decide (0 ≤ d ∧ d ≤ s)
set_option maxHeartbeats 1000000 in
theorem activate_any (d s : Int) (w : World) (ha : fits d) (hb : fits s) :
    Calls Try.prog 14 #[.int .i64 d, .int .i64 s] w fun e w' => e = .returned (.bool (actv d s)) ∧ w' = w := by
  obtain ⟨h1, h2⟩ := ha
  obtain ⟨h3, h4⟩ := hb
  go_enter Try.func14, Try.ntmps14
  go_wp2
  all_goals go_ret
  all_goals exact ⟨ret_bool (Bool.eq_iff_iff.2 (by simp [actv]; try omega)), rfl⟩
set_option maxHeartbeats 1000000 in
theorem ractivate_any (d s : Int) (w : World) (ha : fits d) (hb : fits s) :
    Calls Try.prog 15 #[.int .i64 d, .int .i64 s] w fun e w' => e = .returned (.bool (actv d s)) ∧ w' = w := by
  obtain ⟨h1, h2⟩ := ha
  obtain ⟨h3, h4⟩ := hb
  go_enter Try.func15, Try.ntmps15
  go_wp2
  all_goals go_ret
  all_goals exact ⟨ret_bool (Bool.eq_iff_iff.2 (by simp [actv]; try omega)), rfl⟩

/-- the error of a number of references and of a size -/
def chkE (n : Nat) (s : Int) : Int := if 10000 < n then 9 else if s < 1 ∨ 10000 < s then 2 else 0
set_option maxHeartbeats 1000000 in
theorem check_any (n : Nat) (s : Int) (w : World) (hn : n ≤ 9223372036854775807) (hb : fits s) :
    Calls Try.prog 24 #[.int .i64 (n : Int), .int .i64 s] w fun e w' => e = .returned (.int .i64 (chkE n s)) ∧ w' = w := by
  obtain ⟨h3, h4⟩ := hb
  go_enter Try.func24, Try.ntmps24
  go_wp2
  all_goals go_ret
  all_goals refine ⟨ret_int ?_, rfl⟩
  all_goals unfold chkE; (repeat' split) <;> omega
theorem rsizes_any (v : Value) (xs : List Int) (s : Int) (w : World) (h : rd w v xs) (hb : fits s) :
    Calls Try.prog 27 #[v, .int .i64 s] w fun e w' => e = .returned (.int .i64 (chkE xs.length s)) ∧ w' = w := by
  obtain ⟨h3, h4⟩ := hb
  obtain ⟨a, c, rfl, hlen, _⟩ := h.split
  clear h
  go_enter Try.func27, Try.ntmps27
  go_wp2
  all_goals go_ret
  all_goals refine ⟨ret_int ?_, rfl⟩
  all_goals unfold chkE; (repeat' split) <;> omega

def cnt (n : Int) : Bool := decide (0 ≤ n ∧ n ≤ 1099511627776)
theorem rcounter_any (a : Int) (w : World) (ha : fits a) :
    Calls Try.prog 23 #[.int .i64 a] w fun e w' => e = .returned (.bool (cnt a)) ∧ w' = w := by
  obtain ⟨h1, h2⟩ := ha
  go_enter Try.func23, Try.ntmps23
  go_wp2
  all_goals go_ret
  all_goals exact ⟨ret_bool (Bool.eq_iff_iff.2 (by simp [cnt]; try omega)), rfl⟩
set_option maxHeartbeats 1000000 in
theorem rdistance_any (a b : Int) (w : World) (ha : fits a) (hb : fits b) :
    Calls Try.prog 13 #[.int .i64 a, .int .i64 b] w fun e w' => e = .returned (.tuple #[.int .i64 (disV a b), .int .i64 (disE a b)]) ∧ w' = w := by
  have ha' := ha
  have hb' := hb
  obtain ⟨h1, h2⟩ := ha
  obtain ⟨h3, h4⟩ := hb
  have C1 : Hid (cnt a = true ↔ 0 ≤ a ∧ a ≤ 1099511627776) := by show _ ↔ _; simp [cnt]
  have C2 : Hid (cnt b = true ↔ 0 ≤ b ∧ b ≤ 1099511627776) := by show _ ↔ _; simp [cnt]
  by_cases c1 : cnt a = true
  · by_cases c2 : cnt b = true
    · have h5 := C1.out.1 c1
      have h6 := C2.out.1 c2
      have hd : Hid (disE a b = (if b < a then 10 else 0) ∧ disV a b = (if b < a then 0 else b - a)) := by
        have e1 : disE a b = if b < a then 10 else 0 := if_neg (by omega)
        exact ⟨e1, by unfold disV; rw [e1]; split <;> simp⟩
      go_enter Try.func13, Try.ntmps13
      go_wp2_with (go_at_call 23; refine (rcounter_any _ _ (by assumption)).mono ?_; rintro e w' ⟨rfl, rfl⟩)
      all_goals go_ret2
      all_goals refine ⟨ret_two ?_ ?_, rfl⟩
      all_goals first | rw [hd.out.1] | rw [hd.out.2]
      all_goals split <;> omega
    · have e1 : Hid (disE a b = 2) := if_pos (by have := mt C2.out.2 c2; omega)
      have e2 : Hid (disV a b = 0) := by show _ = _; unfold disV; rw [e1.out]; rfl
      have c2' : cnt b = false := by simpa using c2
      clear c2
      go_enter Try.func13, Try.ntmps13
      go_wp2_with (go_at_call 23; refine (rcounter_any _ _ (by assumption)).mono ?_; rintro e w' ⟨rfl, rfl⟩)
      all_goals go_ret2
      all_goals exact ⟨ret_two e2.out.symm e1.out.symm, rfl⟩
  · have e1 : Hid (disE a b = 2) := if_pos (by have := mt C1.out.2 c1; omega)
    have e2 : Hid (disV a b = 0) := by show _ = _; unfold disV; rw [e1.out]; rfl
    have c1' : cnt a = false := by simpa using c1
    clear c1
    go_enter Try.func13, Try.ntmps13
    go_wp2_with (go_at_call 23; refine (rcounter_any _ _ (by assumption)).mono ?_; rintro e w' ⟨rfl, rfl⟩)
    all_goals go_ret2
    all_goals exact ⟨ret_two e2.out.symm e1.out.symm, rfl⟩

set_option maxRecDepth 100000 in
set_option maxHeartbeats 1000000 in
theorem has_any (v : Value) (xs : List Int) (x : Int) (w : World) (h : rd w v xs) (hx : fits x) :
    Calls Try.prog 28 #[v, .int .i64 x] w fun e w' => e = .returned (.int .i64 (Lib.idxOf xs x)) ∧ w' = w := by
  obtain ⟨hx1, hx2⟩ := hx
  obtain ⟨a, c, rfl, hlen, hcell⟩ := h.split
  have HC := Lib.hid hcell
  clear h hcell
  go_enter Try.func28, Try.ntmps28
  go_wp2_with fail
  go_loopg [5] xs.length (fun n s5 wr => ∃ k : Nat, s5 = .int .i64 k ∧ k ≤ xs.length ∧ Hid (n = xs.length - k) ∧ Hid (∀ j, j < k → xs.getD j 0 ≠ x) ∧ wr = w)
  case atStart => exact ⟨0, rfl, by omega, rfl, fun j hj => by omega, rfl⟩
  case round =>
    obtain ⟨k, rfl, hk, hn, hp, rfl⟩ := hrel
    by_cases hlt : k < xs.length
    · have hlti : (k : Int) < (xs.length : Int) := by omega
      obtain ⟨b, o, rfl, hcl⟩ := HC.out k hlt
      have hc := hcl k hlt
      obtain ⟨y, hy⟩ : ∃ y, y = xs.getD k 0 := ⟨_, rfl⟩
      rw [← hy] at hc
      clear hcl
      have HY := Lib.hid hy; clear hy
      by_cases he : y = x
      · have HN : Hid (Lib.idxOf xs x = k) := by
          have := Lib.idxOf_hit xs xs.length k x hlt (Nat.le_refl _) (by rw [← HY.out]; exact he) hp.out
          rwa [List.take_length] at this
        subst he
        go_wp2_with fail
        go_ret
        exact ⟨ret_int HN.out.symm, rfl⟩
      · have hd : (y == x) = false := by simpa using he
        have hd' : decide (y = x) = false := by simpa using he
        go_wp2_with fail
        go_roundg (xs.length - (k + 1))
        case rel => exact ⟨k + 1, by go_num, by omega, rfl, fun j hj => by
          by_cases e : j = k
          · subst e; rw [← HY.out]; exact he
          · exact hp.out j (by omega), rfl⟩
        case measure => have := hn.out; omega
    · have HN : Hid (Lib.idxOf xs x = -1) := by
        have := Lib.idxOf_miss xs xs.length x fun j hj => hp.out j (by omega)
        rwa [List.take_length] at this
      go_wp2_with fail
      go_ret
      exact ⟨ret_int HN.out.symm, rfl⟩

theorem take_snoc {xs : List Int} {k : Nat} (h : k < xs.length) : xs.take (k + 1) = xs.take k ++ [xs.getD k 0] := by
  rw [List.take_succ_eq_append_getElem h, getD_eq h]

/-- the distance after k evictions of n -/
def dsp (n : Nat) (g : List Int) (p : Int) : Int := match lst g p with | none => -2 | some a => (n : Nat) - a
theorem dsp_hit {n : Nat} {g : List Int} {p : Int} : dsp n (g ++ [p]) p = (n : Int) - 1 - (g.length : Int) := by
  unfold dsp; rw [lst_snoc]; simp; omega
theorem dsp_miss {n : Nat} {g : List Int} {p x : Int} (h : x ≠ p) : dsp n (g ++ [x]) p = dsp n g p := by
  unfold dsp; rw [lst_snoc]; simp [Ne.symm h]

set_option maxRecDepth 100000 in
set_option maxHeartbeats 1000000 in
theorem rdist_any (v : Value) (xs : List Int) (x : Int) (w : World) (h : rd w v xs) (hx : fits x) (hl : xs.length ≤ 100000) :
    Calls Try.prog 29 #[v, .int .i64 x] w fun e w' => e = .returned (.int .i64 (dst xs x)) ∧ w' = w := by
  obtain ⟨hx1, hx2⟩ := hx
  obtain ⟨a, c, rfl, hlen, hcell⟩ := h.split
  have HC := Lib.hid hcell
  clear h hcell
  go_enter Try.func29, Try.ntmps29
  go_wp2_with fail
  go_loopg [5, 6] xs.length (fun n s5 s6 wr => ∃ (k : Nat) (d : Int), s6 = .int .i64 k ∧ s5 = .int .i64 d ∧ k ≤ xs.length ∧ Hid (n = xs.length - k) ∧ Hid (d = dsp xs.length (xs.take k) x) ∧ wr = w)
  case atStart => exact ⟨0, -2, rfl, rfl, by omega, rfl, rfl, rfl⟩
  case round =>
    obtain ⟨k, d, rfl, rfl, hk, hn, hp, rfl⟩ := hrel
    by_cases hlt : k < xs.length
    · have hlti : (k : Int) < (xs.length : Int) := by omega
      obtain ⟨b, o, rfl, hcl⟩ := HC.out k hlt
      have hc := hcl k hlt
      obtain ⟨y, hy⟩ : ∃ y, y = xs.getD k 0 := ⟨_, rfl⟩
      rw [← hy] at hc
      clear hcl
      have HY : Hid (xs.take (k + 1) = xs.take k ++ [y] ∧ (xs.take k).length = k) := ⟨by rw [hy]; exact take_snoc hlt, by rw [List.length_take]; omega⟩
      clear hy
      by_cases he : y = x
      · subst he
        go_wp2_with fail
        go_roundg (xs.length - (k + 1))
        case rel => exact ⟨k + 1, _, by go_num, by go_num, by omega, rfl, by
          show _ = _
          rw [HY.out.1, dsp_hit, HY.out.2], rfl⟩
        case measure => have := hn.out; omega
      · have hd : (y == x) = false := by simpa using he
        have hd' : decide (y = x) = false := by simpa using he
        have he' : Hid (y ≠ x) := he
        clear he
        go_wp2_with fail
        go_roundg (xs.length - (k + 1))
        case rel => exact ⟨k + 1, d, by go_num, rfl, by omega, rfl, by
          show _ = _
          rw [HY.out.1, dsp_miss he'.out]; exact hp.out, rfl⟩
        case measure => have := hn.out; omega
    · have HN : Hid (d = dst xs x) := by
        have h1 := hp.out
        rw [List.take_of_length_le (by omega)] at h1
        exact h1
      go_wp2_with fail
      go_ret
      exact ⟨ret_int HN.out, rfl⟩

set_option maxRecDepth 100000 in
set_option maxHeartbeats 1000000 in
theorem same_any (v v' : Value) (xs ys : List Int) (w : World) (h : rd w v xs) (h' : rd w v' ys) :
    Calls Try.prog 18 #[v, v'] w fun e w' => e = .returned (.bool (decide (xs = ys))) ∧ Below w.heap.size w w' := by
  obtain ⟨a, c, rfl, hlen, hcell⟩ := h.split
  obtain ⟨a', c', rfl, hlen', hcell'⟩ := h'.split
  have HC := Lib.hid hcell
  have HC' := Lib.hid hcell'
  clear h h' hcell hcell'
  by_cases hne : xs.length = ys.length
  · have HL := Lib.hid hne
    rw [← hne] at hlen'
    have e1 : ((xs.length : Int) != (xs.length : Int)) = false := by simp
    rw [← hne]
    clear hne
    go_enter Try.func18, Try.ntmps18
    go_wp2_with fail
    go_loopg [5] xs.length (fun n s5 wr => ∃ k : Nat, s5 = .int .i64 k ∧ k ≤ xs.length ∧ Hid (n = xs.length - k) ∧ Hid (xs.take k = ys.take k) ∧ Below w.heap.size w wr)
    case atStart => exact ⟨0, rfl, by omega, rfl, rfl, Below.refl _ _⟩
    case round =>
      obtain ⟨k, rfl, hk, hn, hp, hbl⟩ := hrel
      by_cases hlt : k < xs.length
      · have hlti : (k : Int) < (xs.length : Int) := by omega
        obtain ⟨b, o, rfl, hcl⟩ := HC.out k hlt
        obtain ⟨b', o', rfl, hcl'⟩ := HC'.out k (by rw [← HL.out]; exact hlt)
        have hc0 := hcl k hlt
        have hc0' := hcl' k (by rw [← HL.out]; exact hlt)
        have hc := (hbl.cell (block_lt_of_cell hc0)).trans hc0
        have hc' := (hbl.cell (block_lt_of_cell hc0')).trans hc0'
        have HY : Hid (xs.take (k + 1) = xs.take k ++ [xs.getD k 0] ∧ ys.take (k + 1) = ys.take k ++ [ys.getD k 0]) := ⟨take_snoc hlt, take_snoc (by rw [← HL.out]; exact hlt)⟩
        obtain ⟨y, hy⟩ : ∃ y, y = xs.getD k 0 := ⟨_, rfl⟩
        obtain ⟨y', hy'⟩ : ∃ y', y' = ys.getD k 0 := ⟨_, rfl⟩
        rw [← hy] at hc HY
        rw [← hy'] at hc' HY
        clear hcl hcl' hc0 hc0' hy hy'
        by_cases he : y = y'
        · subst he
          have hd : (y != y) = false := by simp
          go_upto_region 6 with fail
          go_quiet (fail)
          go_wp2_with fail
          go_roundg (xs.length - (k + 1))
          case rel => exact ⟨k + 1, by go_num, by omega, rfl, by
            show _ = _
            rw [HY.out.1, HY.out.2, hp.out], Below.drewN' hbl _⟩
          case measure => have := hn.out; omega
        · have hd : (y != y') = true := by simpa using he
          have HN : Hid (decide (xs = ys) = false) := by
            refine decide_eq_false fun e => he ?_
            have h1 := HY.out.1; have h2 := HY.out.2
            rw [e] at h1; rw [h1] at h2
            have := List.append_inj_right' h2 rfl
            simpa using this
          go_upto_region 6 with fail
          go_quiet (fail)
          go_wp2_with fail
          go_ret
          exact ⟨ret_bool HN.out.symm, Below.drewN' hbl _⟩
      · have HN : Hid (decide (xs = ys) = true) := by
          refine decide_eq_true ?_
          have h1 := hp.out
          rw [List.take_of_length_le (by omega), List.take_of_length_le (by have := HL.out; omega)] at h1
          exact h1
        go_wp2_with fail
        go_ret
        exact ⟨ret_bool HN.out.symm, hbl⟩
  · have e1 : ((xs.length : Int) != (ys.length : Int)) = true := by simp only [bne_iff_ne, ne_eq]; omega
    have HN : Hid (decide (xs = ys) = false) := decide_eq_false fun e => hne (by rw [e])
    go_enter Try.func18, Try.ntmps18
    go_wp2_with fail
    go_ret
    exact ⟨ret_bool HN.out.symm, Below.refl _ _⟩
end Go.Proofs.Ytbalmmaoiebppaa
