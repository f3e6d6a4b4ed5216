/- The free frames of a zone in ascending order; slices.Sort of a slice that is the call's own. Conditions: none. -/
import Derived.Test.YtcmmoemmlellbaaPa
import Derived.Test.YtcmmoemmlellbaaCl
import Derived.Test.YtcmmoemmlellbaaShelg
namespace Go.Proofs.Ytcmmoemmlellbaa
open Go.RowKit

/-- the free frames, ascending -/
def flist (L : FL) : List Int := ((List.range 256).map fun t : Nat => (t : Int)).filter fun x => freeB L x
theorem flist_sorted (L : FL) : (flist L).Pairwise (· < ·) := by
  unfold flist
  refine List.Pairwise.sublist List.filter_sublist ?_
  refine List.Pairwise.map _ ?_ List.pairwise_lt_range
  intro a b h; omega
theorem mem_flist {z : Zh} {L : FL} (hz : z.ok = true) (v : Valid z L) {x : Int} : x ∈ flist L ↔ free L x := by
  unfold flist
  simp only [List.mem_filter, List.mem_map, List.mem_range, freeB_iff v]
  constructor
  · rintro ⟨_, h⟩; exact h
  · intro h
    have h1 := free_zone v h
    have hzz := Zh.ok_iff.1 hz
    exact ⟨⟨x.toNat, by omega, by omega⟩, h⟩
theorem frs_nodup {z : Zh} {L : FL} (hz : z.ok = true) (v : Valid z L) : (frs L).Nodup := by
  have h := chkM_zero.2 ⟨hz, v⟩
  have hs : scanZ z L 5 0 = 0 := (scanZ_zero 5 0).2 fun j _ h2 => ⟨fun b hb => v.ins j (by omega) b hb, v.sorted j (by omega)⟩
  apply Classical.byContradiction
  intro hn
  unfold chkM at h
  rw [if_neg (by simp [hz]), if_neg (by simp [hs]), if_pos hn] at h
  cases h
def sortL (l : List Int) : List Int := l.mergeSort fun x y => decide (x ≤ y)
theorem sortL_len (l : List Int) : (sortL l).length = l.length := by unfold sortL; exact (List.mergeSort_perm l _).length_eq
theorem sort_frs {z : Zh} {L : FL} (hz : z.ok = true) (v : Valid z L) : sortL (frs L) = flist L := by
  have hp : (sortL (frs L)).Perm (frs L) := List.mergeSort_perm _ _
  have hs : (sortL (frs L)).Pairwise fun a b => decide (a ≤ b) = true := List.pairwise_mergeSort (fun a b c h1 h2 => by simp at *; omega) (fun a b => by simp; omega) _
  have hn : (sortL (frs L)).Nodup := hp.nodup_iff.2 (frs_nodup hz v)
  refine sorted_ext ?_ (flist_sorted L) fun x => by rw [hp.mem_iff, mem_frs, mem_flist hz v]
  exact (hs.and hn).imp fun {a b} h => by have h1 := of_decide_eq_true h.1; have h2 : a ≠ b := h.2; omega
theorem frs_flist_len {z : Zh} {L : FL} (hz : z.ok = true) (v : Valid z L) : (flist L).length = (frs L).length := by rw [← sort_frs hz v, sortL_len]

open Go.Sort in
/-- slices.Sort -/
theorem sort_any (v : Value) (xs : List Int) (w : World) (base : Nat) (g : Option Nat) (h : own w base g v xs) (hl : xs.length ≤ 100000) :
    Calls Try.prog 54 #[v] w fun e w' => e = .returned (.tuple #[]) ∧ Go.Proofs.Ytcmmoemmlellbaa.rd w' v (sortL xs) ∧ Keeps (fun k => g = some k) w w' := by
  cases g with
  | none =>
    obtain ⟨rfl, a, rfl⟩ := h
    refine (Try.slices_Sort_int_none a 0 w).mono fun e w' h => ?_
    obtain ⟨rfl, rfl⟩ := h
    exact ⟨rfl, .inl ⟨by simp [sortL], _, _, rfl⟩, Keeps.refl _ _⟩
  | some b =>
    obtain ⟨hb, o, c, C, rfl, hlc, hm, hh, hs, hc⟩ := h
    have hH : Go.Sort.Holds (Value.int .i64) w b o xs.toArray := by
      intro j hj
      simp only [List.size_toArray] at hj
      refine ⟨?_, frozen_of_block hh _⟩
      rw [cell_of_block hh, hc j hj, getD_of_lt hj]
      simp [hj]
    have hlt := lt_of_block hh
    refine (Try.slices_Sort_int b o c xs w hH hlt (by omega)).mono fun e w' h => ?_
    obtain ⟨rfl, n, os, rfl⟩ := h
    have hlen := sortL_len xs
    have hH2 : Go.Sort.Holds (Value.int .i64) (Sort.ahead w n) b o xs.toArray := hH
    refine ⟨rfl, ?_, ⟨rfl, rfl, rfl, ?_, fun k hk hn => ?_⟩⟩
    · by_cases he : xs = []
      · subst he; exact .inl ⟨by simp [sortL], _, _, rfl⟩
      · refine .inr ⟨b, o, c, by rw [hlen], fun e => he (List.length_eq_zero_iff.1 (by rw [← hlen, e]; rfl)), by omega, hm, fun j hj => ?_⟩
        have h1 := cell?_putRow (Value.int .i64) (Sort.ahead w n) b o xs.toArray (sortL xs).toArray hH2 (by simp [hlen]) j (by simpa using hj)
        refine (cell?_grow _ os ⟨b, o + j, none⟩ (by simpa [putRow, mapBlock, Sort.ahead] using hlt)).trans (h1.trans ?_)
        rw [getD_of_lt hj]; simp [hj]
    · show w.heap.size ≤ (grow _ os).heap.size
      rw [size_grow]; simp [putRow, mapBlock, Sort.ahead]
    · refine (heap_grow_old _ os (by simpa [putRow, mapBlock, Sort.ahead] using hk)).trans ?_
      have : b ≠ k := fun e => hn (by rw [e])
      simp [putRow, mapBlock, Sort.ahead, Array.getElem?_modify, this]
end Go.Proofs.Ytcmmoemmlellbaa
